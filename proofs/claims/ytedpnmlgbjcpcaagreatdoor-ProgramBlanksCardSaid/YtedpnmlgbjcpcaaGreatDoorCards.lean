/-
  DERIVED. GIVEN WITH THE SEED: THE CARDS: each row of YtedpnmlgbjcpcaaGreatDoorRows.lean that lists a variable, with what it lists TIED to the program's text (the seventh form; the later family's looks); each row that meets fmt, with fmt's text TOLD by the authors' own Lean function (tested against real Go, not proved from fmt's source: count such statements apart). THE CARD IS WHAT COUNTS. Prove the row's statement (the work); the ties are given (YtedpnmlgbjcpcaaGreatDoorTie.lean); close each card by the builder's one call (the guide's Derived/Test/ToyasCard.lean, 'card_holds'). Laid BY PROGRAM, IN A SANDBOX (cutbox-door.mjs). By AI agents, Wed Nov 11 2026. No macro, syntax, notation, axiom, sorry.
-/
import Derived.Test.YtedpnmlgbjcpcaaGreatDoorRows
import GoSem.ClaimSeven
namespace Go.Proofs.YtedpnmlgbjcpcaaGreatDoor
namespace Rows

/-- THE TIED CARD OF 'scarfjointlaw46.ProgramFormat'. -/
def programFormatCard : Claim7 := { stood := { row := programFormatRow, standIns := [], harness := (true, "e972a1b925709124e7401ad8f2f52b2ac5c816e5f12c4f0033e435b11d4f15bc"), looks := false }, kinds := [], alts := [], laidByText := true, laidKinds := [.data, .data, .data], laidTests := true, laidLooks := .later }
def ProgramFormatCardSaid : Prop := Claim7.holds Tryz.pinned (.plain (OpenSpec.ofChange programFormatSpec)) programFormatCard

/-- THE TIED CARD OF 'scarfjointlaw46.ProgramParse'. -/
def programParseCard : Claim7 := { stood := { row := programParseRow, standIns := [], harness := (true, "e972a1b925709124e7401ad8f2f52b2ac5c816e5f12c4f0033e435b11d4f15bc"), looks := false }, kinds := [], alts := [], laidByText := true, laidKinds := [.data, .data, .data], laidTests := true, laidLooks := .later }
def ProgramParseCardSaid : Prop := Claim7.holds Tryz.pinned (.plain (OpenSpec.ofChange programParseSpec)) programParseCard

/-- THE TIED CARD OF 'scarfjointlaw46.ProgramUses'. -/
def programUsesCard : Claim7 := { stood := { row := programUsesRow, standIns := [], harness := (true, "e972a1b925709124e7401ad8f2f52b2ac5c816e5f12c4f0033e435b11d4f15bc"), looks := false }, kinds := [], alts := [], laidByText := true, laidKinds := [.data, .data, .data], laidTests := true, laidLooks := .later }
def ProgramUsesCardSaid : Prop := Claim7.holds Tryz.pinned (.plain (OpenSpec.ofChange programUsesSpec)) programUsesCard

/-- THE TIED CARD OF 'scarfjointlaw46.ProgramExpand'. -/
def programExpandCard : Claim7 := { stood := { row := programExpandRow, standIns := [], harness := (true, "e972a1b925709124e7401ad8f2f52b2ac5c816e5f12c4f0033e435b11d4f15bc"), looks := false }, kinds := [], alts := [], laidByText := true, laidKinds := [.data, .data, .data], laidTests := true, laidLooks := .later }
def ProgramExpandCardSaid : Prop := Claim7.holds Tryz.pinned (.plain (OpenSpec.ofChange programExpandSpec)) programExpandCard

/-- THE TIED CARD OF 'scarfjointlaw46.ProgramExpanded'. -/
def programExpandedCard : Claim7 := { stood := { row := programExpandedRow, standIns := [], harness := (true, "e972a1b925709124e7401ad8f2f52b2ac5c816e5f12c4f0033e435b11d4f15bc"), looks := false }, kinds := [], alts := [], laidByText := true, laidKinds := [.data, .data, .data], laidTests := true, laidLooks := .later }
def ProgramExpandedCardSaid : Prop := Claim7.holds Tryz.pinned (.plain (OpenSpec.ofChange programExpandedSpec)) programExpandedCard

/-- THE TIED CARD OF 'scarfjointlaw46.ProgramLater'. -/
def programLaterCard : Claim7 := { stood := { row := programLaterRow, standIns := [], harness := (true, "e972a1b925709124e7401ad8f2f52b2ac5c816e5f12c4f0033e435b11d4f15bc"), looks := false }, kinds := [], alts := [], laidByText := true, laidKinds := [.data, .data, .data], laidTests := true, laidLooks := .later }
def ProgramLaterCardSaid : Prop := Claim7.holds Tryz.pinned (.plain (OpenSpec.ofChange programLaterSpec)) programLaterCard

/-- THE TIED CARD OF 'scarfjointlaw46.ProgramValid'. -/
def programValidCard : Claim7 := { stood := { row := programValidRow, standIns := [], harness := (true, "e972a1b925709124e7401ad8f2f52b2ac5c816e5f12c4f0033e435b11d4f15bc"), looks := false }, kinds := [], alts := [], laidByText := true, laidKinds := [.data, .data, .data], laidTests := true, laidLooks := .later }
def ProgramValidCardSaid : Prop := Claim7.holds Tryz.pinned (.plain (OpenSpec.ofChange programValidSpec)) programValidCard

/-- THE TIED CARD OF 'scarfjointlaw46.ProgramBlanks'. -/
def programBlanksCard : Claim7 := { stood := { row := programBlanksRow, standIns := [], harness := (true, "e972a1b925709124e7401ad8f2f52b2ac5c816e5f12c4f0033e435b11d4f15bc"), looks := false }, kinds := [], alts := [], laidByText := true, laidKinds := [.data, .data, .data, .listed, .data], laidTests := true, laidLooks := .later }
def ProgramBlanksCardSaid : Prop := Claim7.holds Tryz.pinned (.plain (OpenSpec.ofChange programBlanksSpec)) programBlanksCard

/-- THE SECOND FORM's CARD OF 'scarfjointlaw46.ProgramFormat'. -/
def programFormatUptoCard : Claim7 := { stood := { row := programFormatUptoRow, standIns := [], harness := (true, "e972a1b925709124e7401ad8f2f52b2ac5c816e5f12c4f0033e435b11d4f15bc"), looks := false }, kinds := [], alts := [], laidByText := true, laidKinds := [.data, .data, .data], laidTests := true, laidLooks := .later }
def ProgramFormatUptoCardSaid : Prop := Claim7.holds Tryz.pinned (.plain (OpenSpec.upto programFormatSpec)) programFormatUptoCard

/-- THE SECOND FORM's CARD OF 'scarfjointlaw46.ProgramParse'. -/
def programParseUptoCard : Claim7 := { stood := { row := programParseUptoRow, standIns := [], harness := (true, "e972a1b925709124e7401ad8f2f52b2ac5c816e5f12c4f0033e435b11d4f15bc"), looks := false }, kinds := [], alts := [], laidByText := true, laidKinds := [.data, .data, .data], laidTests := true, laidLooks := .later }
def ProgramParseUptoCardSaid : Prop := Claim7.holds Tryz.pinned (.plain (OpenSpec.upto programParseSpec)) programParseUptoCard

/-- THE SECOND FORM's CARD OF 'scarfjointlaw46.ProgramUses'. -/
def programUsesUptoCard : Claim7 := { stood := { row := programUsesUptoRow, standIns := [], harness := (true, "e972a1b925709124e7401ad8f2f52b2ac5c816e5f12c4f0033e435b11d4f15bc"), looks := false }, kinds := [], alts := [], laidByText := true, laidKinds := [.data, .data, .data], laidTests := true, laidLooks := .later }
def ProgramUsesUptoCardSaid : Prop := Claim7.holds Tryz.pinned (.plain (OpenSpec.upto programUsesSpec)) programUsesUptoCard

/-- THE SECOND FORM's CARD OF 'scarfjointlaw46.ProgramExpand'. -/
def programExpandUptoCard : Claim7 := { stood := { row := programExpandUptoRow, standIns := [], harness := (true, "e972a1b925709124e7401ad8f2f52b2ac5c816e5f12c4f0033e435b11d4f15bc"), looks := false }, kinds := [], alts := [], laidByText := true, laidKinds := [.data, .data, .data], laidTests := true, laidLooks := .later }
def ProgramExpandUptoCardSaid : Prop := Claim7.holds Tryz.pinned (.plain (OpenSpec.upto programExpandSpec)) programExpandUptoCard

/-- THE SECOND FORM's CARD OF 'scarfjointlaw46.ProgramExpanded'. -/
def programExpandedUptoCard : Claim7 := { stood := { row := programExpandedUptoRow, standIns := [], harness := (true, "e972a1b925709124e7401ad8f2f52b2ac5c816e5f12c4f0033e435b11d4f15bc"), looks := false }, kinds := [], alts := [], laidByText := true, laidKinds := [.data, .data, .data], laidTests := true, laidLooks := .later }
def ProgramExpandedUptoCardSaid : Prop := Claim7.holds Tryz.pinned (.plain (OpenSpec.upto programExpandedSpec)) programExpandedUptoCard

/-- THE SECOND FORM's CARD OF 'scarfjointlaw46.ProgramLater'. -/
def programLaterUptoCard : Claim7 := { stood := { row := programLaterUptoRow, standIns := [], harness := (true, "e972a1b925709124e7401ad8f2f52b2ac5c816e5f12c4f0033e435b11d4f15bc"), looks := false }, kinds := [], alts := [], laidByText := true, laidKinds := [.data, .data, .data], laidTests := true, laidLooks := .later }
def ProgramLaterUptoCardSaid : Prop := Claim7.holds Tryz.pinned (.plain (OpenSpec.upto programLaterSpec)) programLaterUptoCard

/-- THE SECOND FORM's CARD OF 'scarfjointlaw46.ProgramValid'. -/
def programValidUptoCard : Claim7 := { stood := { row := programValidUptoRow, standIns := [], harness := (true, "e972a1b925709124e7401ad8f2f52b2ac5c816e5f12c4f0033e435b11d4f15bc"), looks := false }, kinds := [], alts := [], laidByText := true, laidKinds := [.data, .data, .data], laidTests := true, laidLooks := .later }
def ProgramValidUptoCardSaid : Prop := Claim7.holds Tryz.pinned (.plain (OpenSpec.upto programValidSpec)) programValidUptoCard

/-- THE SECOND FORM's CARD OF 'scarfjointlaw46.ProgramBlanks'. -/
def programBlanksUptoCard : Claim7 := { stood := { row := programBlanksUptoRow, standIns := [], harness := (true, "e972a1b925709124e7401ad8f2f52b2ac5c816e5f12c4f0033e435b11d4f15bc"), looks := false }, kinds := [], alts := [], laidByText := true, laidKinds := [.data, .data, .data, .listed, .data], laidTests := true, laidLooks := .later }
def ProgramBlanksUptoCardSaid : Prop := Claim7.holds Tryz.pinned (.plain (OpenSpec.upto programBlanksSpec)) programBlanksUptoCard
end Rows
end Go.Proofs.YtedpnmlgbjcpcaaGreatDoor
