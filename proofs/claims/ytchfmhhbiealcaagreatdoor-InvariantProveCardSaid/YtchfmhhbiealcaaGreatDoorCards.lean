/-
  DERIVED. GIVEN WITH THE SEED: THE CARDS: each row of YtchfmhhbiealcaaGreatDoorRows.lean that lists a variable, with what it lists TIED to the program's text (the seventh form; the later family's looks); each row that meets fmt, with fmt's text TOLD by the authors' own Lean function (tested against real Go, not proved from fmt's source: count such statements apart). THE CARD IS WHAT COUNTS. Prove the row's statement (the work); the ties are given (YtchfmhhbiealcaaGreatDoorTie.lean); close each card by the builder's one call (the guide's Derived/Test/ToyasCard.lean, 'card_holds'). Laid BY PROGRAM, IN A SANDBOX (cutbox-door.mjs). By AI agents, Wed Nov 11 2026. No macro, syntax, notation, axiom, sorry.
-/
import Derived.Test.YtchfmhhbiealcaaGreatDoorRows
import GoSem.ClaimSeven
namespace Go.Proofs.YtchfmhhbiealcaaGreatDoor
namespace Rows

/-- THE TIED CARD OF 'scarfjointlaw44.InvariantOpen'. -/
def invariantOpenCard : Claim7 := { stood := { row := invariantOpenRow, standIns := [], harness := (true, "95b473fd61bf1b1498cc3aca708f0c25f570193d314b3acb20c9251ab7181ada"), looks := false }, kinds := [], alts := [], laidByText := true, laidKinds := [.data, .data, .data], laidTests := true, laidLooks := .later }
def InvariantOpenCardSaid : Prop := Claim7.holds Tryz.pinned (.plain (OpenSpec.ofChange invariantOpenSpec)) invariantOpenCard

/-- THE TIED CARD OF 'scarfjointlaw44.InvariantStrengthen'. -/
def invariantStrengthenCard : Claim7 := { stood := { row := invariantStrengthenRow, standIns := [], harness := (true, "95b473fd61bf1b1498cc3aca708f0c25f570193d314b3acb20c9251ab7181ada"), looks := false }, kinds := [], alts := [], laidByText := true, laidKinds := [.data, .data, .data], laidTests := true, laidLooks := .later }
def InvariantStrengthenCardSaid : Prop := Claim7.holds Tryz.pinned (.plain (OpenSpec.ofChange invariantStrengthenSpec)) invariantStrengthenCard

/-- THE TIED CARD OF 'scarfjointlaw44.InvariantProve'. -/
def invariantProveCard : Claim7 := { stood := { row := invariantProveRow, standIns := [], harness := (true, "95b473fd61bf1b1498cc3aca708f0c25f570193d314b3acb20c9251ab7181ada"), looks := false }, kinds := [], alts := [], laidByText := true, laidKinds := [.data, .data, .data], laidTests := true, laidLooks := .later }
def InvariantProveCardSaid : Prop := Claim7.holds Tryz.pinned (.plain (OpenSpec.ofChange invariantProveSpec)) invariantProveCard

/-- THE TIED CARD OF 'scarfjointlaw44.InvariantCheck'. -/
def invariantCheckCard : Claim7 := { stood := { row := invariantCheckRow, standIns := [], harness := (true, "95b473fd61bf1b1498cc3aca708f0c25f570193d314b3acb20c9251ab7181ada"), looks := false }, kinds := [], alts := [], laidByText := true, laidKinds := [.data, .data, .data], laidTests := true, laidLooks := .later }
def InvariantCheckCardSaid : Prop := Claim7.holds Tryz.pinned (.plain (OpenSpec.ofChange invariantCheckSpec)) invariantCheckCard

/-- THE TIED CARD OF 'scarfjointlaw44.InvariantHolds'. -/
def invariantHoldsCard : Claim7 := { stood := { row := invariantHoldsRow, standIns := [], harness := (true, "95b473fd61bf1b1498cc3aca708f0c25f570193d314b3acb20c9251ab7181ada"), looks := false }, kinds := [], alts := [], laidByText := true, laidKinds := [.data, .data, .data], laidTests := true, laidLooks := .later }
def InvariantHoldsCardSaid : Prop := Claim7.holds Tryz.pinned (.plain (OpenSpec.ofChange invariantHoldsSpec)) invariantHoldsCard

/-- THE TIED CARD OF 'scarfjointlaw44.InvariantNeeded'. -/
def invariantNeededCard : Claim7 := { stood := { row := invariantNeededRow, standIns := [], harness := (true, "95b473fd61bf1b1498cc3aca708f0c25f570193d314b3acb20c9251ab7181ada"), looks := false }, kinds := [], alts := [], laidByText := true, laidKinds := [.data, .data, .data], laidTests := true, laidLooks := .later }
def InvariantNeededCardSaid : Prop := Claim7.holds Tryz.pinned (.plain (OpenSpec.ofChange invariantNeededSpec)) invariantNeededCard

/-- THE SECOND FORM's CARD OF 'scarfjointlaw44.InvariantOpen'. -/
def invariantOpenUptoCard : Claim7 := { stood := { row := invariantOpenUptoRow, standIns := [], harness := (true, "95b473fd61bf1b1498cc3aca708f0c25f570193d314b3acb20c9251ab7181ada"), looks := false }, kinds := [], alts := [], laidByText := true, laidKinds := [.data, .data, .data], laidTests := true, laidLooks := .later }
def InvariantOpenUptoCardSaid : Prop := Claim7.holds Tryz.pinned (.plain (OpenSpec.upto invariantOpenSpec)) invariantOpenUptoCard

/-- THE SECOND FORM's CARD OF 'scarfjointlaw44.InvariantStrengthen'. -/
def invariantStrengthenUptoCard : Claim7 := { stood := { row := invariantStrengthenUptoRow, standIns := [], harness := (true, "95b473fd61bf1b1498cc3aca708f0c25f570193d314b3acb20c9251ab7181ada"), looks := false }, kinds := [], alts := [], laidByText := true, laidKinds := [.data, .data, .data], laidTests := true, laidLooks := .later }
def InvariantStrengthenUptoCardSaid : Prop := Claim7.holds Tryz.pinned (.plain (OpenSpec.upto invariantStrengthenSpec)) invariantStrengthenUptoCard

/-- THE SECOND FORM's CARD OF 'scarfjointlaw44.InvariantProve'. -/
def invariantProveUptoCard : Claim7 := { stood := { row := invariantProveUptoRow, standIns := [], harness := (true, "95b473fd61bf1b1498cc3aca708f0c25f570193d314b3acb20c9251ab7181ada"), looks := false }, kinds := [], alts := [], laidByText := true, laidKinds := [.data, .data, .data], laidTests := true, laidLooks := .later }
def InvariantProveUptoCardSaid : Prop := Claim7.holds Tryz.pinned (.plain (OpenSpec.upto invariantProveSpec)) invariantProveUptoCard

/-- THE SECOND FORM's CARD OF 'scarfjointlaw44.InvariantCheck'. -/
def invariantCheckUptoCard : Claim7 := { stood := { row := invariantCheckUptoRow, standIns := [], harness := (true, "95b473fd61bf1b1498cc3aca708f0c25f570193d314b3acb20c9251ab7181ada"), looks := false }, kinds := [], alts := [], laidByText := true, laidKinds := [.data, .data, .data], laidTests := true, laidLooks := .later }
def InvariantCheckUptoCardSaid : Prop := Claim7.holds Tryz.pinned (.plain (OpenSpec.upto invariantCheckSpec)) invariantCheckUptoCard

/-- THE SECOND FORM's CARD OF 'scarfjointlaw44.InvariantHolds'. -/
def invariantHoldsUptoCard : Claim7 := { stood := { row := invariantHoldsUptoRow, standIns := [], harness := (true, "95b473fd61bf1b1498cc3aca708f0c25f570193d314b3acb20c9251ab7181ada"), looks := false }, kinds := [], alts := [], laidByText := true, laidKinds := [.data, .data, .data], laidTests := true, laidLooks := .later }
def InvariantHoldsUptoCardSaid : Prop := Claim7.holds Tryz.pinned (.plain (OpenSpec.upto invariantHoldsSpec)) invariantHoldsUptoCard

/-- THE SECOND FORM's CARD OF 'scarfjointlaw44.InvariantNeeded'. -/
def invariantNeededUptoCard : Claim7 := { stood := { row := invariantNeededUptoRow, standIns := [], harness := (true, "95b473fd61bf1b1498cc3aca708f0c25f570193d314b3acb20c9251ab7181ada"), looks := false }, kinds := [], alts := [], laidByText := true, laidKinds := [.data, .data, .data], laidTests := true, laidLooks := .later }
def InvariantNeededUptoCardSaid : Prop := Claim7.holds Tryz.pinned (.plain (OpenSpec.upto invariantNeededSpec)) invariantNeededUptoCard
end Rows
end Go.Proofs.YtchfmhhbiealcaaGreatDoor
