/-
  DERIVED. GIVEN WITH THE SEED: THE CARDS: each row of YtainalmfffjnjaaGreatDoorRows.lean that lists a variable, with what it lists TIED to the program's text (the seventh form; the later family's looks); each row that meets fmt, with fmt's text TOLD by the authors' own Lean function (tested against real Go, not proved from fmt's source: count such statements apart). THE CARD IS WHAT COUNTS. Prove the row's statement (the work); the ties are given (YtainalmfffjnjaaGreatDoorTie.lean); close each card by the builder's one call (the guide's Derived/Test/ToyasCard.lean, 'card_holds'). Laid BY PROGRAM, IN A SANDBOX (cutbox-door.mjs). By AI agents, Wed Nov 11 2026. No macro, syntax, notation, axiom, sorry.
-/
import Derived.Test.YtainalmfffjnjaaGreatDoorRows
import GoSem.ClaimSeven
namespace Go.Proofs.YtainalmfffjnjaaGreatDoor
namespace Rows

/-- THE TIED CARD OF 'scarfjointlaw42.ConstraintValid'. -/
def constraintValidCard : Claim7 := { stood := { row := constraintValidRow, standIns := [], harness := (true, "a3f47860948e00f7fcbaeae9c8b66ca0dacf20972c5400080071cbdd8340ad38"), looks := false }, kinds := [], alts := [], laidByText := true, laidKinds := [.data, .data, .data], laidTests := true, laidLooks := .later }
def ConstraintValidCardSaid : Prop := Claim7.holds Tryz.pinned (.plain (OpenSpec.ofChange constraintValidSpec)) constraintValidCard

/-- THE TIED CARD OF 'scarfjointlaw42.ConstraintSubsumes'. -/
def constraintSubsumesCard : Claim7 := { stood := { row := constraintSubsumesRow, standIns := [], harness := (true, "a3f47860948e00f7fcbaeae9c8b66ca0dacf20972c5400080071cbdd8340ad38"), looks := false }, kinds := [], alts := [], laidByText := true, laidKinds := [.data, .data, .data], laidTests := true, laidLooks := .later }
def ConstraintSubsumesCardSaid : Prop := Claim7.holds Tryz.pinned (.plain (OpenSpec.ofChange constraintSubsumesSpec)) constraintSubsumesCard

/-- THE TIED CARD OF 'scarfjointlaw42.ConstraintFormat'. -/
def constraintFormatCard : Claim7 := { stood := { row := constraintFormatRow, standIns := [], harness := (true, "a3f47860948e00f7fcbaeae9c8b66ca0dacf20972c5400080071cbdd8340ad38"), looks := false }, kinds := [], alts := [], laidByText := true, laidKinds := [.data, .data, .data], laidTests := true, laidLooks := .later }
def ConstraintFormatCardSaid : Prop := Claim7.holds Tryz.pinned (.plain (OpenSpec.ofChange constraintFormatSpec)) constraintFormatCard

/-- THE TIED CARD OF 'scarfjointlaw50.TemporalValid'. -/
def temporalValidCard : Claim7 := { stood := { row := temporalValidRow, standIns := [], harness := (true, "a3f47860948e00f7fcbaeae9c8b66ca0dacf20972c5400080071cbdd8340ad38"), looks := false }, kinds := [], alts := [], laidByText := true, laidKinds := [.widerDeep], laidTests := true, laidLooks := .later }
def TemporalValidCardSaid : Prop := Claim7.holds Tryz.pinned (.plain (OpenSpec.ofChange temporalValidSpec)) temporalValidCard

/-- THE TIED CARD OF 'scarfjointlaw50.TemporalDual'. -/
def temporalDualCard : Claim7 := { stood := { row := temporalDualRow, standIns := [], harness := (true, "a3f47860948e00f7fcbaeae9c8b66ca0dacf20972c5400080071cbdd8340ad38"), looks := false }, kinds := [], alts := [], laidByText := true, laidKinds := [.widerDeep], laidTests := true, laidLooks := .later }
def TemporalDualCardSaid : Prop := Claim7.holds Tryz.pinned (.plain (OpenSpec.ofChange temporalDualSpec)) temporalDualCard

/-- THE TIED CARD OF 'scarfjointlaw50.TemporalShows'. -/
def temporalShowsCard : Claim7 := { stood := { row := temporalShowsRow, standIns := [], harness := (true, "a3f47860948e00f7fcbaeae9c8b66ca0dacf20972c5400080071cbdd8340ad38"), looks := false }, kinds := [], alts := [], laidByText := true, laidKinds := [.widerDeep], laidTests := true, laidLooks := .later }
def TemporalShowsCardSaid : Prop := Claim7.holds Tryz.pinned (.plain (OpenSpec.ofChange temporalShowsSpec)) temporalShowsCard

/-- THE TIED CARD OF 'scarfjointlaw42.ConstraintExcesses'. -/
def constraintExcessesCard : Claim7 := { stood := { row := constraintExcessesRow, standIns := [], harness := (true, "a3f47860948e00f7fcbaeae9c8b66ca0dacf20972c5400080071cbdd8340ad38"), looks := false }, kinds := [], alts := [], laidByText := true, laidKinds := [.data, .data, .data], laidTests := true, laidLooks := .later }
def ConstraintExcessesCardSaid : Prop := Claim7.holds Tryz.pinned (.plain (OpenSpec.ofChange constraintExcessesSpec)) constraintExcessesCard

/-- THE TIED CARD OF 'scarfjointlaw50.TemporalParse'. -/
def temporalParseCard : Claim7 := { stood := { row := temporalParseRow, standIns := [], harness := (true, "a3f47860948e00f7fcbaeae9c8b66ca0dacf20972c5400080071cbdd8340ad38"), looks := false }, kinds := [], alts := [], laidByText := true, laidKinds := [.widerDeep], laidTests := true, laidLooks := .later }
def TemporalParseCardSaid : Prop := Claim7.holds Tryz.pinned (.plain (OpenSpec.ofChange temporalParseSpec)) temporalParseCard

/-- THE TIED CARD OF 'scarfjointlaw50.TemporalText'. -/
def temporalTextCard : Claim7 := { stood := { row := temporalTextRow, standIns := [], harness := (true, "a3f47860948e00f7fcbaeae9c8b66ca0dacf20972c5400080071cbdd8340ad38"), looks := false }, kinds := [], alts := [], laidByText := true, laidKinds := [.listed, .data, .widerDeep], laidTests := true, laidLooks := .later }
def TemporalTextCardSaid : Prop := Claim7.holds Tryz.pinned (.plain (OpenSpec.ofChange temporalTextSpec)) temporalTextCard

/-- THE SECOND FORM's CARD OF 'scarfjointlaw42.ConstraintValid'. -/
def constraintValidUptoCard : Claim7 := { stood := { row := constraintValidUptoRow, standIns := [], harness := (true, "a3f47860948e00f7fcbaeae9c8b66ca0dacf20972c5400080071cbdd8340ad38"), looks := false }, kinds := [], alts := [], laidByText := true, laidKinds := [.data, .data, .data], laidTests := true, laidLooks := .later }
def ConstraintValidUptoCardSaid : Prop := Claim7.holds Tryz.pinned (.plain (OpenSpec.upto constraintValidSpec)) constraintValidUptoCard

/-- THE SECOND FORM's CARD OF 'scarfjointlaw42.ConstraintSubsumes'. -/
def constraintSubsumesUptoCard : Claim7 := { stood := { row := constraintSubsumesUptoRow, standIns := [], harness := (true, "a3f47860948e00f7fcbaeae9c8b66ca0dacf20972c5400080071cbdd8340ad38"), looks := false }, kinds := [], alts := [], laidByText := true, laidKinds := [.data, .data, .data], laidTests := true, laidLooks := .later }
def ConstraintSubsumesUptoCardSaid : Prop := Claim7.holds Tryz.pinned (.plain (OpenSpec.upto constraintSubsumesSpec)) constraintSubsumesUptoCard

/-- THE SECOND FORM's CARD OF 'scarfjointlaw42.ConstraintFormat'. -/
def constraintFormatUptoCard : Claim7 := { stood := { row := constraintFormatUptoRow, standIns := [], harness := (true, "a3f47860948e00f7fcbaeae9c8b66ca0dacf20972c5400080071cbdd8340ad38"), looks := false }, kinds := [], alts := [], laidByText := true, laidKinds := [.data, .data, .data], laidTests := true, laidLooks := .later }
def ConstraintFormatUptoCardSaid : Prop := Claim7.holds Tryz.pinned (.plain (OpenSpec.upto constraintFormatSpec)) constraintFormatUptoCard

/-- THE SECOND FORM's CARD OF 'scarfjointlaw50.TemporalValid'. -/
def temporalValidUptoCard : Claim7 := { stood := { row := temporalValidUptoRow, standIns := [], harness := (true, "a3f47860948e00f7fcbaeae9c8b66ca0dacf20972c5400080071cbdd8340ad38"), looks := false }, kinds := [], alts := [], laidByText := true, laidKinds := [.widerDeep], laidTests := true, laidLooks := .later }
def TemporalValidUptoCardSaid : Prop := Claim7.holds Tryz.pinned (.plain (OpenSpec.upto temporalValidSpec)) temporalValidUptoCard

/-- THE SECOND FORM's CARD OF 'scarfjointlaw50.TemporalDual'. -/
def temporalDualUptoCard : Claim7 := { stood := { row := temporalDualUptoRow, standIns := [], harness := (true, "a3f47860948e00f7fcbaeae9c8b66ca0dacf20972c5400080071cbdd8340ad38"), looks := false }, kinds := [], alts := [], laidByText := true, laidKinds := [.widerDeep], laidTests := true, laidLooks := .later }
def TemporalDualUptoCardSaid : Prop := Claim7.holds Tryz.pinned (.plain (OpenSpec.upto temporalDualSpec)) temporalDualUptoCard

/-- THE SECOND FORM's CARD OF 'scarfjointlaw50.TemporalShows'. -/
def temporalShowsUptoCard : Claim7 := { stood := { row := temporalShowsUptoRow, standIns := [], harness := (true, "a3f47860948e00f7fcbaeae9c8b66ca0dacf20972c5400080071cbdd8340ad38"), looks := false }, kinds := [], alts := [], laidByText := true, laidKinds := [.widerDeep], laidTests := true, laidLooks := .later }
def TemporalShowsUptoCardSaid : Prop := Claim7.holds Tryz.pinned (.plain (OpenSpec.upto temporalShowsSpec)) temporalShowsUptoCard

/-- THE SECOND FORM's CARD OF 'scarfjointlaw42.ConstraintExcesses'. -/
def constraintExcessesUptoCard : Claim7 := { stood := { row := constraintExcessesUptoRow, standIns := [], harness := (true, "a3f47860948e00f7fcbaeae9c8b66ca0dacf20972c5400080071cbdd8340ad38"), looks := false }, kinds := [], alts := [], laidByText := true, laidKinds := [.data, .data, .data], laidTests := true, laidLooks := .later }
def ConstraintExcessesUptoCardSaid : Prop := Claim7.holds Tryz.pinned (.plain (OpenSpec.upto constraintExcessesSpec)) constraintExcessesUptoCard

/-- THE SECOND FORM's CARD OF 'scarfjointlaw50.TemporalParse'. -/
def temporalParseUptoCard : Claim7 := { stood := { row := temporalParseUptoRow, standIns := [], harness := (true, "a3f47860948e00f7fcbaeae9c8b66ca0dacf20972c5400080071cbdd8340ad38"), looks := false }, kinds := [], alts := [], laidByText := true, laidKinds := [.widerDeep], laidTests := true, laidLooks := .later }
def TemporalParseUptoCardSaid : Prop := Claim7.holds Tryz.pinned (.plain (OpenSpec.upto temporalParseSpec)) temporalParseUptoCard

/-- THE SECOND FORM's CARD OF 'scarfjointlaw50.TemporalText'. -/
def temporalTextUptoCard : Claim7 := { stood := { row := temporalTextUptoRow, standIns := [], harness := (true, "a3f47860948e00f7fcbaeae9c8b66ca0dacf20972c5400080071cbdd8340ad38"), looks := false }, kinds := [], alts := [], laidByText := true, laidKinds := [.listed, .data, .widerDeep], laidTests := true, laidLooks := .later }
def TemporalTextUptoCardSaid : Prop := Claim7.holds Tryz.pinned (.plain (OpenSpec.upto temporalTextSpec)) temporalTextUptoCard
end Rows
end Go.Proofs.YtainalmfffjnjaaGreatDoor
