/-
  NARROWER THAN 'FOR EVERY INPUT', by the rows' own cells (each row's printed sentence says how): ConstraintValid: laid · ConstraintSubsumes: laid · ConstraintFormat: laid · TemporalValid: loops, laid · TemporalDual: laid · TemporalShows: laid · ConstraintExcesses: laid · TemporalParse: laid · TemporalText: loops, laid.
  DERIVED. THE GIVEN ROWS OF THIS SEAT. 9 by the template 'for every input the law returns true; each argument reads behind the call as it read before'; 0 by the template 'total and deterministic' (their statements: YtainalmfffjnjaaGreatDoorTotals.lean).
  GIVEN WITH THE SEED: the statements are not yours to turn. If you find one false, say at which input.
  Laid BY PROGRAM, IN A SANDBOX (cutbox-rows.mjs): the forced cells as the released guide's own fill.sh prints them over the translation 5d11fa08762614a9… (all of the seat's roots in one cut). By AI agents, Wed Nov 11 2026. No macro, syntax, notation, axiom, sorry.
-/
import Derived.Test.YtainalmfffjnjaaGreatDoorChecked
import GoSem.Claim
import GoSem.ClaimJoined
import GoSem.ClaimMapViews
import Derived.JoinedTies
import Derived.KernelRfl
namespace Go.Proofs.YtainalmfffjnjaaGreatDoor
/- THE CELL 'sum', in the pinned program and in every row, IS THE sha256 OF THE DUMP (.gsa) THAT YtainalmfffjnjaaGreatDoorProg.lean LOADS. Nothing in Lean hashes anything: it is a label: what it is worth is what the hold of that sum in a sandbox is worth. -/
noncomputable def Tryz.pinned : Pinned := { name := "ytainalmfffjnjaagreatdoor", sum := "5d11fa08762614a9e7730564054828965290f84d5c75d301da618e3062205ac7", checked := Tryz.checked }
namespace Rows
def none {H : Type} : Left H := { results := [], args := [] }

/- WHAT THE LISTED PACKAGE-LEVEL VARIABLES READ AS WHEN THE CALL BEGINS. Each datum BY PROGRAM (the guide's laid-datum.mjs) off the statement by which the dump's own 'gosem.cut.vars' lays the variable. In a bare row this is a premise. The card (YtainalmfffjnjaaGreatDoorCards.lean) ties it to the program's text. -/
def laid_math_bits_deBruijn32tab {H : Type} : DataW H := .agg [.lit (.int .u8 0), .lit (.int .u8 1), .lit (.int .u8 28), .lit (.int .u8 2), .lit (.int .u8 29), .lit (.int .u8 14), .lit (.int .u8 24), .lit (.int .u8 3), .lit (.int .u8 30), .lit (.int .u8 22), .lit (.int .u8 20), .lit (.int .u8 15), .lit (.int .u8 25), .lit (.int .u8 17), .lit (.int .u8 4), .lit (.int .u8 8), .lit (.int .u8 31), .lit (.int .u8 27), .lit (.int .u8 13), .lit (.int .u8 23), .lit (.int .u8 21), .lit (.int .u8 19), .lit (.int .u8 16), .lit (.int .u8 7), .lit (.int .u8 26), .lit (.int .u8 12), .lit (.int .u8 18), .lit (.int .u8 6), .lit (.int .u8 11), .lit (.int .u8 5), .lit (.int .u8 10), .lit (.int .u8 9)]
def laid_math_bits_deBruijn64tab {H : Type} : DataW H := .agg [.lit (.int .u8 0), .lit (.int .u8 1), .lit (.int .u8 56), .lit (.int .u8 2), .lit (.int .u8 57), .lit (.int .u8 49), .lit (.int .u8 28), .lit (.int .u8 3), .lit (.int .u8 61), .lit (.int .u8 58), .lit (.int .u8 42), .lit (.int .u8 50), .lit (.int .u8 38), .lit (.int .u8 29), .lit (.int .u8 17), .lit (.int .u8 4), .lit (.int .u8 62), .lit (.int .u8 47), .lit (.int .u8 59), .lit (.int .u8 36), .lit (.int .u8 45), .lit (.int .u8 43), .lit (.int .u8 51), .lit (.int .u8 22), .lit (.int .u8 53), .lit (.int .u8 39), .lit (.int .u8 33), .lit (.int .u8 30), .lit (.int .u8 24), .lit (.int .u8 18), .lit (.int .u8 12), .lit (.int .u8 5), .lit (.int .u8 63), .lit (.int .u8 55), .lit (.int .u8 48), .lit (.int .u8 27), .lit (.int .u8 60), .lit (.int .u8 41), .lit (.int .u8 37), .lit (.int .u8 16), .lit (.int .u8 46), .lit (.int .u8 35), .lit (.int .u8 44), .lit (.int .u8 21), .lit (.int .u8 52), .lit (.int .u8 32), .lit (.int .u8 23), .lit (.int .u8 11), .lit (.int .u8 54), .lit (.int .u8 26), .lit (.int .u8 40), .lit (.int .u8 15), .lit (.int .u8 34), .lit (.int .u8 20), .lit (.int .u8 31), .lit (.int .u8 10), .lit (.int .u8 25), .lit (.int .u8 14), .lit (.int .u8 19), .lit (.int .u8 9), .lit (.int .u8 13), .lit (.int .u8 8), .lit (.int .u8 7), .lit (.int .u8 6)]
def laid_internal_strconv_uint64pow10 {H : Type} : DataW H := .agg [.lit (.int .u64 1), .lit (.int .u64 10), .lit (.int .u64 100), .lit (.int .u64 1000), .lit (.int .u64 10000), .lit (.int .u64 100000), .lit (.int .u64 1000000), .lit (.int .u64 10000000), .lit (.int .u64 100000000), .lit (.int .u64 1000000000), .lit (.int .u64 10000000000), .lit (.int .u64 100000000000), .lit (.int .u64 1000000000000), .lit (.int .u64 10000000000000), .lit (.int .u64 100000000000000), .lit (.int .u64 1000000000000000), .lit (.int .u64 10000000000000000), .lit (.int .u64 100000000000000000), .lit (.int .u64 1000000000000000000), .lit (.int .u64 10000000000000000000)]
def laid_scarfjoint_temporal_words {H : Type} : DataW H := .slice [.lit (.string [110, 111, 116]), .lit (.string [69, 88]), .lit (.string [69, 70]), .lit (.string [69, 71]), .lit (.string [65, 88]), .lit (.string [65, 70]), .lit (.string [65, 71]), .lit (.string [69]), .lit (.string [65]), .lit (.string [85])] []
def laid_unicode_White_Space {H : Type} : DataW H := .ptr (.agg [.slice [.agg [.lit (.int .u16 9), .lit (.int .u16 13), .lit (.int .u16 1)], .agg [.lit (.int .u16 32), .lit (.int .u16 133), .lit (.int .u16 101)], .agg [.lit (.int .u16 160), .lit (.int .u16 5760), .lit (.int .u16 5600)], .agg [.lit (.int .u16 8192), .lit (.int .u16 8202), .lit (.int .u16 1)], .agg [.lit (.int .u16 8232), .lit (.int .u16 8233), .lit (.int .u16 1)], .agg [.lit (.int .u16 8239), .lit (.int .u16 8287), .lit (.int .u16 48)], .agg [.lit (.int .u16 12288), .lit (.int .u16 12288), .lit (.int .u16 1)]] [], .nil, .lit (.int .i64 2)])
def laid_strings_asciiSpace {H : Type} : DataW H := .agg [.lit (.int .u8 0), .lit (.int .u8 0), .lit (.int .u8 0), .lit (.int .u8 0), .lit (.int .u8 0), .lit (.int .u8 0), .lit (.int .u8 0), .lit (.int .u8 0), .lit (.int .u8 0), .lit (.int .u8 1), .lit (.int .u8 1), .lit (.int .u8 1), .lit (.int .u8 1), .lit (.int .u8 1), .lit (.int .u8 0), .lit (.int .u8 0), .lit (.int .u8 0), .lit (.int .u8 0), .lit (.int .u8 0), .lit (.int .u8 0), .lit (.int .u8 0), .lit (.int .u8 0), .lit (.int .u8 0), .lit (.int .u8 0), .lit (.int .u8 0), .lit (.int .u8 0), .lit (.int .u8 0), .lit (.int .u8 0), .lit (.int .u8 0), .lit (.int .u8 0), .lit (.int .u8 0), .lit (.int .u8 0), .lit (.int .u8 1), .lit (.int .u8 0), .lit (.int .u8 0), .lit (.int .u8 0), .lit (.int .u8 0), .lit (.int .u8 0), .lit (.int .u8 0), .lit (.int .u8 0), .lit (.int .u8 0), .lit (.int .u8 0), .lit (.int .u8 0), .lit (.int .u8 0), .lit (.int .u8 0), .lit (.int .u8 0), .lit (.int .u8 0), .lit (.int .u8 0), .lit (.int .u8 0), .lit (.int .u8 0), .lit (.int .u8 0), .lit (.int .u8 0), .lit (.int .u8 0), .lit (.int .u8 0), .lit (.int .u8 0), .lit (.int .u8 0), .lit (.int .u8 0), .lit (.int .u8 0), .lit (.int .u8 0), .lit (.int .u8 0), .lit (.int .u8 0), .lit (.int .u8 0), .lit (.int .u8 0), .lit (.int .u8 0), .lit (.int .u8 0), .lit (.int .u8 0), .lit (.int .u8 0), .lit (.int .u8 0), .lit (.int .u8 0), .lit (.int .u8 0), .lit (.int .u8 0), .lit (.int .u8 0), .lit (.int .u8 0), .lit (.int .u8 0), .lit (.int .u8 0), .lit (.int .u8 0), .lit (.int .u8 0), .lit (.int .u8 0), .lit (.int .u8 0), .lit (.int .u8 0), .lit (.int .u8 0), .lit (.int .u8 0), .lit (.int .u8 0), .lit (.int .u8 0), .lit (.int .u8 0), .lit (.int .u8 0), .lit (.int .u8 0), .lit (.int .u8 0), .lit (.int .u8 0), .lit (.int .u8 0), .lit (.int .u8 0), .lit (.int .u8 0), .lit (.int .u8 0), .lit (.int .u8 0), .lit (.int .u8 0), .lit (.int .u8 0), .lit (.int .u8 0), .lit (.int .u8 0), .lit (.int .u8 0), .lit (.int .u8 0), .lit (.int .u8 0), .lit (.int .u8 0), .lit (.int .u8 0), .lit (.int .u8 0), .lit (.int .u8 0), .lit (.int .u8 0), .lit (.int .u8 0), .lit (.int .u8 0), .lit (.int .u8 0), .lit (.int .u8 0), .lit (.int .u8 0), .lit (.int .u8 0), .lit (.int .u8 0), .lit (.int .u8 0), .lit (.int .u8 0), .lit (.int .u8 0), .lit (.int .u8 0), .lit (.int .u8 0), .lit (.int .u8 0), .lit (.int .u8 0), .lit (.int .u8 0), .lit (.int .u8 0), .lit (.int .u8 0), .lit (.int .u8 0), .lit (.int .u8 0), .lit (.int .u8 0), .lit (.int .u8 0), .lit (.int .u8 0), .lit (.int .u8 0), .lit (.int .u8 0), .lit (.int .u8 0), .lit (.int .u8 0), .lit (.int .u8 0), .lit (.int .u8 0), .lit (.int .u8 0), .lit (.int .u8 0), .lit (.int .u8 0), .lit (.int .u8 0), .lit (.int .u8 0), .lit (.int .u8 0), .lit (.int .u8 0), .lit (.int .u8 0), .lit (.int .u8 0), .lit (.int .u8 0), .lit (.int .u8 0), .lit (.int .u8 0), .lit (.int .u8 0), .lit (.int .u8 0), .lit (.int .u8 0), .lit (.int .u8 0), .lit (.int .u8 0), .lit (.int .u8 0), .lit (.int .u8 0), .lit (.int .u8 0), .lit (.int .u8 0), .lit (.int .u8 0), .lit (.int .u8 0), .lit (.int .u8 0), .lit (.int .u8 0), .lit (.int .u8 0), .lit (.int .u8 0), .lit (.int .u8 0), .lit (.int .u8 0), .lit (.int .u8 0), .lit (.int .u8 0), .lit (.int .u8 0), .lit (.int .u8 0), .lit (.int .u8 0), .lit (.int .u8 0), .lit (.int .u8 0), .lit (.int .u8 0), .lit (.int .u8 0), .lit (.int .u8 0), .lit (.int .u8 0), .lit (.int .u8 0), .lit (.int .u8 0), .lit (.int .u8 0), .lit (.int .u8 0), .lit (.int .u8 0), .lit (.int .u8 0), .lit (.int .u8 0), .lit (.int .u8 0), .lit (.int .u8 0), .lit (.int .u8 0), .lit (.int .u8 0), .lit (.int .u8 0), .lit (.int .u8 0), .lit (.int .u8 0), .lit (.int .u8 0), .lit (.int .u8 0), .lit (.int .u8 0), .lit (.int .u8 0), .lit (.int .u8 0), .lit (.int .u8 0), .lit (.int .u8 0), .lit (.int .u8 0), .lit (.int .u8 0), .lit (.int .u8 0), .lit (.int .u8 0), .lit (.int .u8 0), .lit (.int .u8 0), .lit (.int .u8 0), .lit (.int .u8 0), .lit (.int .u8 0), .lit (.int .u8 0), .lit (.int .u8 0), .lit (.int .u8 0), .lit (.int .u8 0), .lit (.int .u8 0), .lit (.int .u8 0), .lit (.int .u8 0), .lit (.int .u8 0), .lit (.int .u8 0), .lit (.int .u8 0), .lit (.int .u8 0), .lit (.int .u8 0), .lit (.int .u8 0), .lit (.int .u8 0), .lit (.int .u8 0), .lit (.int .u8 0), .lit (.int .u8 0), .lit (.int .u8 0), .lit (.int .u8 0), .lit (.int .u8 0), .lit (.int .u8 0), .lit (.int .u8 0), .lit (.int .u8 0), .lit (.int .u8 0), .lit (.int .u8 0), .lit (.int .u8 0), .lit (.int .u8 0), .lit (.int .u8 0), .lit (.int .u8 0), .lit (.int .u8 0), .lit (.int .u8 0), .lit (.int .u8 0), .lit (.int .u8 0), .lit (.int .u8 0), .lit (.int .u8 0), .lit (.int .u8 0), .lit (.int .u8 0), .lit (.int .u8 0), .lit (.int .u8 0), .lit (.int .u8 0), .lit (.int .u8 0), .lit (.int .u8 0), .lit (.int .u8 0), .lit (.int .u8 0), .lit (.int .u8 0), .lit (.int .u8 0), .lit (.int .u8 0), .lit (.int .u8 0), .lit (.int .u8 0), .lit (.int .u8 0), .lit (.int .u8 0), .lit (.int .u8 0)]

/-- 'scarfjointlaw42.ConstraintValid': WHATEVER THE INPUT: true; the input reads as it did. -/
def constraintValidSpec : ChangeSpec := { name := "constraintValid", fn := fun _ => fun
  | [d1, d2] => { results := [.lit (.bool true)], args := [d1, d2] }
  | _ => none }
def constraintValidRow : OpenClaim := { program := "ytainalmfffjnjaagreatdoor", sum := "5d11fa08762614a9e7730564054828965290f84d5c75d301da618e3062205ac7", func := "scarfjoint/scarfjointlaw42.ConstraintValid", spec := "constraintValid", inPlace := ["internal/bytealg.IndexByteString"], unfollowed := true, recurses := true, named := ["internal/strconv.uint64pow10", "math/bits.deBruijn32tab", "math/bits.deBruijn64tab"], apart := false, laid := [("math/bits.deBruijn32tab", laid_math_bits_deBruijn32tab), ("math/bits.deBruijn64tab", laid_math_bits_deBruijn64tab), ("internal/strconv.uint64pow10", laid_internal_strconv_uint64pow10)] }
def ConstraintValidSaid : Prop := constraintValidRow.holds Tryz.pinned (OpenSpec.ofChange constraintValidSpec)

/-- ITS FALSE NEIGHBOUR: 'it returns false'. Refute it at one input. -/
def constraintValidWrong : ChangeSpec := { name := "constraintValid", fn := fun _ => fun
  | [d1, d2] => { results := [.lit (.bool false)], args := [d1, d2] }
  | _ => none }
def ConstraintValidWrongFalsely : Prop := constraintValidRow.holds Tryz.pinned (OpenSpec.ofChange constraintValidWrong)

/-- 'scarfjointlaw42.ConstraintSubsumes': WHATEVER THE INPUT: true; the input reads as it did. -/
def constraintSubsumesSpec : ChangeSpec := { name := "constraintSubsumes", fn := fun _ => fun
  | [d1, d2] => { results := [.lit (.bool true)], args := [d1, d2] }
  | _ => none }
def constraintSubsumesRow : OpenClaim := { program := "ytainalmfffjnjaagreatdoor", sum := "5d11fa08762614a9e7730564054828965290f84d5c75d301da618e3062205ac7", func := "scarfjoint/scarfjointlaw42.ConstraintSubsumes", spec := "constraintSubsumes", inPlace := ["internal/bytealg.IndexByteString"], unfollowed := true, recurses := true, named := ["internal/strconv.uint64pow10", "math/bits.deBruijn32tab", "math/bits.deBruijn64tab"], apart := false, laid := [("math/bits.deBruijn32tab", laid_math_bits_deBruijn32tab), ("math/bits.deBruijn64tab", laid_math_bits_deBruijn64tab), ("internal/strconv.uint64pow10", laid_internal_strconv_uint64pow10)] }
def ConstraintSubsumesSaid : Prop := constraintSubsumesRow.holds Tryz.pinned (OpenSpec.ofChange constraintSubsumesSpec)

/-- ITS FALSE NEIGHBOUR: 'it returns false'. Refute it at one input. -/
def constraintSubsumesWrong : ChangeSpec := { name := "constraintSubsumes", fn := fun _ => fun
  | [d1, d2] => { results := [.lit (.bool false)], args := [d1, d2] }
  | _ => none }
def ConstraintSubsumesWrongFalsely : Prop := constraintSubsumesRow.holds Tryz.pinned (OpenSpec.ofChange constraintSubsumesWrong)

/-- 'scarfjointlaw42.ConstraintFormat': WHATEVER THE INPUT: true; the input reads as it did. -/
def constraintFormatSpec : ChangeSpec := { name := "constraintFormat", fn := fun _ => fun
  | [d1, d2] => { results := [.lit (.bool true)], args := [d1, d2] }
  | _ => none }
def constraintFormatRow : OpenClaim := { program := "ytainalmfffjnjaagreatdoor", sum := "5d11fa08762614a9e7730564054828965290f84d5c75d301da618e3062205ac7", func := "scarfjoint/scarfjointlaw42.ConstraintFormat", spec := "constraintFormat", inPlace := ["internal/bytealg.IndexByteString", "internal/abi.NoEscape"], unfollowed := true, recurses := true, named := ["internal/strconv.uint64pow10", "math/bits.deBruijn32tab", "math/bits.deBruijn64tab"], apart := false, laid := [("math/bits.deBruijn32tab", laid_math_bits_deBruijn32tab), ("math/bits.deBruijn64tab", laid_math_bits_deBruijn64tab), ("internal/strconv.uint64pow10", laid_internal_strconv_uint64pow10)] }
def ConstraintFormatSaid : Prop := constraintFormatRow.holds Tryz.pinned (OpenSpec.ofChange constraintFormatSpec)

/-- ITS FALSE NEIGHBOUR: 'it returns false'. Refute it at one input. -/
def constraintFormatWrong : ChangeSpec := { name := "constraintFormat", fn := fun _ => fun
  | [d1, d2] => { results := [.lit (.bool false)], args := [d1, d2] }
  | _ => none }
def ConstraintFormatWrongFalsely : Prop := constraintFormatRow.holds Tryz.pinned (OpenSpec.ofChange constraintFormatWrong)

/-- 'scarfjointlaw50.TemporalValid': WHATEVER THE INPUT: true; the input reads as it did. -/
def temporalValidSpec : ChangeSpec := { name := "temporalValid", fn := fun _ => fun
  | [d] => { results := [.lit (.bool true)], args := [d] }
  | _ => none }
def temporalValidRow : OpenClaim := { program := "ytainalmfffjnjaagreatdoor", sum := "5d11fa08762614a9e7730564054828965290f84d5c75d301da618e3062205ac7", func := "scarfjoint/scarfjointlaw50.TemporalValid", spec := "temporalValid", inPlace := ["internal/bytealg.IndexByteString"], unfollowed := true, recurses := true, named := ["scarfjoint/temporal.words"], loops := true, apart := false, laid := [("scarfjoint/temporal.words", laid_scarfjoint_temporal_words)] }
def TemporalValidSaid : Prop := temporalValidRow.holds Tryz.pinned (OpenSpec.ofChange temporalValidSpec)

/-- ITS FALSE NEIGHBOUR: 'it returns false'. Refute it at one input. -/
def temporalValidWrong : ChangeSpec := { name := "temporalValid", fn := fun _ => fun
  | [d] => { results := [.lit (.bool false)], args := [d] }
  | _ => none }
def TemporalValidWrongFalsely : Prop := temporalValidRow.holds Tryz.pinned (OpenSpec.ofChange temporalValidWrong)

/-- 'scarfjointlaw50.TemporalDual': WHATEVER THE INPUT: true; the input reads as it did. -/
def temporalDualSpec : ChangeSpec := { name := "temporalDual", fn := fun _ => fun
  | [d1, d2] => { results := [.lit (.bool true)], args := [d1, d2] }
  | _ => none }
def temporalDualRow : OpenClaim := { program := "ytainalmfffjnjaagreatdoor", sum := "5d11fa08762614a9e7730564054828965290f84d5c75d301da618e3062205ac7", func := "scarfjoint/scarfjointlaw50.TemporalDual", spec := "temporalDual", inPlace := ["internal/bytealg.IndexByteString"], unfollowed := true, recurses := true, named := ["scarfjoint/temporal.words"], apart := false, laid := [("scarfjoint/temporal.words", laid_scarfjoint_temporal_words)] }
def TemporalDualSaid : Prop := temporalDualRow.holds Tryz.pinned (OpenSpec.ofChange temporalDualSpec)

/-- ITS FALSE NEIGHBOUR: 'it returns false'. Refute it at one input. -/
def temporalDualWrong : ChangeSpec := { name := "temporalDual", fn := fun _ => fun
  | [d1, d2] => { results := [.lit (.bool false)], args := [d1, d2] }
  | _ => none }
def TemporalDualWrongFalsely : Prop := temporalDualRow.holds Tryz.pinned (OpenSpec.ofChange temporalDualWrong)

/-- 'scarfjointlaw50.TemporalShows': WHATEVER THE INPUT: true; the input reads as it did. -/
def temporalShowsSpec : ChangeSpec := { name := "temporalShows", fn := fun _ => fun
  | [d1, d2, d3] => { results := [.lit (.bool true)], args := [d1, d2, d3] }
  | _ => none }
def temporalShowsRow : OpenClaim := { program := "ytainalmfffjnjaagreatdoor", sum := "5d11fa08762614a9e7730564054828965290f84d5c75d301da618e3062205ac7", func := "scarfjoint/scarfjointlaw50.TemporalShows", spec := "temporalShows", inPlace := ["internal/bytealg.IndexByteString"], unfollowed := true, recurses := true, named := ["scarfjoint/temporal.words"], apart := false, laid := [("scarfjoint/temporal.words", laid_scarfjoint_temporal_words)] }
def TemporalShowsSaid : Prop := temporalShowsRow.holds Tryz.pinned (OpenSpec.ofChange temporalShowsSpec)

/-- ITS FALSE NEIGHBOUR: 'it returns false'. Refute it at one input. -/
def temporalShowsWrong : ChangeSpec := { name := "temporalShows", fn := fun _ => fun
  | [d1, d2, d3] => { results := [.lit (.bool false)], args := [d1, d2, d3] }
  | _ => none }
def TemporalShowsWrongFalsely : Prop := temporalShowsRow.holds Tryz.pinned (OpenSpec.ofChange temporalShowsWrong)

/-- 'scarfjointlaw42.ConstraintExcesses': WHATEVER THE INPUT: true; the input reads as it did. -/
def constraintExcessesSpec : ChangeSpec := { name := "constraintExcesses", fn := fun _ => fun
  | [d1, d2] => { results := [.lit (.bool true)], args := [d1, d2] }
  | _ => none }
def constraintExcessesRow : OpenClaim := { program := "ytainalmfffjnjaagreatdoor", sum := "5d11fa08762614a9e7730564054828965290f84d5c75d301da618e3062205ac7", func := "scarfjoint/scarfjointlaw42.ConstraintExcesses", spec := "constraintExcesses", inPlace := ["internal/bytealg.IndexByteString"], unfollowed := true, recurses := true, named := ["internal/strconv.uint64pow10", "math/bits.deBruijn32tab", "math/bits.deBruijn64tab"], apart := false, laid := [("math/bits.deBruijn32tab", laid_math_bits_deBruijn32tab), ("math/bits.deBruijn64tab", laid_math_bits_deBruijn64tab), ("internal/strconv.uint64pow10", laid_internal_strconv_uint64pow10)] }
def ConstraintExcessesSaid : Prop := constraintExcessesRow.holds Tryz.pinned (OpenSpec.ofChange constraintExcessesSpec)

/-- ITS FALSE NEIGHBOUR: 'it returns false'. Refute it at one input. -/
def constraintExcessesWrong : ChangeSpec := { name := "constraintExcesses", fn := fun _ => fun
  | [d1, d2] => { results := [.lit (.bool false)], args := [d1, d2] }
  | _ => none }
def ConstraintExcessesWrongFalsely : Prop := constraintExcessesRow.holds Tryz.pinned (OpenSpec.ofChange constraintExcessesWrong)

/-- 'scarfjointlaw50.TemporalParse': WHATEVER THE INPUT: true; the input reads as it did. -/
def temporalParseSpec : ChangeSpec := { name := "temporalParse", fn := fun _ => fun
  | [d] => { results := [.lit (.bool true)], args := [d] }
  | _ => none }
def temporalParseRow : OpenClaim := { program := "ytainalmfffjnjaagreatdoor", sum := "5d11fa08762614a9e7730564054828965290f84d5c75d301da618e3062205ac7", func := "scarfjoint/scarfjointlaw50.TemporalParse", spec := "temporalParse", inPlace := ["internal/bytealg.IndexByteString"], unfollowed := true, recurses := true, named := ["scarfjoint/temporal.words"], apart := false, laid := [("scarfjoint/temporal.words", laid_scarfjoint_temporal_words)] }
def TemporalParseSaid : Prop := temporalParseRow.holds Tryz.pinned (OpenSpec.ofChange temporalParseSpec)

/-- ITS FALSE NEIGHBOUR: 'it returns false'. Refute it at one input. -/
def temporalParseWrong : ChangeSpec := { name := "temporalParse", fn := fun _ => fun
  | [d] => { results := [.lit (.bool false)], args := [d] }
  | _ => none }
def TemporalParseWrongFalsely : Prop := temporalParseRow.holds Tryz.pinned (OpenSpec.ofChange temporalParseWrong)

/-- 'scarfjointlaw50.TemporalText': WHATEVER THE INPUT: true; the input reads as it did. -/
def temporalTextSpec : ChangeSpec := { name := "temporalText", fn := fun _ => fun
  | [d1, d2] => { results := [.lit (.bool true)], args := [d1, d2] }
  | _ => none }
def temporalTextRow : OpenClaim := { program := "ytainalmfffjnjaagreatdoor", sum := "5d11fa08762614a9e7730564054828965290f84d5c75d301da618e3062205ac7", func := "scarfjoint/scarfjointlaw50.TemporalText", spec := "temporalText", inPlace := ["internal/bytealg.IndexByteString", "internal/abi.NoEscape", "internal/bytealg.MakeNoZero"], unfollowed := true, recurses := true, named := ["scarfjoint/temporal.words", "strings.asciiSpace", "unicode.White_Space"], loops := true, apart := false, laid := [("unicode.White_Space", laid_unicode_White_Space), ("strings.asciiSpace", laid_strings_asciiSpace), ("scarfjoint/temporal.words", laid_scarfjoint_temporal_words)] }
def TemporalTextSaid : Prop := temporalTextRow.holds Tryz.pinned (OpenSpec.ofChange temporalTextSpec)

/-- ITS FALSE NEIGHBOUR: 'it returns false'. Refute it at one input. -/
def temporalTextWrong : ChangeSpec := { name := "temporalText", fn := fun _ => fun
  | [d1, d2] => { results := [.lit (.bool false)], args := [d1, d2] }
  | _ => none }
def TemporalTextWrongFalsely : Prop := temporalTextRow.holds Tryz.pinned (OpenSpec.ofChange temporalTextWrong)

/- THE SECOND FORM. 'bulk': how many values and letters a reading holds, each counted each time it is reached (what is shared counts as often as it is met; a slice's spare places count too). A statement '..UptoSaid' is the law's where the arguments, and the package variables that the reading takes, are together of bulk at most 1048576: NARROWER than '..Said'. Prove '..Said' where nothing that the law and all that it calls make is longer than what came in: it says more and counts as full. Else prove '..UptoSaid'. A law counts once. -/
mutual
def uptoBulk {H : Type} : DataW H → Nat
  | .lit (.string bytes) => bytes.length + 1
  | .lit _ => 1
  | .nil => 1
  | .ptr d => uptoBulk d + 1
  | .slice elems spare => uptoBulkAll elems + uptoBulkAll spare + 1
  | .agg parts => uptoBulkAll parts + 1
  | .iface _ d => uptoBulk d + 1
  | .map entries => uptoBulkEntries entries + 1
  | .held _ => 1
def uptoBulkAll {H : Type} : List (DataW H) → Nat
  | [] => 0
  | d :: r => uptoBulk d + uptoBulkAll r
def uptoBulkEntries {H : Type} : List (Lit × DataW H) → Nat
  | [] => 0
  | x :: r => uptoBulkEntry x + uptoBulkEntries r
def uptoBulkEntry {H : Type} : Lit × DataW H → Nat
  | (.string bytes, d) => bytes.length + uptoBulk d + 1
  | (_, d) => uptoBulk d + 1
 end
def uptoSmall : (H : Type) → List (DataW H) → Bool := fun _ ds => decide (uptoBulkAll ds ≤ 1048576)
def OpenSpec.upto (s : _root_.Go.ChangeSpec) : _root_.Go.OpenSpec := { _root_.Go.OpenSpec.ofChange s with cond := some uptoSmall }

/-- 'scarfjointlaw42.ConstraintValid', WHERE WHAT IT READS IS OF BULK AT MOST 1048576: true; the input reads as it did. -/
def constraintValidUptoRow : OpenClaim := { program := "ytainalmfffjnjaagreatdoor", sum := "5d11fa08762614a9e7730564054828965290f84d5c75d301da618e3062205ac7", func := "scarfjoint/scarfjointlaw42.ConstraintValid", spec := "constraintValid", inPlace := ["internal/bytealg.IndexByteString"], unfollowed := true, recurses := true, named := ["internal/strconv.uint64pow10", "math/bits.deBruijn32tab", "math/bits.deBruijn64tab"], apart := false, laid := [("math/bits.deBruijn32tab", laid_math_bits_deBruijn32tab), ("math/bits.deBruijn64tab", laid_math_bits_deBruijn64tab), ("internal/strconv.uint64pow10", laid_internal_strconv_uint64pow10)], narrowed := true }
def ConstraintValidUptoSaid : Prop := constraintValidUptoRow.holds Tryz.pinned (OpenSpec.upto constraintValidSpec)

/-- 'scarfjointlaw42.ConstraintSubsumes', WHERE WHAT IT READS IS OF BULK AT MOST 1048576: true; the input reads as it did. -/
def constraintSubsumesUptoRow : OpenClaim := { program := "ytainalmfffjnjaagreatdoor", sum := "5d11fa08762614a9e7730564054828965290f84d5c75d301da618e3062205ac7", func := "scarfjoint/scarfjointlaw42.ConstraintSubsumes", spec := "constraintSubsumes", inPlace := ["internal/bytealg.IndexByteString"], unfollowed := true, recurses := true, named := ["internal/strconv.uint64pow10", "math/bits.deBruijn32tab", "math/bits.deBruijn64tab"], apart := false, laid := [("math/bits.deBruijn32tab", laid_math_bits_deBruijn32tab), ("math/bits.deBruijn64tab", laid_math_bits_deBruijn64tab), ("internal/strconv.uint64pow10", laid_internal_strconv_uint64pow10)], narrowed := true }
def ConstraintSubsumesUptoSaid : Prop := constraintSubsumesUptoRow.holds Tryz.pinned (OpenSpec.upto constraintSubsumesSpec)

/-- 'scarfjointlaw42.ConstraintFormat', WHERE WHAT IT READS IS OF BULK AT MOST 1048576: true; the input reads as it did. -/
def constraintFormatUptoRow : OpenClaim := { program := "ytainalmfffjnjaagreatdoor", sum := "5d11fa08762614a9e7730564054828965290f84d5c75d301da618e3062205ac7", func := "scarfjoint/scarfjointlaw42.ConstraintFormat", spec := "constraintFormat", inPlace := ["internal/bytealg.IndexByteString", "internal/abi.NoEscape"], unfollowed := true, recurses := true, named := ["internal/strconv.uint64pow10", "math/bits.deBruijn32tab", "math/bits.deBruijn64tab"], apart := false, laid := [("math/bits.deBruijn32tab", laid_math_bits_deBruijn32tab), ("math/bits.deBruijn64tab", laid_math_bits_deBruijn64tab), ("internal/strconv.uint64pow10", laid_internal_strconv_uint64pow10)], narrowed := true }
def ConstraintFormatUptoSaid : Prop := constraintFormatUptoRow.holds Tryz.pinned (OpenSpec.upto constraintFormatSpec)

/-- 'scarfjointlaw50.TemporalValid', WHERE WHAT IT READS IS OF BULK AT MOST 1048576: true; the input reads as it did. -/
def temporalValidUptoRow : OpenClaim := { program := "ytainalmfffjnjaagreatdoor", sum := "5d11fa08762614a9e7730564054828965290f84d5c75d301da618e3062205ac7", func := "scarfjoint/scarfjointlaw50.TemporalValid", spec := "temporalValid", inPlace := ["internal/bytealg.IndexByteString"], unfollowed := true, recurses := true, named := ["scarfjoint/temporal.words"], loops := true, apart := false, laid := [("scarfjoint/temporal.words", laid_scarfjoint_temporal_words)], narrowed := true }
def TemporalValidUptoSaid : Prop := temporalValidUptoRow.holds Tryz.pinned (OpenSpec.upto temporalValidSpec)

/-- 'scarfjointlaw50.TemporalDual', WHERE WHAT IT READS IS OF BULK AT MOST 1048576: true; the input reads as it did. -/
def temporalDualUptoRow : OpenClaim := { program := "ytainalmfffjnjaagreatdoor", sum := "5d11fa08762614a9e7730564054828965290f84d5c75d301da618e3062205ac7", func := "scarfjoint/scarfjointlaw50.TemporalDual", spec := "temporalDual", inPlace := ["internal/bytealg.IndexByteString"], unfollowed := true, recurses := true, named := ["scarfjoint/temporal.words"], apart := false, laid := [("scarfjoint/temporal.words", laid_scarfjoint_temporal_words)], narrowed := true }
def TemporalDualUptoSaid : Prop := temporalDualUptoRow.holds Tryz.pinned (OpenSpec.upto temporalDualSpec)

/-- 'scarfjointlaw50.TemporalShows', WHERE WHAT IT READS IS OF BULK AT MOST 1048576: true; the input reads as it did. -/
def temporalShowsUptoRow : OpenClaim := { program := "ytainalmfffjnjaagreatdoor", sum := "5d11fa08762614a9e7730564054828965290f84d5c75d301da618e3062205ac7", func := "scarfjoint/scarfjointlaw50.TemporalShows", spec := "temporalShows", inPlace := ["internal/bytealg.IndexByteString"], unfollowed := true, recurses := true, named := ["scarfjoint/temporal.words"], apart := false, laid := [("scarfjoint/temporal.words", laid_scarfjoint_temporal_words)], narrowed := true }
def TemporalShowsUptoSaid : Prop := temporalShowsUptoRow.holds Tryz.pinned (OpenSpec.upto temporalShowsSpec)

/-- 'scarfjointlaw42.ConstraintExcesses', WHERE WHAT IT READS IS OF BULK AT MOST 1048576: true; the input reads as it did. -/
def constraintExcessesUptoRow : OpenClaim := { program := "ytainalmfffjnjaagreatdoor", sum := "5d11fa08762614a9e7730564054828965290f84d5c75d301da618e3062205ac7", func := "scarfjoint/scarfjointlaw42.ConstraintExcesses", spec := "constraintExcesses", inPlace := ["internal/bytealg.IndexByteString"], unfollowed := true, recurses := true, named := ["internal/strconv.uint64pow10", "math/bits.deBruijn32tab", "math/bits.deBruijn64tab"], apart := false, laid := [("math/bits.deBruijn32tab", laid_math_bits_deBruijn32tab), ("math/bits.deBruijn64tab", laid_math_bits_deBruijn64tab), ("internal/strconv.uint64pow10", laid_internal_strconv_uint64pow10)], narrowed := true }
def ConstraintExcessesUptoSaid : Prop := constraintExcessesUptoRow.holds Tryz.pinned (OpenSpec.upto constraintExcessesSpec)

/-- 'scarfjointlaw50.TemporalParse', WHERE WHAT IT READS IS OF BULK AT MOST 1048576: true; the input reads as it did. -/
def temporalParseUptoRow : OpenClaim := { program := "ytainalmfffjnjaagreatdoor", sum := "5d11fa08762614a9e7730564054828965290f84d5c75d301da618e3062205ac7", func := "scarfjoint/scarfjointlaw50.TemporalParse", spec := "temporalParse", inPlace := ["internal/bytealg.IndexByteString"], unfollowed := true, recurses := true, named := ["scarfjoint/temporal.words"], apart := false, laid := [("scarfjoint/temporal.words", laid_scarfjoint_temporal_words)], narrowed := true }
def TemporalParseUptoSaid : Prop := temporalParseUptoRow.holds Tryz.pinned (OpenSpec.upto temporalParseSpec)

/-- 'scarfjointlaw50.TemporalText', WHERE WHAT IT READS IS OF BULK AT MOST 1048576: true; the input reads as it did. -/
def temporalTextUptoRow : OpenClaim := { program := "ytainalmfffjnjaagreatdoor", sum := "5d11fa08762614a9e7730564054828965290f84d5c75d301da618e3062205ac7", func := "scarfjoint/scarfjointlaw50.TemporalText", spec := "temporalText", inPlace := ["internal/bytealg.IndexByteString", "internal/abi.NoEscape", "internal/bytealg.MakeNoZero"], unfollowed := true, recurses := true, named := ["scarfjoint/temporal.words", "strings.asciiSpace", "unicode.White_Space"], loops := true, apart := false, laid := [("unicode.White_Space", laid_unicode_White_Space), ("strings.asciiSpace", laid_strings_asciiSpace), ("scarfjoint/temporal.words", laid_scarfjoint_temporal_words)], narrowed := true }
def TemporalTextUptoSaid : Prop := temporalTextUptoRow.holds Tryz.pinned (OpenSpec.upto temporalTextSpec)

end Rows
end Go.Proofs.YtainalmfffjnjaaGreatDoor
