/-
  NARROWER THAN 'FOR EVERY INPUT', by the rows' own cells (each row's printed sentence says how): InvariantOpen: loops, laid · InvariantStrengthen: loops, laid · InvariantProve: loops, laid · InvariantCheck: loops, laid · InvariantHolds: laid · InvariantNeeded: laid.
  DERIVED. THE GIVEN ROWS OF THIS SEAT. 6 by the template 'for every input the law returns true; each argument reads behind the call as it read before'; 0 by the template 'total and deterministic' (their statements: YtchfmhhbiealcaaGreatDoorTotals.lean).
  GIVEN WITH THE SEED: the statements are not yours to turn. If you find one false, say at which input.
  Laid BY PROGRAM, IN A SANDBOX (cutbox-rows.mjs): the forced cells as the released guide's own fill.sh prints them over the translation 257fe557a6aec325… (all of the seat's roots in one cut). By AI agents, Wed Nov 11 2026. No macro, syntax, notation, axiom, sorry.
-/
import Derived.Test.YtchfmhhbiealcaaGreatDoorChecked
import GoSem.Claim
import GoSem.ClaimJoined
import GoSem.ClaimMapViews
import Derived.JoinedTies
import Derived.KernelRfl
namespace Go.Proofs.YtchfmhhbiealcaaGreatDoor
/- THE CELL 'sum', in the pinned program and in every row, IS THE sha256 OF THE DUMP (.gsa) THAT YtchfmhhbiealcaaGreatDoorProg.lean LOADS. Nothing in Lean hashes anything: it is a label: what it is worth is what the hold of that sum in a sandbox is worth. -/
noncomputable def Tryz.pinned : Pinned := { name := "ytchfmhhbiealcaagreatdoor", sum := "257fe557a6aec325a1448e3a2de28292f3ae11b0545c5499607e58b9243642e7", checked := Tryz.checked }
namespace Rows
def none {H : Type} : Left H := { results := [], args := [] }

/- WHAT THE LISTED PACKAGE-LEVEL VARIABLES READ AS WHEN THE CALL BEGINS. Each datum BY PROGRAM (the guide's laid-datum.mjs) off the statement by which the dump's own 'gosem.cut.vars' lays the variable. In a bare row this is a premise. The card (YtchfmhhbiealcaaGreatDoorCards.lean) ties it to the program's text. -/
def laid_math_bits_deBruijn32tab {H : Type} : DataW H := .agg [.lit (.int .u8 0), .lit (.int .u8 1), .lit (.int .u8 28), .lit (.int .u8 2), .lit (.int .u8 29), .lit (.int .u8 14), .lit (.int .u8 24), .lit (.int .u8 3), .lit (.int .u8 30), .lit (.int .u8 22), .lit (.int .u8 20), .lit (.int .u8 15), .lit (.int .u8 25), .lit (.int .u8 17), .lit (.int .u8 4), .lit (.int .u8 8), .lit (.int .u8 31), .lit (.int .u8 27), .lit (.int .u8 13), .lit (.int .u8 23), .lit (.int .u8 21), .lit (.int .u8 19), .lit (.int .u8 16), .lit (.int .u8 7), .lit (.int .u8 26), .lit (.int .u8 12), .lit (.int .u8 18), .lit (.int .u8 6), .lit (.int .u8 11), .lit (.int .u8 5), .lit (.int .u8 10), .lit (.int .u8 9)]
def laid_math_bits_deBruijn64tab {H : Type} : DataW H := .agg [.lit (.int .u8 0), .lit (.int .u8 1), .lit (.int .u8 56), .lit (.int .u8 2), .lit (.int .u8 57), .lit (.int .u8 49), .lit (.int .u8 28), .lit (.int .u8 3), .lit (.int .u8 61), .lit (.int .u8 58), .lit (.int .u8 42), .lit (.int .u8 50), .lit (.int .u8 38), .lit (.int .u8 29), .lit (.int .u8 17), .lit (.int .u8 4), .lit (.int .u8 62), .lit (.int .u8 47), .lit (.int .u8 59), .lit (.int .u8 36), .lit (.int .u8 45), .lit (.int .u8 43), .lit (.int .u8 51), .lit (.int .u8 22), .lit (.int .u8 53), .lit (.int .u8 39), .lit (.int .u8 33), .lit (.int .u8 30), .lit (.int .u8 24), .lit (.int .u8 18), .lit (.int .u8 12), .lit (.int .u8 5), .lit (.int .u8 63), .lit (.int .u8 55), .lit (.int .u8 48), .lit (.int .u8 27), .lit (.int .u8 60), .lit (.int .u8 41), .lit (.int .u8 37), .lit (.int .u8 16), .lit (.int .u8 46), .lit (.int .u8 35), .lit (.int .u8 44), .lit (.int .u8 21), .lit (.int .u8 52), .lit (.int .u8 32), .lit (.int .u8 23), .lit (.int .u8 11), .lit (.int .u8 54), .lit (.int .u8 26), .lit (.int .u8 40), .lit (.int .u8 15), .lit (.int .u8 34), .lit (.int .u8 20), .lit (.int .u8 31), .lit (.int .u8 10), .lit (.int .u8 25), .lit (.int .u8 14), .lit (.int .u8 19), .lit (.int .u8 9), .lit (.int .u8 13), .lit (.int .u8 8), .lit (.int .u8 7), .lit (.int .u8 6)]
def laid_internal_strconv_uint64pow10 {H : Type} : DataW H := .agg [.lit (.int .u64 1), .lit (.int .u64 10), .lit (.int .u64 100), .lit (.int .u64 1000), .lit (.int .u64 10000), .lit (.int .u64 100000), .lit (.int .u64 1000000), .lit (.int .u64 10000000), .lit (.int .u64 100000000), .lit (.int .u64 1000000000), .lit (.int .u64 10000000000), .lit (.int .u64 100000000000), .lit (.int .u64 1000000000000), .lit (.int .u64 10000000000000), .lit (.int .u64 100000000000000), .lit (.int .u64 1000000000000000), .lit (.int .u64 10000000000000000), .lit (.int .u64 100000000000000000), .lit (.int .u64 1000000000000000000), .lit (.int .u64 10000000000000000000)]

/-- 'scarfjointlaw44.InvariantOpen': WHATEVER THE INPUT: true; the input reads as it did. -/
def invariantOpenSpec : ChangeSpec := { name := "invariantOpen", fn := fun _ => fun
  | [d] => { results := [.lit (.bool true)], args := [d] }
  | _ => none }
def invariantOpenRow : OpenClaim := { program := "ytchfmhhbiealcaagreatdoor", sum := "257fe557a6aec325a1448e3a2de28292f3ae11b0545c5499607e58b9243642e7", func := "scarfjoint/scarfjointlaw44.InvariantOpen", spec := "invariantOpen", inPlace := ["internal/bytealg.IndexByteString"], unfollowed := true, recurses := true, named := ["internal/strconv.uint64pow10", "math/bits.deBruijn32tab", "math/bits.deBruijn64tab"], loops := true, apart := false, laid := [("math/bits.deBruijn32tab", laid_math_bits_deBruijn32tab), ("math/bits.deBruijn64tab", laid_math_bits_deBruijn64tab), ("internal/strconv.uint64pow10", laid_internal_strconv_uint64pow10)] }
def InvariantOpenSaid : Prop := invariantOpenRow.holds Tryz.pinned (OpenSpec.ofChange invariantOpenSpec)

/-- ITS FALSE NEIGHBOUR: 'it returns false'. Refute it at one input. -/
def invariantOpenWrong : ChangeSpec := { name := "invariantOpen", fn := fun _ => fun
  | [d] => { results := [.lit (.bool false)], args := [d] }
  | _ => none }
def InvariantOpenWrongFalsely : Prop := invariantOpenRow.holds Tryz.pinned (OpenSpec.ofChange invariantOpenWrong)

/-- 'scarfjointlaw44.InvariantStrengthen': WHATEVER THE INPUT: true; the input reads as it did. -/
def invariantStrengthenSpec : ChangeSpec := { name := "invariantStrengthen", fn := fun _ => fun
  | [d1, d2] => { results := [.lit (.bool true)], args := [d1, d2] }
  | _ => none }
def invariantStrengthenRow : OpenClaim := { program := "ytchfmhhbiealcaagreatdoor", sum := "257fe557a6aec325a1448e3a2de28292f3ae11b0545c5499607e58b9243642e7", func := "scarfjoint/scarfjointlaw44.InvariantStrengthen", spec := "invariantStrengthen", inPlace := ["internal/bytealg.IndexByteString"], unfollowed := true, recurses := true, named := ["internal/strconv.uint64pow10", "math/bits.deBruijn32tab", "math/bits.deBruijn64tab"], loops := true, apart := false, laid := [("math/bits.deBruijn32tab", laid_math_bits_deBruijn32tab), ("math/bits.deBruijn64tab", laid_math_bits_deBruijn64tab), ("internal/strconv.uint64pow10", laid_internal_strconv_uint64pow10)] }
def InvariantStrengthenSaid : Prop := invariantStrengthenRow.holds Tryz.pinned (OpenSpec.ofChange invariantStrengthenSpec)

/-- ITS FALSE NEIGHBOUR: 'it returns false'. Refute it at one input. -/
def invariantStrengthenWrong : ChangeSpec := { name := "invariantStrengthen", fn := fun _ => fun
  | [d1, d2] => { results := [.lit (.bool false)], args := [d1, d2] }
  | _ => none }
def InvariantStrengthenWrongFalsely : Prop := invariantStrengthenRow.holds Tryz.pinned (OpenSpec.ofChange invariantStrengthenWrong)

/-- 'scarfjointlaw44.InvariantProve': WHATEVER THE INPUT: true; the input reads as it did. -/
def invariantProveSpec : ChangeSpec := { name := "invariantProve", fn := fun _ => fun
  | [d] => { results := [.lit (.bool true)], args := [d] }
  | _ => none }
def invariantProveRow : OpenClaim := { program := "ytchfmhhbiealcaagreatdoor", sum := "257fe557a6aec325a1448e3a2de28292f3ae11b0545c5499607e58b9243642e7", func := "scarfjoint/scarfjointlaw44.InvariantProve", spec := "invariantProve", inPlace := ["internal/bytealg.IndexByteString"], unfollowed := true, recurses := true, named := ["internal/strconv.uint64pow10", "math/bits.deBruijn32tab", "math/bits.deBruijn64tab"], loops := true, apart := false, laid := [("math/bits.deBruijn32tab", laid_math_bits_deBruijn32tab), ("math/bits.deBruijn64tab", laid_math_bits_deBruijn64tab), ("internal/strconv.uint64pow10", laid_internal_strconv_uint64pow10)] }
def InvariantProveSaid : Prop := invariantProveRow.holds Tryz.pinned (OpenSpec.ofChange invariantProveSpec)

/-- ITS FALSE NEIGHBOUR: 'it returns false'. Refute it at one input. -/
def invariantProveWrong : ChangeSpec := { name := "invariantProve", fn := fun _ => fun
  | [d] => { results := [.lit (.bool false)], args := [d] }
  | _ => none }
def InvariantProveWrongFalsely : Prop := invariantProveRow.holds Tryz.pinned (OpenSpec.ofChange invariantProveWrong)

/-- 'scarfjointlaw44.InvariantCheck': WHATEVER THE INPUT: true; the input reads as it did. -/
def invariantCheckSpec : ChangeSpec := { name := "invariantCheck", fn := fun _ => fun
  | [d1, d2] => { results := [.lit (.bool true)], args := [d1, d2] }
  | _ => none }
def invariantCheckRow : OpenClaim := { program := "ytchfmhhbiealcaagreatdoor", sum := "257fe557a6aec325a1448e3a2de28292f3ae11b0545c5499607e58b9243642e7", func := "scarfjoint/scarfjointlaw44.InvariantCheck", spec := "invariantCheck", inPlace := ["internal/bytealg.IndexByteString"], unfollowed := true, recurses := true, named := ["internal/strconv.uint64pow10", "math/bits.deBruijn32tab", "math/bits.deBruijn64tab"], loops := true, apart := false, laid := [("math/bits.deBruijn32tab", laid_math_bits_deBruijn32tab), ("math/bits.deBruijn64tab", laid_math_bits_deBruijn64tab), ("internal/strconv.uint64pow10", laid_internal_strconv_uint64pow10)] }
def InvariantCheckSaid : Prop := invariantCheckRow.holds Tryz.pinned (OpenSpec.ofChange invariantCheckSpec)

/-- ITS FALSE NEIGHBOUR: 'it returns false'. Refute it at one input. -/
def invariantCheckWrong : ChangeSpec := { name := "invariantCheck", fn := fun _ => fun
  | [d1, d2] => { results := [.lit (.bool false)], args := [d1, d2] }
  | _ => none }
def InvariantCheckWrongFalsely : Prop := invariantCheckRow.holds Tryz.pinned (OpenSpec.ofChange invariantCheckWrong)

/-- 'scarfjointlaw44.InvariantHolds': WHATEVER THE INPUT: true; the input reads as it did. -/
def invariantHoldsSpec : ChangeSpec := { name := "invariantHolds", fn := fun _ => fun
  | [d] => { results := [.lit (.bool true)], args := [d] }
  | _ => none }
def invariantHoldsRow : OpenClaim := { program := "ytchfmhhbiealcaagreatdoor", sum := "257fe557a6aec325a1448e3a2de28292f3ae11b0545c5499607e58b9243642e7", func := "scarfjoint/scarfjointlaw44.InvariantHolds", spec := "invariantHolds", inPlace := ["internal/bytealg.IndexByteString"], unfollowed := true, recurses := true, named := ["internal/strconv.uint64pow10", "math/bits.deBruijn32tab", "math/bits.deBruijn64tab"], apart := false, laid := [("math/bits.deBruijn32tab", laid_math_bits_deBruijn32tab), ("math/bits.deBruijn64tab", laid_math_bits_deBruijn64tab), ("internal/strconv.uint64pow10", laid_internal_strconv_uint64pow10)] }
def InvariantHoldsSaid : Prop := invariantHoldsRow.holds Tryz.pinned (OpenSpec.ofChange invariantHoldsSpec)

/-- ITS FALSE NEIGHBOUR: 'it returns false'. Refute it at one input. -/
def invariantHoldsWrong : ChangeSpec := { name := "invariantHolds", fn := fun _ => fun
  | [d] => { results := [.lit (.bool false)], args := [d] }
  | _ => none }
def InvariantHoldsWrongFalsely : Prop := invariantHoldsRow.holds Tryz.pinned (OpenSpec.ofChange invariantHoldsWrong)

/-- 'scarfjointlaw44.InvariantNeeded': WHATEVER THE INPUT: true; the input reads as it did. -/
def invariantNeededSpec : ChangeSpec := { name := "invariantNeeded", fn := fun _ => fun
  | [d] => { results := [.lit (.bool true)], args := [d] }
  | _ => none }
def invariantNeededRow : OpenClaim := { program := "ytchfmhhbiealcaagreatdoor", sum := "257fe557a6aec325a1448e3a2de28292f3ae11b0545c5499607e58b9243642e7", func := "scarfjoint/scarfjointlaw44.InvariantNeeded", spec := "invariantNeeded", inPlace := ["internal/bytealg.IndexByteString"], unfollowed := true, recurses := true, named := ["internal/strconv.uint64pow10", "math/bits.deBruijn32tab", "math/bits.deBruijn64tab"], apart := false, laid := [("math/bits.deBruijn32tab", laid_math_bits_deBruijn32tab), ("math/bits.deBruijn64tab", laid_math_bits_deBruijn64tab), ("internal/strconv.uint64pow10", laid_internal_strconv_uint64pow10)] }
def InvariantNeededSaid : Prop := invariantNeededRow.holds Tryz.pinned (OpenSpec.ofChange invariantNeededSpec)

/-- ITS FALSE NEIGHBOUR: 'it returns false'. Refute it at one input. -/
def invariantNeededWrong : ChangeSpec := { name := "invariantNeeded", fn := fun _ => fun
  | [d] => { results := [.lit (.bool false)], args := [d] }
  | _ => none }
def InvariantNeededWrongFalsely : Prop := invariantNeededRow.holds Tryz.pinned (OpenSpec.ofChange invariantNeededWrong)

/- THE SECOND FORM. 'bulk': how many values and letters a reading holds, each counted each time it is reached (what is shared counts as often as it is met; a slice's spare places count too). A statement '..UptoSaid' is the law's where the arguments, and the package variables that the reading takes, are together of bulk at most 1048576: NARROWER than '..Said'. Prove '..Said' where nothing that the law and all that it calls make is longer than what came in: it says more and counts as full. Else prove '..UptoSaid'. A law counts once. -/
mutual
def uptoBulk {H : Type} : DataW H → Nat
  | .lit (.string bytes) => bytes.length + 1
  | .lit _ => 1
  | .nil => 1
  | .ptr d => uptoBulk d + 1
  | .slice elems spare => uptoBulkAll elems + uptoBulkAll spare + 1
  | .agg parts => uptoBulkAll parts + 1
  | .iface _ d => uptoBulk d + 1
  | .map entries => uptoBulkEntries entries + 1
  | .held _ => 1
def uptoBulkAll {H : Type} : List (DataW H) → Nat
  | [] => 0
  | d :: r => uptoBulk d + uptoBulkAll r
def uptoBulkEntries {H : Type} : List (Lit × DataW H) → Nat
  | [] => 0
  | x :: r => uptoBulkEntry x + uptoBulkEntries r
def uptoBulkEntry {H : Type} : Lit × DataW H → Nat
  | (.string bytes, d) => bytes.length + uptoBulk d + 1
  | (_, d) => uptoBulk d + 1
 end
def uptoSmall : (H : Type) → List (DataW H) → Bool := fun _ ds => decide (uptoBulkAll ds ≤ 1048576)
def OpenSpec.upto (s : _root_.Go.ChangeSpec) : _root_.Go.OpenSpec := { _root_.Go.OpenSpec.ofChange s with cond := some uptoSmall }

/-- 'scarfjointlaw44.InvariantOpen', WHERE WHAT IT READS IS OF BULK AT MOST 1048576: true; the input reads as it did. -/
def invariantOpenUptoRow : OpenClaim := { program := "ytchfmhhbiealcaagreatdoor", sum := "257fe557a6aec325a1448e3a2de28292f3ae11b0545c5499607e58b9243642e7", func := "scarfjoint/scarfjointlaw44.InvariantOpen", spec := "invariantOpen", inPlace := ["internal/bytealg.IndexByteString"], unfollowed := true, recurses := true, named := ["internal/strconv.uint64pow10", "math/bits.deBruijn32tab", "math/bits.deBruijn64tab"], loops := true, apart := false, laid := [("math/bits.deBruijn32tab", laid_math_bits_deBruijn32tab), ("math/bits.deBruijn64tab", laid_math_bits_deBruijn64tab), ("internal/strconv.uint64pow10", laid_internal_strconv_uint64pow10)], narrowed := true }
def InvariantOpenUptoSaid : Prop := invariantOpenUptoRow.holds Tryz.pinned (OpenSpec.upto invariantOpenSpec)

/-- 'scarfjointlaw44.InvariantStrengthen', WHERE WHAT IT READS IS OF BULK AT MOST 1048576: true; the input reads as it did. -/
def invariantStrengthenUptoRow : OpenClaim := { program := "ytchfmhhbiealcaagreatdoor", sum := "257fe557a6aec325a1448e3a2de28292f3ae11b0545c5499607e58b9243642e7", func := "scarfjoint/scarfjointlaw44.InvariantStrengthen", spec := "invariantStrengthen", inPlace := ["internal/bytealg.IndexByteString"], unfollowed := true, recurses := true, named := ["internal/strconv.uint64pow10", "math/bits.deBruijn32tab", "math/bits.deBruijn64tab"], loops := true, apart := false, laid := [("math/bits.deBruijn32tab", laid_math_bits_deBruijn32tab), ("math/bits.deBruijn64tab", laid_math_bits_deBruijn64tab), ("internal/strconv.uint64pow10", laid_internal_strconv_uint64pow10)], narrowed := true }
def InvariantStrengthenUptoSaid : Prop := invariantStrengthenUptoRow.holds Tryz.pinned (OpenSpec.upto invariantStrengthenSpec)

/-- 'scarfjointlaw44.InvariantProve', WHERE WHAT IT READS IS OF BULK AT MOST 1048576: true; the input reads as it did. -/
def invariantProveUptoRow : OpenClaim := { program := "ytchfmhhbiealcaagreatdoor", sum := "257fe557a6aec325a1448e3a2de28292f3ae11b0545c5499607e58b9243642e7", func := "scarfjoint/scarfjointlaw44.InvariantProve", spec := "invariantProve", inPlace := ["internal/bytealg.IndexByteString"], unfollowed := true, recurses := true, named := ["internal/strconv.uint64pow10", "math/bits.deBruijn32tab", "math/bits.deBruijn64tab"], loops := true, apart := false, laid := [("math/bits.deBruijn32tab", laid_math_bits_deBruijn32tab), ("math/bits.deBruijn64tab", laid_math_bits_deBruijn64tab), ("internal/strconv.uint64pow10", laid_internal_strconv_uint64pow10)], narrowed := true }
def InvariantProveUptoSaid : Prop := invariantProveUptoRow.holds Tryz.pinned (OpenSpec.upto invariantProveSpec)

/-- 'scarfjointlaw44.InvariantCheck', WHERE WHAT IT READS IS OF BULK AT MOST 1048576: true; the input reads as it did. -/
def invariantCheckUptoRow : OpenClaim := { program := "ytchfmhhbiealcaagreatdoor", sum := "257fe557a6aec325a1448e3a2de28292f3ae11b0545c5499607e58b9243642e7", func := "scarfjoint/scarfjointlaw44.InvariantCheck", spec := "invariantCheck", inPlace := ["internal/bytealg.IndexByteString"], unfollowed := true, recurses := true, named := ["internal/strconv.uint64pow10", "math/bits.deBruijn32tab", "math/bits.deBruijn64tab"], loops := true, apart := false, laid := [("math/bits.deBruijn32tab", laid_math_bits_deBruijn32tab), ("math/bits.deBruijn64tab", laid_math_bits_deBruijn64tab), ("internal/strconv.uint64pow10", laid_internal_strconv_uint64pow10)], narrowed := true }
def InvariantCheckUptoSaid : Prop := invariantCheckUptoRow.holds Tryz.pinned (OpenSpec.upto invariantCheckSpec)

/-- 'scarfjointlaw44.InvariantHolds', WHERE WHAT IT READS IS OF BULK AT MOST 1048576: true; the input reads as it did. -/
def invariantHoldsUptoRow : OpenClaim := { program := "ytchfmhhbiealcaagreatdoor", sum := "257fe557a6aec325a1448e3a2de28292f3ae11b0545c5499607e58b9243642e7", func := "scarfjoint/scarfjointlaw44.InvariantHolds", spec := "invariantHolds", inPlace := ["internal/bytealg.IndexByteString"], unfollowed := true, recurses := true, named := ["internal/strconv.uint64pow10", "math/bits.deBruijn32tab", "math/bits.deBruijn64tab"], apart := false, laid := [("math/bits.deBruijn32tab", laid_math_bits_deBruijn32tab), ("math/bits.deBruijn64tab", laid_math_bits_deBruijn64tab), ("internal/strconv.uint64pow10", laid_internal_strconv_uint64pow10)], narrowed := true }
def InvariantHoldsUptoSaid : Prop := invariantHoldsUptoRow.holds Tryz.pinned (OpenSpec.upto invariantHoldsSpec)

/-- 'scarfjointlaw44.InvariantNeeded', WHERE WHAT IT READS IS OF BULK AT MOST 1048576: true; the input reads as it did. -/
def invariantNeededUptoRow : OpenClaim := { program := "ytchfmhhbiealcaagreatdoor", sum := "257fe557a6aec325a1448e3a2de28292f3ae11b0545c5499607e58b9243642e7", func := "scarfjoint/scarfjointlaw44.InvariantNeeded", spec := "invariantNeeded", inPlace := ["internal/bytealg.IndexByteString"], unfollowed := true, recurses := true, named := ["internal/strconv.uint64pow10", "math/bits.deBruijn32tab", "math/bits.deBruijn64tab"], apart := false, laid := [("math/bits.deBruijn32tab", laid_math_bits_deBruijn32tab), ("math/bits.deBruijn64tab", laid_math_bits_deBruijn64tab), ("internal/strconv.uint64pow10", laid_internal_strconv_uint64pow10)], narrowed := true }
def InvariantNeededUptoSaid : Prop := invariantNeededUptoRow.holds Tryz.pinned (OpenSpec.upto invariantNeededSpec)

end Rows
end Go.Proofs.YtchfmhhbiealcaaGreatDoor
