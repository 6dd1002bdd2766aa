/-
  NARROWER THAN 'FOR EVERY INPUT', by the rows' own cells (each row's printed sentence says how): TransportLeft: loops · TransportApplicable: loops · TransportRight: loops · TransportPrune: loops.
  DERIVED. THE GIVEN ROWS OF THIS SEAT. 8 by the template 'for every input the law returns true; each argument reads behind the call as it read before'; 0 by the template 'total and deterministic' (their statements: YtfgcpmeadeehhaaGreatTotals.lean).
  GIVEN WITH THE SEED: the statements are not yours to turn. If you find one false, say at which input.
  Laid BY PROGRAM, IN A SANDBOX (cutbox-rows.mjs): the forced cells as the released guide's own fill.sh prints them over the translation 16ac8fc3e264ea03… (all of the seat's roots in one cut). By AI agents, Wed Nov 11 2026. No macro, syntax, notation, axiom, sorry.
-/
import Derived.Test.YtfgcpmeadeehhaaGreatChecked
import GoSem.Claim
import GoSem.ClaimJoined
import GoSem.ClaimMapViews
import Derived.JoinedTies
import Derived.KernelRfl
namespace Go.Proofs.YtfgcpmeadeehhaaGreat
/- THE CELL 'sum', in the pinned program and in every row, IS THE sha256 OF THE DUMP (.gsa) THAT YtfgcpmeadeehhaaGreatProg.lean LOADS. Nothing in Lean hashes anything: it is a label: what it is worth is what the hold of that sum in a sandbox is worth. -/
noncomputable def Tryz.pinned : Pinned := { name := "ytfgcpmeadeehhaagreat", sum := "16ac8fc3e264ea03d9bd7a4b54ba2b7254523bbcbadb4ed3eccb9c88ac73434f", checked := Tryz.checked }
namespace Rows
def none {H : Type} : Left H := { results := [], args := [] }

/-- 'scarfjointlaw34.TransportLeft': WHATEVER THE INPUT: true; the input reads as it did. -/
def transportLeftSpec : ChangeSpec := { name := "transportLeft", fn := fun _ => fun
  | [d1, d2] => { results := [.lit (.bool true)], args := [d1, d2] }
  | _ => none }
def transportLeftRow : OpenClaim := { program := "ytfgcpmeadeehhaagreat", sum := "16ac8fc3e264ea03d9bd7a4b54ba2b7254523bbcbadb4ed3eccb9c88ac73434f", func := "scarfjoint/scarfjointlaw34.TransportLeft", spec := "transportLeft", inPlace := ["internal/bytealg.IndexByteString"], unfollowed := true, recurses := true, loops := true, apart := false }
def TransportLeftSaid : Prop := transportLeftRow.holds Tryz.pinned (OpenSpec.ofChange transportLeftSpec)

/-- ITS FALSE NEIGHBOUR: 'it returns false'. Refute it at one input. -/
def transportLeftWrong : ChangeSpec := { name := "transportLeft", fn := fun _ => fun
  | [d1, d2] => { results := [.lit (.bool false)], args := [d1, d2] }
  | _ => none }
def TransportLeftWrongFalsely : Prop := transportLeftRow.holds Tryz.pinned (OpenSpec.ofChange transportLeftWrong)

/-- 'scarfjointlaw34.TransportApplicable': WHATEVER THE INPUT: true; the input reads as it did. -/
def transportApplicableSpec : ChangeSpec := { name := "transportApplicable", fn := fun _ => fun
  | [d1, d2] => { results := [.lit (.bool true)], args := [d1, d2] }
  | _ => none }
def transportApplicableRow : OpenClaim := { program := "ytfgcpmeadeehhaagreat", sum := "16ac8fc3e264ea03d9bd7a4b54ba2b7254523bbcbadb4ed3eccb9c88ac73434f", func := "scarfjoint/scarfjointlaw34.TransportApplicable", spec := "transportApplicable", inPlace := ["internal/bytealg.IndexByteString"], unfollowed := true, recurses := true, loops := true, apart := false }
def TransportApplicableSaid : Prop := transportApplicableRow.holds Tryz.pinned (OpenSpec.ofChange transportApplicableSpec)

/-- ITS FALSE NEIGHBOUR: 'it returns false'. Refute it at one input. -/
def transportApplicableWrong : ChangeSpec := { name := "transportApplicable", fn := fun _ => fun
  | [d1, d2] => { results := [.lit (.bool false)], args := [d1, d2] }
  | _ => none }
def TransportApplicableWrongFalsely : Prop := transportApplicableRow.holds Tryz.pinned (OpenSpec.ofChange transportApplicableWrong)

/-- 'scarfjointlaw34.TransportRight': WHATEVER THE INPUT: true; the input reads as it did. -/
def transportRightSpec : ChangeSpec := { name := "transportRight", fn := fun _ => fun
  | [d1, d2] => { results := [.lit (.bool true)], args := [d1, d2] }
  | _ => none }
def transportRightRow : OpenClaim := { program := "ytfgcpmeadeehhaagreat", sum := "16ac8fc3e264ea03d9bd7a4b54ba2b7254523bbcbadb4ed3eccb9c88ac73434f", func := "scarfjoint/scarfjointlaw34.TransportRight", spec := "transportRight", inPlace := ["internal/bytealg.IndexByteString"], unfollowed := true, recurses := true, loops := true, apart := false }
def TransportRightSaid : Prop := transportRightRow.holds Tryz.pinned (OpenSpec.ofChange transportRightSpec)

/-- ITS FALSE NEIGHBOUR: 'it returns false'. Refute it at one input. -/
def transportRightWrong : ChangeSpec := { name := "transportRight", fn := fun _ => fun
  | [d1, d2] => { results := [.lit (.bool false)], args := [d1, d2] }
  | _ => none }
def TransportRightWrongFalsely : Prop := transportRightRow.holds Tryz.pinned (OpenSpec.ofChange transportRightWrong)

/-- 'scarfjointlaw34.TransportPrune': WHATEVER THE INPUT: true; the input reads as it did. -/
def transportPruneSpec : ChangeSpec := { name := "transportPrune", fn := fun _ => fun
  | [d1, d2, d3] => { results := [.lit (.bool true)], args := [d1, d2, d3] }
  | _ => none }
def transportPruneRow : OpenClaim := { program := "ytfgcpmeadeehhaagreat", sum := "16ac8fc3e264ea03d9bd7a4b54ba2b7254523bbcbadb4ed3eccb9c88ac73434f", func := "scarfjoint/scarfjointlaw34.TransportPrune", spec := "transportPrune", inPlace := ["internal/bytealg.IndexByteString"], unfollowed := true, recurses := true, loops := true, apart := false }
def TransportPruneSaid : Prop := transportPruneRow.holds Tryz.pinned (OpenSpec.ofChange transportPruneSpec)

/-- ITS FALSE NEIGHBOUR: 'it returns false'. Refute it at one input. -/
def transportPruneWrong : ChangeSpec := { name := "transportPrune", fn := fun _ => fun
  | [d1, d2, d3] => { results := [.lit (.bool false)], args := [d1, d2, d3] }
  | _ => none }
def TransportPruneWrongFalsely : Prop := transportPruneRow.holds Tryz.pinned (OpenSpec.ofChange transportPruneWrong)

/-- 'scarfjointlaw34.TransportBehind': WHATEVER THE INPUT: true; the input reads as it did. -/
def transportBehindSpec : ChangeSpec := { name := "transportBehind", fn := fun _ => fun
  | [d] => { results := [.lit (.bool true)], args := [d] }
  | _ => none }
def transportBehindRow : OpenClaim := { program := "ytfgcpmeadeehhaagreat", sum := "16ac8fc3e264ea03d9bd7a4b54ba2b7254523bbcbadb4ed3eccb9c88ac73434f", func := "scarfjoint/scarfjointlaw34.TransportBehind", spec := "transportBehind", inPlace := ["internal/bytealg.IndexByteString"], unfollowed := true, recurses := true, apart := false }
def TransportBehindSaid : Prop := transportBehindRow.holds Tryz.pinned (OpenSpec.ofChange transportBehindSpec)

/-- ITS FALSE NEIGHBOUR: 'it returns false'. Refute it at one input. -/
def transportBehindWrong : ChangeSpec := { name := "transportBehind", fn := fun _ => fun
  | [d] => { results := [.lit (.bool false)], args := [d] }
  | _ => none }
def TransportBehindWrongFalsely : Prop := transportBehindRow.holds Tryz.pinned (OpenSpec.ofChange transportBehindWrong)

/-- 'scarfjointlaw34.TransportDangles': WHATEVER THE INPUT: true; the input reads as it did. -/
def transportDanglesSpec : ChangeSpec := { name := "transportDangles", fn := fun _ => fun
  | [d] => { results := [.lit (.bool true)], args := [d] }
  | _ => none }
def transportDanglesRow : OpenClaim := { program := "ytfgcpmeadeehhaagreat", sum := "16ac8fc3e264ea03d9bd7a4b54ba2b7254523bbcbadb4ed3eccb9c88ac73434f", func := "scarfjoint/scarfjointlaw34.TransportDangles", spec := "transportDangles", inPlace := ["internal/bytealg.IndexByteString"], unfollowed := true, recurses := true, apart := false }
def TransportDanglesSaid : Prop := transportDanglesRow.holds Tryz.pinned (OpenSpec.ofChange transportDanglesSpec)

/-- ITS FALSE NEIGHBOUR: 'it returns false'. Refute it at one input. -/
def transportDanglesWrong : ChangeSpec := { name := "transportDangles", fn := fun _ => fun
  | [d] => { results := [.lit (.bool false)], args := [d] }
  | _ => none }
def TransportDanglesWrongFalsely : Prop := transportDanglesRow.holds Tryz.pinned (OpenSpec.ofChange transportDanglesWrong)

/-- 'scarfjointlaw34.TransportAhead': WHATEVER THE INPUT: true; the input reads as it did. -/
def transportAheadSpec : ChangeSpec := { name := "transportAhead", fn := fun _ => fun
  | [d] => { results := [.lit (.bool true)], args := [d] }
  | _ => none }
def transportAheadRow : OpenClaim := { program := "ytfgcpmeadeehhaagreat", sum := "16ac8fc3e264ea03d9bd7a4b54ba2b7254523bbcbadb4ed3eccb9c88ac73434f", func := "scarfjoint/scarfjointlaw34.TransportAhead", spec := "transportAhead", inPlace := ["internal/bytealg.IndexByteString"], unfollowed := true, recurses := true, apart := false }
def TransportAheadSaid : Prop := transportAheadRow.holds Tryz.pinned (OpenSpec.ofChange transportAheadSpec)

/-- ITS FALSE NEIGHBOUR: 'it returns false'. Refute it at one input. -/
def transportAheadWrong : ChangeSpec := { name := "transportAhead", fn := fun _ => fun
  | [d] => { results := [.lit (.bool false)], args := [d] }
  | _ => none }
def TransportAheadWrongFalsely : Prop := transportAheadRow.holds Tryz.pinned (OpenSpec.ofChange transportAheadWrong)

/-- 'scarfjointlaw34.TransportPrunes': WHATEVER THE INPUT: true; the input reads as it did. -/
def transportPrunesSpec : ChangeSpec := { name := "transportPrunes", fn := fun _ => fun
  | [d] => { results := [.lit (.bool true)], args := [d] }
  | _ => none }
def transportPrunesRow : OpenClaim := { program := "ytfgcpmeadeehhaagreat", sum := "16ac8fc3e264ea03d9bd7a4b54ba2b7254523bbcbadb4ed3eccb9c88ac73434f", func := "scarfjoint/scarfjointlaw34.TransportPrunes", spec := "transportPrunes", inPlace := ["internal/bytealg.IndexByteString"], unfollowed := true, recurses := true, apart := false }
def TransportPrunesSaid : Prop := transportPrunesRow.holds Tryz.pinned (OpenSpec.ofChange transportPrunesSpec)

/-- ITS FALSE NEIGHBOUR: 'it returns false'. Refute it at one input. -/
def transportPrunesWrong : ChangeSpec := { name := "transportPrunes", fn := fun _ => fun
  | [d] => { results := [.lit (.bool false)], args := [d] }
  | _ => none }
def TransportPrunesWrongFalsely : Prop := transportPrunesRow.holds Tryz.pinned (OpenSpec.ofChange transportPrunesWrong)

/- THE SECOND FORM. 'bulk': how many values and letters a reading holds, each counted each time it is reached (what is shared counts as often as it is met; a slice's spare places count too). A statement '..UptoSaid' is the law's where the arguments, and the package variables that the reading takes, are together of bulk at most 1048576: NARROWER than '..Said'. Prove '..Said' where nothing that the law and all that it calls make is longer than what came in: it says more and counts as full. Else prove '..UptoSaid'. A law counts once. -/
mutual
def uptoBulk {H : Type} : DataW H → Nat
  | .lit (.string bytes) => bytes.length + 1
  | .lit _ => 1
  | .nil => 1
  | .ptr d => uptoBulk d + 1
  | .slice elems spare => uptoBulkAll elems + uptoBulkAll spare + 1
  | .agg parts => uptoBulkAll parts + 1
  | .iface _ d => uptoBulk d + 1
  | .map entries => uptoBulkEntries entries + 1
  | .held _ => 1
def uptoBulkAll {H : Type} : List (DataW H) → Nat
  | [] => 0
  | d :: r => uptoBulk d + uptoBulkAll r
def uptoBulkEntries {H : Type} : List (Lit × DataW H) → Nat
  | [] => 0
  | x :: r => uptoBulkEntry x + uptoBulkEntries r
def uptoBulkEntry {H : Type} : Lit × DataW H → Nat
  | (.string bytes, d) => bytes.length + uptoBulk d + 1
  | (_, d) => uptoBulk d + 1
 end
def uptoSmall : (H : Type) → List (DataW H) → Bool := fun _ ds => decide (uptoBulkAll ds ≤ 1048576)
def OpenSpec.upto (s : _root_.Go.ChangeSpec) : _root_.Go.OpenSpec := { _root_.Go.OpenSpec.ofChange s with cond := some uptoSmall }

/-- 'scarfjointlaw34.TransportLeft', WHERE WHAT IT READS IS OF BULK AT MOST 1048576: true; the input reads as it did. -/
def transportLeftUptoRow : OpenClaim := { program := "ytfgcpmeadeehhaagreat", sum := "16ac8fc3e264ea03d9bd7a4b54ba2b7254523bbcbadb4ed3eccb9c88ac73434f", func := "scarfjoint/scarfjointlaw34.TransportLeft", spec := "transportLeft", inPlace := ["internal/bytealg.IndexByteString"], unfollowed := true, recurses := true, loops := true, apart := false, narrowed := true }
def TransportLeftUptoSaid : Prop := transportLeftUptoRow.holds Tryz.pinned (OpenSpec.upto transportLeftSpec)

/-- 'scarfjointlaw34.TransportApplicable', WHERE WHAT IT READS IS OF BULK AT MOST 1048576: true; the input reads as it did. -/
def transportApplicableUptoRow : OpenClaim := { program := "ytfgcpmeadeehhaagreat", sum := "16ac8fc3e264ea03d9bd7a4b54ba2b7254523bbcbadb4ed3eccb9c88ac73434f", func := "scarfjoint/scarfjointlaw34.TransportApplicable", spec := "transportApplicable", inPlace := ["internal/bytealg.IndexByteString"], unfollowed := true, recurses := true, loops := true, apart := false, narrowed := true }
def TransportApplicableUptoSaid : Prop := transportApplicableUptoRow.holds Tryz.pinned (OpenSpec.upto transportApplicableSpec)

/-- 'scarfjointlaw34.TransportRight', WHERE WHAT IT READS IS OF BULK AT MOST 1048576: true; the input reads as it did. -/
def transportRightUptoRow : OpenClaim := { program := "ytfgcpmeadeehhaagreat", sum := "16ac8fc3e264ea03d9bd7a4b54ba2b7254523bbcbadb4ed3eccb9c88ac73434f", func := "scarfjoint/scarfjointlaw34.TransportRight", spec := "transportRight", inPlace := ["internal/bytealg.IndexByteString"], unfollowed := true, recurses := true, loops := true, apart := false, narrowed := true }
def TransportRightUptoSaid : Prop := transportRightUptoRow.holds Tryz.pinned (OpenSpec.upto transportRightSpec)

/-- 'scarfjointlaw34.TransportPrune', WHERE WHAT IT READS IS OF BULK AT MOST 1048576: true; the input reads as it did. -/
def transportPruneUptoRow : OpenClaim := { program := "ytfgcpmeadeehhaagreat", sum := "16ac8fc3e264ea03d9bd7a4b54ba2b7254523bbcbadb4ed3eccb9c88ac73434f", func := "scarfjoint/scarfjointlaw34.TransportPrune", spec := "transportPrune", inPlace := ["internal/bytealg.IndexByteString"], unfollowed := true, recurses := true, loops := true, apart := false, narrowed := true }
def TransportPruneUptoSaid : Prop := transportPruneUptoRow.holds Tryz.pinned (OpenSpec.upto transportPruneSpec)

/-- 'scarfjointlaw34.TransportBehind', WHERE WHAT IT READS IS OF BULK AT MOST 1048576: true; the input reads as it did. -/
def transportBehindUptoRow : OpenClaim := { program := "ytfgcpmeadeehhaagreat", sum := "16ac8fc3e264ea03d9bd7a4b54ba2b7254523bbcbadb4ed3eccb9c88ac73434f", func := "scarfjoint/scarfjointlaw34.TransportBehind", spec := "transportBehind", inPlace := ["internal/bytealg.IndexByteString"], unfollowed := true, recurses := true, apart := false, narrowed := true }
def TransportBehindUptoSaid : Prop := transportBehindUptoRow.holds Tryz.pinned (OpenSpec.upto transportBehindSpec)

/-- 'scarfjointlaw34.TransportDangles', WHERE WHAT IT READS IS OF BULK AT MOST 1048576: true; the input reads as it did. -/
def transportDanglesUptoRow : OpenClaim := { program := "ytfgcpmeadeehhaagreat", sum := "16ac8fc3e264ea03d9bd7a4b54ba2b7254523bbcbadb4ed3eccb9c88ac73434f", func := "scarfjoint/scarfjointlaw34.TransportDangles", spec := "transportDangles", inPlace := ["internal/bytealg.IndexByteString"], unfollowed := true, recurses := true, apart := false, narrowed := true }
def TransportDanglesUptoSaid : Prop := transportDanglesUptoRow.holds Tryz.pinned (OpenSpec.upto transportDanglesSpec)

/-- 'scarfjointlaw34.TransportAhead', WHERE WHAT IT READS IS OF BULK AT MOST 1048576: true; the input reads as it did. -/
def transportAheadUptoRow : OpenClaim := { program := "ytfgcpmeadeehhaagreat", sum := "16ac8fc3e264ea03d9bd7a4b54ba2b7254523bbcbadb4ed3eccb9c88ac73434f", func := "scarfjoint/scarfjointlaw34.TransportAhead", spec := "transportAhead", inPlace := ["internal/bytealg.IndexByteString"], unfollowed := true, recurses := true, apart := false, narrowed := true }
def TransportAheadUptoSaid : Prop := transportAheadUptoRow.holds Tryz.pinned (OpenSpec.upto transportAheadSpec)

/-- 'scarfjointlaw34.TransportPrunes', WHERE WHAT IT READS IS OF BULK AT MOST 1048576: true; the input reads as it did. -/
def transportPrunesUptoRow : OpenClaim := { program := "ytfgcpmeadeehhaagreat", sum := "16ac8fc3e264ea03d9bd7a4b54ba2b7254523bbcbadb4ed3eccb9c88ac73434f", func := "scarfjoint/scarfjointlaw34.TransportPrunes", spec := "transportPrunes", inPlace := ["internal/bytealg.IndexByteString"], unfollowed := true, recurses := true, apart := false, narrowed := true }
def TransportPrunesUptoSaid : Prop := transportPrunesUptoRow.holds Tryz.pinned (OpenSpec.upto transportPrunesSpec)

end Rows
end Go.Proofs.YtfgcpmeadeehhaaGreat
