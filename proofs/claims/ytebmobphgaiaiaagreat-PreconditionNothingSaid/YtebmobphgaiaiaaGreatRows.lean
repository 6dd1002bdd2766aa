/-
  NARROWER THAN 'FOR EVERY INPUT', by the rows' own cells (each row's printed sentence says how): PreconditionPreserve: loops · PreconditionWith: loops · PreconditionGuarantee: loops.
  DERIVED. THE GIVEN ROWS OF THIS SEAT. 7 by the template 'for every input the law returns true; each argument reads behind the call as it read before'; 0 by the template 'total and deterministic' (their statements: YtebmobphgaiaiaaGreatTotals.lean).
  GIVEN WITH THE SEED: the statements are not yours to turn. If you find one false, say at which input.
  Laid BY PROGRAM, IN A SANDBOX (cutbox-rows.mjs): the forced cells as the released guide's own fill.sh prints them over the translation a6c092a2873c89ef… (all of the seat's roots in one cut). By AI agents, Wed Nov 11 2026. No macro, syntax, notation, axiom, sorry.
-/
import Derived.Test.YtebmobphgaiaiaaGreatChecked
import GoSem.Claim
import GoSem.ClaimJoined
import GoSem.ClaimMapViews
import Derived.JoinedTies
import Derived.KernelRfl
namespace Go.Proofs.YtebmobphgaiaiaaGreat
/- THE CELL 'sum', in the pinned program and in every row, IS THE sha256 OF THE DUMP (.gsa) THAT YtebmobphgaiaiaaGreatProg.lean LOADS. Nothing in Lean hashes anything: it is a label: what it is worth is what the hold of that sum in a sandbox is worth. -/
noncomputable def Tryz.pinned : Pinned := { name := "ytebmobphgaiaiaagreat", sum := "a6c092a2873c89eff9fc66a2666ffbe78b1c95024aedc57fb9b5b68bfd0d9868", checked := Tryz.checked }
namespace Rows
def none {H : Type} : Left H := { results := [], args := [] }

/-- 'scarfjointlaw43.PreconditionPreserve': WHATEVER THE INPUT: true; the input reads as it did. -/
def preconditionPreserveSpec : ChangeSpec := { name := "preconditionPreserve", fn := fun _ => fun
  | [d1, d2, d3] => { results := [.lit (.bool true)], args := [d1, d2, d3] }
  | _ => none }
def preconditionPreserveRow : OpenClaim := { program := "ytebmobphgaiaiaagreat", sum := "a6c092a2873c89eff9fc66a2666ffbe78b1c95024aedc57fb9b5b68bfd0d9868", func := "scarfjoint/scarfjointlaw43.PreconditionPreserve", spec := "preconditionPreserve", inPlace := ["internal/bytealg.IndexByteString"], unfollowed := true, recurses := true, loops := true, apart := false }
def PreconditionPreserveSaid : Prop := preconditionPreserveRow.holds Tryz.pinned (OpenSpec.ofChange preconditionPreserveSpec)

/-- ITS FALSE NEIGHBOUR: 'it returns false'. Refute it at one input. -/
def preconditionPreserveWrong : ChangeSpec := { name := "preconditionPreserve", fn := fun _ => fun
  | [d1, d2, d3] => { results := [.lit (.bool false)], args := [d1, d2, d3] }
  | _ => none }
def PreconditionPreserveWrongFalsely : Prop := preconditionPreserveRow.holds Tryz.pinned (OpenSpec.ofChange preconditionPreserveWrong)

/-- 'scarfjointlaw43.PreconditionNothing': WHATEVER THE INPUT: true; the input reads as it did. -/
def preconditionNothingSpec : ChangeSpec := { name := "preconditionNothing", fn := fun _ => fun
  | [d] => { results := [.lit (.bool true)], args := [d] }
  | _ => none }
def preconditionNothingRow : OpenClaim := { program := "ytebmobphgaiaiaagreat", sum := "a6c092a2873c89eff9fc66a2666ffbe78b1c95024aedc57fb9b5b68bfd0d9868", func := "scarfjoint/scarfjointlaw43.PreconditionNothing", spec := "preconditionNothing", inPlace := ["internal/bytealg.IndexByteString"], unfollowed := true, recurses := true, apart := false }
def PreconditionNothingSaid : Prop := preconditionNothingRow.holds Tryz.pinned (OpenSpec.ofChange preconditionNothingSpec)

/-- ITS FALSE NEIGHBOUR: 'it returns false'. Refute it at one input. -/
def preconditionNothingWrong : ChangeSpec := { name := "preconditionNothing", fn := fun _ => fun
  | [d] => { results := [.lit (.bool false)], args := [d] }
  | _ => none }
def PreconditionNothingWrongFalsely : Prop := preconditionNothingRow.holds Tryz.pinned (OpenSpec.ofChange preconditionNothingWrong)

/-- 'scarfjointlaw43.PreconditionWith': WHATEVER THE INPUT: true; the input reads as it did. -/
def preconditionWithSpec : ChangeSpec := { name := "preconditionWith", fn := fun _ => fun
  | [d1, d2] => { results := [.lit (.bool true)], args := [d1, d2] }
  | _ => none }
def preconditionWithRow : OpenClaim := { program := "ytebmobphgaiaiaagreat", sum := "a6c092a2873c89eff9fc66a2666ffbe78b1c95024aedc57fb9b5b68bfd0d9868", func := "scarfjoint/scarfjointlaw43.PreconditionWith", spec := "preconditionWith", inPlace := ["internal/bytealg.IndexByteString"], unfollowed := true, recurses := true, loops := true, apart := false }
def PreconditionWithSaid : Prop := preconditionWithRow.holds Tryz.pinned (OpenSpec.ofChange preconditionWithSpec)

/-- ITS FALSE NEIGHBOUR: 'it returns false'. Refute it at one input. -/
def preconditionWithWrong : ChangeSpec := { name := "preconditionWith", fn := fun _ => fun
  | [d1, d2] => { results := [.lit (.bool false)], args := [d1, d2] }
  | _ => none }
def PreconditionWithWrongFalsely : Prop := preconditionWithRow.holds Tryz.pinned (OpenSpec.ofChange preconditionWithWrong)

/-- 'scarfjointlaw43.PreconditionGuarantee': WHATEVER THE INPUT: true; the input reads as it did. -/
def preconditionGuaranteeSpec : ChangeSpec := { name := "preconditionGuarantee", fn := fun _ => fun
  | [d1, d2, d3] => { results := [.lit (.bool true)], args := [d1, d2, d3] }
  | _ => none }
def preconditionGuaranteeRow : OpenClaim := { program := "ytebmobphgaiaiaagreat", sum := "a6c092a2873c89eff9fc66a2666ffbe78b1c95024aedc57fb9b5b68bfd0d9868", func := "scarfjoint/scarfjointlaw43.PreconditionGuarantee", spec := "preconditionGuarantee", inPlace := ["internal/bytealg.IndexByteString"], unfollowed := true, recurses := true, loops := true, apart := false }
def PreconditionGuaranteeSaid : Prop := preconditionGuaranteeRow.holds Tryz.pinned (OpenSpec.ofChange preconditionGuaranteeSpec)

/-- ITS FALSE NEIGHBOUR: 'it returns false'. Refute it at one input. -/
def preconditionGuaranteeWrong : ChangeSpec := { name := "preconditionGuarantee", fn := fun _ => fun
  | [d1, d2, d3] => { results := [.lit (.bool false)], args := [d1, d2, d3] }
  | _ => none }
def PreconditionGuaranteeWrongFalsely : Prop := preconditionGuaranteeRow.holds Tryz.pinned (OpenSpec.ofChange preconditionGuaranteeWrong)

/-- 'scarfjointlaw43.PreconditionNew': WHATEVER THE INPUT: true; the input reads as it did. -/
def preconditionNewSpec : ChangeSpec := { name := "preconditionNew", fn := fun _ => fun
  | [d] => { results := [.lit (.bool true)], args := [d] }
  | _ => none }
def preconditionNewRow : OpenClaim := { program := "ytebmobphgaiaiaagreat", sum := "a6c092a2873c89eff9fc66a2666ffbe78b1c95024aedc57fb9b5b68bfd0d9868", func := "scarfjoint/scarfjointlaw43.PreconditionNew", spec := "preconditionNew", inPlace := ["internal/bytealg.IndexByteString"], unfollowed := true, recurses := true, apart := false }
def PreconditionNewSaid : Prop := preconditionNewRow.holds Tryz.pinned (OpenSpec.ofChange preconditionNewSpec)

/-- ITS FALSE NEIGHBOUR: 'it returns false'. Refute it at one input. -/
def preconditionNewWrong : ChangeSpec := { name := "preconditionNew", fn := fun _ => fun
  | [d] => { results := [.lit (.bool false)], args := [d] }
  | _ => none }
def PreconditionNewWrongFalsely : Prop := preconditionNewRow.holds Tryz.pinned (OpenSpec.ofChange preconditionNewWrong)

/-- 'scarfjointlaw43.PreconditionExact': WHATEVER THE INPUT: true; the input reads as it did. -/
def preconditionExactSpec : ChangeSpec := { name := "preconditionExact", fn := fun _ => fun
  | [d] => { results := [.lit (.bool true)], args := [d] }
  | _ => none }
def preconditionExactRow : OpenClaim := { program := "ytebmobphgaiaiaagreat", sum := "a6c092a2873c89eff9fc66a2666ffbe78b1c95024aedc57fb9b5b68bfd0d9868", func := "scarfjoint/scarfjointlaw43.PreconditionExact", spec := "preconditionExact", inPlace := ["internal/bytealg.IndexByteString"], unfollowed := true, recurses := true, apart := false }
def PreconditionExactSaid : Prop := preconditionExactRow.holds Tryz.pinned (OpenSpec.ofChange preconditionExactSpec)

/-- ITS FALSE NEIGHBOUR: 'it returns false'. Refute it at one input. -/
def preconditionExactWrong : ChangeSpec := { name := "preconditionExact", fn := fun _ => fun
  | [d] => { results := [.lit (.bool false)], args := [d] }
  | _ => none }
def PreconditionExactWrongFalsely : Prop := preconditionExactRow.holds Tryz.pinned (OpenSpec.ofChange preconditionExactWrong)

/-- 'scarfjointlaw43.PreconditionKept': WHATEVER THE INPUT: true; the input reads as it did. -/
def preconditionKeptSpec : ChangeSpec := { name := "preconditionKept", fn := fun _ => fun
  | [d] => { results := [.lit (.bool true)], args := [d] }
  | _ => none }
def preconditionKeptRow : OpenClaim := { program := "ytebmobphgaiaiaagreat", sum := "a6c092a2873c89eff9fc66a2666ffbe78b1c95024aedc57fb9b5b68bfd0d9868", func := "scarfjoint/scarfjointlaw43.PreconditionKept", spec := "preconditionKept", inPlace := ["internal/bytealg.IndexByteString"], unfollowed := true, recurses := true, apart := false }
def PreconditionKeptSaid : Prop := preconditionKeptRow.holds Tryz.pinned (OpenSpec.ofChange preconditionKeptSpec)

/-- ITS FALSE NEIGHBOUR: 'it returns false'. Refute it at one input. -/
def preconditionKeptWrong : ChangeSpec := { name := "preconditionKept", fn := fun _ => fun
  | [d] => { results := [.lit (.bool false)], args := [d] }
  | _ => none }
def PreconditionKeptWrongFalsely : Prop := preconditionKeptRow.holds Tryz.pinned (OpenSpec.ofChange preconditionKeptWrong)

/- THE SECOND FORM. 'bulk': how many values and letters a reading holds, each counted each time it is reached (what is shared counts as often as it is met; a slice's spare places count too). A statement '..UptoSaid' is the law's where the arguments, and the package variables that the reading takes, are together of bulk at most 1048576: NARROWER than '..Said'. Prove '..Said' where nothing that the law and all that it calls make is longer than what came in: it says more and counts as full. Else prove '..UptoSaid'. A law counts once. -/
mutual
def uptoBulk {H : Type} : DataW H → Nat
  | .lit (.string bytes) => bytes.length + 1
  | .lit _ => 1
  | .nil => 1
  | .ptr d => uptoBulk d + 1
  | .slice elems spare => uptoBulkAll elems + uptoBulkAll spare + 1
  | .agg parts => uptoBulkAll parts + 1
  | .iface _ d => uptoBulk d + 1
  | .map entries => uptoBulkEntries entries + 1
  | .held _ => 1
def uptoBulkAll {H : Type} : List (DataW H) → Nat
  | [] => 0
  | d :: r => uptoBulk d + uptoBulkAll r
def uptoBulkEntries {H : Type} : List (Lit × DataW H) → Nat
  | [] => 0
  | x :: r => uptoBulkEntry x + uptoBulkEntries r
def uptoBulkEntry {H : Type} : Lit × DataW H → Nat
  | (.string bytes, d) => bytes.length + uptoBulk d + 1
  | (_, d) => uptoBulk d + 1
 end
def uptoSmall : (H : Type) → List (DataW H) → Bool := fun _ ds => decide (uptoBulkAll ds ≤ 1048576)
def OpenSpec.upto (s : _root_.Go.ChangeSpec) : _root_.Go.OpenSpec := { _root_.Go.OpenSpec.ofChange s with cond := some uptoSmall }

/-- 'scarfjointlaw43.PreconditionPreserve', WHERE WHAT IT READS IS OF BULK AT MOST 1048576: true; the input reads as it did. -/
def preconditionPreserveUptoRow : OpenClaim := { program := "ytebmobphgaiaiaagreat", sum := "a6c092a2873c89eff9fc66a2666ffbe78b1c95024aedc57fb9b5b68bfd0d9868", func := "scarfjoint/scarfjointlaw43.PreconditionPreserve", spec := "preconditionPreserve", inPlace := ["internal/bytealg.IndexByteString"], unfollowed := true, recurses := true, loops := true, apart := false, narrowed := true }
def PreconditionPreserveUptoSaid : Prop := preconditionPreserveUptoRow.holds Tryz.pinned (OpenSpec.upto preconditionPreserveSpec)

/-- 'scarfjointlaw43.PreconditionNothing', WHERE WHAT IT READS IS OF BULK AT MOST 1048576: true; the input reads as it did. -/
def preconditionNothingUptoRow : OpenClaim := { program := "ytebmobphgaiaiaagreat", sum := "a6c092a2873c89eff9fc66a2666ffbe78b1c95024aedc57fb9b5b68bfd0d9868", func := "scarfjoint/scarfjointlaw43.PreconditionNothing", spec := "preconditionNothing", inPlace := ["internal/bytealg.IndexByteString"], unfollowed := true, recurses := true, apart := false, narrowed := true }
def PreconditionNothingUptoSaid : Prop := preconditionNothingUptoRow.holds Tryz.pinned (OpenSpec.upto preconditionNothingSpec)

/-- 'scarfjointlaw43.PreconditionWith', WHERE WHAT IT READS IS OF BULK AT MOST 1048576: true; the input reads as it did. -/
def preconditionWithUptoRow : OpenClaim := { program := "ytebmobphgaiaiaagreat", sum := "a6c092a2873c89eff9fc66a2666ffbe78b1c95024aedc57fb9b5b68bfd0d9868", func := "scarfjoint/scarfjointlaw43.PreconditionWith", spec := "preconditionWith", inPlace := ["internal/bytealg.IndexByteString"], unfollowed := true, recurses := true, loops := true, apart := false, narrowed := true }
def PreconditionWithUptoSaid : Prop := preconditionWithUptoRow.holds Tryz.pinned (OpenSpec.upto preconditionWithSpec)

/-- 'scarfjointlaw43.PreconditionGuarantee', WHERE WHAT IT READS IS OF BULK AT MOST 1048576: true; the input reads as it did. -/
def preconditionGuaranteeUptoRow : OpenClaim := { program := "ytebmobphgaiaiaagreat", sum := "a6c092a2873c89eff9fc66a2666ffbe78b1c95024aedc57fb9b5b68bfd0d9868", func := "scarfjoint/scarfjointlaw43.PreconditionGuarantee", spec := "preconditionGuarantee", inPlace := ["internal/bytealg.IndexByteString"], unfollowed := true, recurses := true, loops := true, apart := false, narrowed := true }
def PreconditionGuaranteeUptoSaid : Prop := preconditionGuaranteeUptoRow.holds Tryz.pinned (OpenSpec.upto preconditionGuaranteeSpec)

/-- 'scarfjointlaw43.PreconditionNew', WHERE WHAT IT READS IS OF BULK AT MOST 1048576: true; the input reads as it did. -/
def preconditionNewUptoRow : OpenClaim := { program := "ytebmobphgaiaiaagreat", sum := "a6c092a2873c89eff9fc66a2666ffbe78b1c95024aedc57fb9b5b68bfd0d9868", func := "scarfjoint/scarfjointlaw43.PreconditionNew", spec := "preconditionNew", inPlace := ["internal/bytealg.IndexByteString"], unfollowed := true, recurses := true, apart := false, narrowed := true }
def PreconditionNewUptoSaid : Prop := preconditionNewUptoRow.holds Tryz.pinned (OpenSpec.upto preconditionNewSpec)

/-- 'scarfjointlaw43.PreconditionExact', WHERE WHAT IT READS IS OF BULK AT MOST 1048576: true; the input reads as it did. -/
def preconditionExactUptoRow : OpenClaim := { program := "ytebmobphgaiaiaagreat", sum := "a6c092a2873c89eff9fc66a2666ffbe78b1c95024aedc57fb9b5b68bfd0d9868", func := "scarfjoint/scarfjointlaw43.PreconditionExact", spec := "preconditionExact", inPlace := ["internal/bytealg.IndexByteString"], unfollowed := true, recurses := true, apart := false, narrowed := true }
def PreconditionExactUptoSaid : Prop := preconditionExactUptoRow.holds Tryz.pinned (OpenSpec.upto preconditionExactSpec)

/-- 'scarfjointlaw43.PreconditionKept', WHERE WHAT IT READS IS OF BULK AT MOST 1048576: true; the input reads as it did. -/
def preconditionKeptUptoRow : OpenClaim := { program := "ytebmobphgaiaiaagreat", sum := "a6c092a2873c89eff9fc66a2666ffbe78b1c95024aedc57fb9b5b68bfd0d9868", func := "scarfjoint/scarfjointlaw43.PreconditionKept", spec := "preconditionKept", inPlace := ["internal/bytealg.IndexByteString"], unfollowed := true, recurses := true, apart := false, narrowed := true }
def PreconditionKeptUptoSaid : Prop := preconditionKeptUptoRow.holds Tryz.pinned (OpenSpec.upto preconditionKeptSpec)

end Rows
end Go.Proofs.YtebmobphgaiaiaaGreat
