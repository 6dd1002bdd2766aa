/-
  No cell of these rows narrows 'for every input' (looked for: loops, veiled, ifaces, maps, wideKeys, modest, calm, conditions, laid).
  DERIVED. THE GIVEN ROWS OF THIS SEAT. 8 by the template 'for every input the law returns true; each argument reads behind the call as it read before'; 0 by the template 'total and deterministic' (their statements: YtgonmjghdkoekaaTotals.lean).
  GIVEN WITH THE SEED: the statements are not yours to turn. If you find one false, say at which input.
  Laid BY PROGRAM, IN A SANDBOX (cutbox-rows.mjs): the forced cells as the released guide's own fill.sh prints them over the translation 4b62f973073eefe5… (all of the seat's roots in one cut). By AI agents, Wed Nov 11 2026. No macro, syntax, notation, axiom, sorry.
-/
import Derived.Test.YtgonmjghdkoekaaChecked
import GoSem.Claim
import GoSem.ClaimJoined
import GoSem.ClaimMapViews
import Derived.JoinedTies
import Derived.KernelRfl
namespace Go.Proofs.Ytgonmjghdkoekaa
/- THE CELL 'sum', in the pinned program and in every row, IS THE sha256 OF THE DUMP (.gsa) THAT YtgonmjghdkoekaaProg.lean LOADS. Nothing in Lean hashes anything: it is a label: what it is worth is what the hold of that sum in a sandbox is worth. -/
noncomputable def Try.pinned : Pinned := { name := "ytgonmjghdkoekaa", sum := "4b62f973073eefe5ba307cee40a9493e7135b7ffde04528b52cbce75a5447106", checked := Try.checked }
namespace Rows
def none {H : Type} : Left H := { results := [], args := [] }

/-- 'scarfjointlaw13.FactorOverlaps': WHATEVER THE INPUT: true; the input reads as it did. -/
def factorOverlapsSpec : ChangeSpec := { name := "factorOverlaps", fn := fun _ => fun
  | [d1, d2] => { results := [.lit (.bool true)], args := [d1, d2] }
  | _ => none }
def factorOverlapsRow : OpenClaim := { program := "ytgonmjghdkoekaa", sum := "4b62f973073eefe5ba307cee40a9493e7135b7ffde04528b52cbce75a5447106", func := "scarfjoint/scarfjointlaw13.FactorOverlaps", spec := "factorOverlaps", unfollowed := true, recurses := true, apart := false }
def FactorOverlapsSaid : Prop := factorOverlapsRow.holds Try.pinned (OpenSpec.ofChange factorOverlapsSpec)

/-- ITS FALSE NEIGHBOUR: 'it returns false'. Refute it at one input. -/
def factorOverlapsWrong : ChangeSpec := { name := "factorOverlaps", fn := fun _ => fun
  | [d1, d2] => { results := [.lit (.bool false)], args := [d1, d2] }
  | _ => none }
def FactorOverlapsWrongFalsely : Prop := factorOverlapsRow.holds Try.pinned (OpenSpec.ofChange factorOverlapsWrong)

/-- 'scarfjointlaw13.FactorQuotients': WHATEVER THE INPUT: true; the input reads as it did. -/
def factorQuotientsSpec : ChangeSpec := { name := "factorQuotients", fn := fun _ => fun
  | [d] => { results := [.lit (.bool true)], args := [d] }
  | _ => none }
def factorQuotientsRow : OpenClaim := { program := "ytgonmjghdkoekaa", sum := "4b62f973073eefe5ba307cee40a9493e7135b7ffde04528b52cbce75a5447106", func := "scarfjoint/scarfjointlaw13.FactorQuotients", spec := "factorQuotients", unfollowed := true, recurses := true, apart := false }
def FactorQuotientsSaid : Prop := factorQuotientsRow.holds Try.pinned (OpenSpec.ofChange factorQuotientsSpec)

/-- ITS FALSE NEIGHBOUR: 'it returns false'. Refute it at one input. -/
def factorQuotientsWrong : ChangeSpec := { name := "factorQuotients", fn := fun _ => fun
  | [d] => { results := [.lit (.bool false)], args := [d] }
  | _ => none }
def FactorQuotientsWrongFalsely : Prop := factorQuotientsRow.holds Try.pinned (OpenSpec.ofChange factorQuotientsWrong)

/-- 'scarfjointlaw13.FactorJointly': WHATEVER THE INPUT: true; the input reads as it did. -/
def factorJointlySpec : ChangeSpec := { name := "factorJointly", fn := fun _ => fun
  | [d1, d2, d3] => { results := [.lit (.bool true)], args := [d1, d2, d3] }
  | _ => none }
def factorJointlyRow : OpenClaim := { program := "ytgonmjghdkoekaa", sum := "4b62f973073eefe5ba307cee40a9493e7135b7ffde04528b52cbce75a5447106", func := "scarfjoint/scarfjointlaw13.FactorJointly", spec := "factorJointly", unfollowed := true, recurses := true, apart := false }
def FactorJointlySaid : Prop := factorJointlyRow.holds Try.pinned (OpenSpec.ofChange factorJointlySpec)

/-- ITS FALSE NEIGHBOUR: 'it returns false'. Refute it at one input. -/
def factorJointlyWrong : ChangeSpec := { name := "factorJointly", fn := fun _ => fun
  | [d1, d2, d3] => { results := [.lit (.bool false)], args := [d1, d2, d3] }
  | _ => none }
def FactorJointlyWrongFalsely : Prop := factorJointlyRow.holds Try.pinned (OpenSpec.ofChange factorJointlyWrong)

/-- 'scarfjointlaw13.FactorListed': WHATEVER THE INPUT: true; the input reads as it did. -/
def factorListedSpec : ChangeSpec := { name := "factorListed", fn := fun _ => fun
  | [d1, d2] => { results := [.lit (.bool true)], args := [d1, d2] }
  | _ => none }
def factorListedRow : OpenClaim := { program := "ytgonmjghdkoekaa", sum := "4b62f973073eefe5ba307cee40a9493e7135b7ffde04528b52cbce75a5447106", func := "scarfjoint/scarfjointlaw13.FactorListed", spec := "factorListed", unfollowed := true, recurses := true, apart := false }
def FactorListedSaid : Prop := factorListedRow.holds Try.pinned (OpenSpec.ofChange factorListedSpec)

/-- ITS FALSE NEIGHBOUR: 'it returns false'. Refute it at one input. -/
def factorListedWrong : ChangeSpec := { name := "factorListed", fn := fun _ => fun
  | [d1, d2] => { results := [.lit (.bool false)], args := [d1, d2] }
  | _ => none }
def FactorListedWrongFalsely : Prop := factorListedRow.holds Try.pinned (OpenSpec.ofChange factorListedWrong)

/-- 'scarfjointlaw13.FactorThrough': WHATEVER THE INPUT: true; the input reads as it did. -/
def factorThroughSpec : ChangeSpec := { name := "factorThrough", fn := fun _ => fun
  | [d1, d2, d3] => { results := [.lit (.bool true)], args := [d1, d2, d3] }
  | _ => none }
def factorThroughRow : OpenClaim := { program := "ytgonmjghdkoekaa", sum := "4b62f973073eefe5ba307cee40a9493e7135b7ffde04528b52cbce75a5447106", func := "scarfjoint/scarfjointlaw13.FactorThrough", spec := "factorThrough", unfollowed := true, recurses := true, apart := false }
def FactorThroughSaid : Prop := factorThroughRow.holds Try.pinned (OpenSpec.ofChange factorThroughSpec)

/-- ITS FALSE NEIGHBOUR: 'it returns false'. Refute it at one input. -/
def factorThroughWrong : ChangeSpec := { name := "factorThrough", fn := fun _ => fun
  | [d1, d2, d3] => { results := [.lit (.bool false)], args := [d1, d2, d3] }
  | _ => none }
def FactorThroughWrongFalsely : Prop := factorThroughRow.holds Try.pinned (OpenSpec.ofChange factorThroughWrong)

/-- 'scarfjointlaw13.FactorComplete': WHATEVER THE INPUT: true; the input reads as it did. -/
def factorCompleteSpec : ChangeSpec := { name := "factorComplete", fn := fun _ => fun
  | [d1, d2, d3] => { results := [.lit (.bool true)], args := [d1, d2, d3] }
  | _ => none }
def factorCompleteRow : OpenClaim := { program := "ytgonmjghdkoekaa", sum := "4b62f973073eefe5ba307cee40a9493e7135b7ffde04528b52cbce75a5447106", func := "scarfjoint/scarfjointlaw13.FactorComplete", spec := "factorComplete", unfollowed := true, recurses := true, apart := false }
def FactorCompleteSaid : Prop := factorCompleteRow.holds Try.pinned (OpenSpec.ofChange factorCompleteSpec)

/-- ITS FALSE NEIGHBOUR: 'it returns false'. Refute it at one input. -/
def factorCompleteWrong : ChangeSpec := { name := "factorComplete", fn := fun _ => fun
  | [d1, d2, d3] => { results := [.lit (.bool false)], args := [d1, d2, d3] }
  | _ => none }
def FactorCompleteWrongFalsely : Prop := factorCompleteRow.holds Try.pinned (OpenSpec.ofChange factorCompleteWrong)

/-- 'scarfjointlaw13.FactorFactor': WHATEVER THE INPUT: true; the input reads as it did. -/
def factorFactorSpec : ChangeSpec := { name := "factorFactor", fn := fun _ => fun
  | [d1, d2] => { results := [.lit (.bool true)], args := [d1, d2] }
  | _ => none }
def factorFactorRow : OpenClaim := { program := "ytgonmjghdkoekaa", sum := "4b62f973073eefe5ba307cee40a9493e7135b7ffde04528b52cbce75a5447106", func := "scarfjoint/scarfjointlaw13.FactorFactor", spec := "factorFactor", unfollowed := true, recurses := true, apart := false }
def FactorFactorSaid : Prop := factorFactorRow.holds Try.pinned (OpenSpec.ofChange factorFactorSpec)

/-- ITS FALSE NEIGHBOUR: 'it returns false'. Refute it at one input. -/
def factorFactorWrong : ChangeSpec := { name := "factorFactor", fn := fun _ => fun
  | [d1, d2] => { results := [.lit (.bool false)], args := [d1, d2] }
  | _ => none }
def FactorFactorWrongFalsely : Prop := factorFactorRow.holds Try.pinned (OpenSpec.ofChange factorFactorWrong)

/-- 'scarfjointlaw13.FactorOnto': WHATEVER THE INPUT: true; the input reads as it did. -/
def factorOntoSpec : ChangeSpec := { name := "factorOnto", fn := fun _ => fun
  | [d1, d2] => { results := [.lit (.bool true)], args := [d1, d2] }
  | _ => none }
def factorOntoRow : OpenClaim := { program := "ytgonmjghdkoekaa", sum := "4b62f973073eefe5ba307cee40a9493e7135b7ffde04528b52cbce75a5447106", func := "scarfjoint/scarfjointlaw13.FactorOnto", spec := "factorOnto", unfollowed := true, recurses := true, apart := false }
def FactorOntoSaid : Prop := factorOntoRow.holds Try.pinned (OpenSpec.ofChange factorOntoSpec)

/-- ITS FALSE NEIGHBOUR: 'it returns false'. Refute it at one input. -/
def factorOntoWrong : ChangeSpec := { name := "factorOnto", fn := fun _ => fun
  | [d1, d2] => { results := [.lit (.bool false)], args := [d1, d2] }
  | _ => none }
def FactorOntoWrongFalsely : Prop := factorOntoRow.holds Try.pinned (OpenSpec.ofChange factorOntoWrong)

/- THE SECOND FORM. 'bulk': how many values and letters a reading holds, each counted each time it is reached (what is shared counts as often as it is met; a slice's spare places count too). A statement '..UptoSaid' is the law's where the arguments, and the package variables that the reading takes, are together of bulk at most 1048576: NARROWER than '..Said'. Prove '..Said' where nothing that the law and all that it calls make is longer than what came in: it says more and counts as full. Else prove '..UptoSaid'. A law counts once. -/
mutual
def uptoBulk {H : Type} : DataW H → Nat
  | .lit (.string bytes) => bytes.length + 1
  | .lit _ => 1
  | .nil => 1
  | .ptr d => uptoBulk d + 1
  | .slice elems spare => uptoBulkAll elems + uptoBulkAll spare + 1
  | .agg parts => uptoBulkAll parts + 1
  | .iface _ d => uptoBulk d + 1
  | .map entries => uptoBulkEntries entries + 1
  | .held _ => 1
def uptoBulkAll {H : Type} : List (DataW H) → Nat
  | [] => 0
  | d :: r => uptoBulk d + uptoBulkAll r
def uptoBulkEntries {H : Type} : List (Lit × DataW H) → Nat
  | [] => 0
  | x :: r => uptoBulkEntry x + uptoBulkEntries r
def uptoBulkEntry {H : Type} : Lit × DataW H → Nat
  | (.string bytes, d) => bytes.length + uptoBulk d + 1
  | (_, d) => uptoBulk d + 1
 end
def uptoSmall : (H : Type) → List (DataW H) → Bool := fun _ ds => decide (uptoBulkAll ds ≤ 1048576)
def OpenSpec.upto (s : _root_.Go.ChangeSpec) : _root_.Go.OpenSpec := { _root_.Go.OpenSpec.ofChange s with cond := some uptoSmall }

/-- 'scarfjointlaw13.FactorOverlaps', WHERE WHAT IT READS IS OF BULK AT MOST 1048576: true; the input reads as it did. -/
def factorOverlapsUptoRow : OpenClaim := { program := "ytgonmjghdkoekaa", sum := "4b62f973073eefe5ba307cee40a9493e7135b7ffde04528b52cbce75a5447106", func := "scarfjoint/scarfjointlaw13.FactorOverlaps", spec := "factorOverlaps", unfollowed := true, recurses := true, apart := false, narrowed := true }
def FactorOverlapsUptoSaid : Prop := factorOverlapsUptoRow.holds Try.pinned (OpenSpec.upto factorOverlapsSpec)

/-- 'scarfjointlaw13.FactorQuotients', WHERE WHAT IT READS IS OF BULK AT MOST 1048576: true; the input reads as it did. -/
def factorQuotientsUptoRow : OpenClaim := { program := "ytgonmjghdkoekaa", sum := "4b62f973073eefe5ba307cee40a9493e7135b7ffde04528b52cbce75a5447106", func := "scarfjoint/scarfjointlaw13.FactorQuotients", spec := "factorQuotients", unfollowed := true, recurses := true, apart := false, narrowed := true }
def FactorQuotientsUptoSaid : Prop := factorQuotientsUptoRow.holds Try.pinned (OpenSpec.upto factorQuotientsSpec)

/-- 'scarfjointlaw13.FactorJointly', WHERE WHAT IT READS IS OF BULK AT MOST 1048576: true; the input reads as it did. -/
def factorJointlyUptoRow : OpenClaim := { program := "ytgonmjghdkoekaa", sum := "4b62f973073eefe5ba307cee40a9493e7135b7ffde04528b52cbce75a5447106", func := "scarfjoint/scarfjointlaw13.FactorJointly", spec := "factorJointly", unfollowed := true, recurses := true, apart := false, narrowed := true }
def FactorJointlyUptoSaid : Prop := factorJointlyUptoRow.holds Try.pinned (OpenSpec.upto factorJointlySpec)

/-- 'scarfjointlaw13.FactorListed', WHERE WHAT IT READS IS OF BULK AT MOST 1048576: true; the input reads as it did. -/
def factorListedUptoRow : OpenClaim := { program := "ytgonmjghdkoekaa", sum := "4b62f973073eefe5ba307cee40a9493e7135b7ffde04528b52cbce75a5447106", func := "scarfjoint/scarfjointlaw13.FactorListed", spec := "factorListed", unfollowed := true, recurses := true, apart := false, narrowed := true }
def FactorListedUptoSaid : Prop := factorListedUptoRow.holds Try.pinned (OpenSpec.upto factorListedSpec)

/-- 'scarfjointlaw13.FactorThrough', WHERE WHAT IT READS IS OF BULK AT MOST 1048576: true; the input reads as it did. -/
def factorThroughUptoRow : OpenClaim := { program := "ytgonmjghdkoekaa", sum := "4b62f973073eefe5ba307cee40a9493e7135b7ffde04528b52cbce75a5447106", func := "scarfjoint/scarfjointlaw13.FactorThrough", spec := "factorThrough", unfollowed := true, recurses := true, apart := false, narrowed := true }
def FactorThroughUptoSaid : Prop := factorThroughUptoRow.holds Try.pinned (OpenSpec.upto factorThroughSpec)

/-- 'scarfjointlaw13.FactorComplete', WHERE WHAT IT READS IS OF BULK AT MOST 1048576: true; the input reads as it did. -/
def factorCompleteUptoRow : OpenClaim := { program := "ytgonmjghdkoekaa", sum := "4b62f973073eefe5ba307cee40a9493e7135b7ffde04528b52cbce75a5447106", func := "scarfjoint/scarfjointlaw13.FactorComplete", spec := "factorComplete", unfollowed := true, recurses := true, apart := false, narrowed := true }
def FactorCompleteUptoSaid : Prop := factorCompleteUptoRow.holds Try.pinned (OpenSpec.upto factorCompleteSpec)

/-- 'scarfjointlaw13.FactorFactor', WHERE WHAT IT READS IS OF BULK AT MOST 1048576: true; the input reads as it did. -/
def factorFactorUptoRow : OpenClaim := { program := "ytgonmjghdkoekaa", sum := "4b62f973073eefe5ba307cee40a9493e7135b7ffde04528b52cbce75a5447106", func := "scarfjoint/scarfjointlaw13.FactorFactor", spec := "factorFactor", unfollowed := true, recurses := true, apart := false, narrowed := true }
def FactorFactorUptoSaid : Prop := factorFactorUptoRow.holds Try.pinned (OpenSpec.upto factorFactorSpec)

/-- 'scarfjointlaw13.FactorOnto', WHERE WHAT IT READS IS OF BULK AT MOST 1048576: true; the input reads as it did. -/
def factorOntoUptoRow : OpenClaim := { program := "ytgonmjghdkoekaa", sum := "4b62f973073eefe5ba307cee40a9493e7135b7ffde04528b52cbce75a5447106", func := "scarfjoint/scarfjointlaw13.FactorOnto", spec := "factorOnto", unfollowed := true, recurses := true, apart := false, narrowed := true }
def FactorOntoUptoSaid : Prop := factorOntoUptoRow.holds Try.pinned (OpenSpec.upto factorOntoSpec)

end Rows
end Go.Proofs.Ytgonmjghdkoekaa
