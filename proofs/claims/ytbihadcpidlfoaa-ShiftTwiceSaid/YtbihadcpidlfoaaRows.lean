/-
  NARROWER THAN 'FOR EVERY INPUT', by the rows' own cells (each row's printed sentence says how): ShiftValid: loops.
  DERIVED. THE GIVEN ROWS OF THIS SEAT. 5 by the template 'for every input the law returns true; each argument reads behind the call as it read before'; 0 by the template 'total and deterministic' (their statements: YtbihadcpidlfoaaTotals.lean).
  GIVEN WITH THE SEED: the statements are not yours to turn. If you find one false, say at which input.
  Laid BY PROGRAM, IN A SANDBOX (cutbox-rows.mjs): the forced cells as the released guide's own fill.sh prints them over the translation ffa3f05c1c8d2263… (all of the seat's roots in one cut). By AI agents, Wed Nov 11 2026. No macro, syntax, notation, axiom, sorry.
-/
import Derived.Test.YtbihadcpidlfoaaChecked
import GoSem.Claim
import GoSem.ClaimJoined
import GoSem.ClaimMapViews
import Derived.JoinedTies
import Derived.KernelRfl
namespace Go.Proofs.Ytbihadcpidlfoaa
/- THE CELL 'sum', in the pinned program and in every row, IS THE sha256 OF THE DUMP (.gsa) THAT YtbihadcpidlfoaaProg.lean LOADS. Nothing in Lean hashes anything: it is a label: what it is worth is what the hold of that sum in a sandbox is worth. -/
noncomputable def Try.pinned : Pinned := { name := "ytbihadcpidlfoaa", sum := "ffa3f05c1c8d2263cde209079fe74c117b8cf5e269ed42d8067809e35097d883", checked := Try.checked }
namespace Rows
def none {H : Type} : Left H := { results := [], args := [] }

/-- 'scarfjointlaw33.ShiftValid': WHATEVER THE INPUT: true; the input reads as it did. -/
def shiftValidSpec : ChangeSpec := { name := "shiftValid", fn := fun _ => fun
  | [d1, d2] => { results := [.lit (.bool true)], args := [d1, d2] }
  | _ => none }
def shiftValidRow : OpenClaim := { program := "ytbihadcpidlfoaa", sum := "ffa3f05c1c8d2263cde209079fe74c117b8cf5e269ed42d8067809e35097d883", func := "scarfjoint/scarfjointlaw33.ShiftValid", spec := "shiftValid", unfollowed := true, recurses := true, loops := true, apart := false }
def ShiftValidSaid : Prop := shiftValidRow.holds Try.pinned (OpenSpec.ofChange shiftValidSpec)

/-- ITS FALSE NEIGHBOUR: 'it returns false'. Refute it at one input. -/
def shiftValidWrong : ChangeSpec := { name := "shiftValid", fn := fun _ => fun
  | [d1, d2] => { results := [.lit (.bool false)], args := [d1, d2] }
  | _ => none }
def ShiftValidWrongFalsely : Prop := shiftValidRow.holds Try.pinned (OpenSpec.ofChange shiftValidWrong)

/-- 'scarfjointlaw33.ShiftMeans': WHATEVER THE INPUT: true; the input reads as it did. -/
def shiftMeansSpec : ChangeSpec := { name := "shiftMeans", fn := fun _ => fun
  | [d] => { results := [.lit (.bool true)], args := [d] }
  | _ => none }
def shiftMeansRow : OpenClaim := { program := "ytbihadcpidlfoaa", sum := "ffa3f05c1c8d2263cde209079fe74c117b8cf5e269ed42d8067809e35097d883", func := "scarfjoint/scarfjointlaw33.ShiftMeans", spec := "shiftMeans", unfollowed := true, recurses := true, apart := false }
def ShiftMeansSaid : Prop := shiftMeansRow.holds Try.pinned (OpenSpec.ofChange shiftMeansSpec)

/-- ITS FALSE NEIGHBOUR: 'it returns false'. Refute it at one input. -/
def shiftMeansWrong : ChangeSpec := { name := "shiftMeans", fn := fun _ => fun
  | [d] => { results := [.lit (.bool false)], args := [d] }
  | _ => none }
def ShiftMeansWrongFalsely : Prop := shiftMeansRow.holds Try.pinned (OpenSpec.ofChange shiftMeansWrong)

/-- 'scarfjointlaw33.ShiftTwice': WHATEVER THE INPUT: true; the input reads as it did. -/
def shiftTwiceSpec : ChangeSpec := { name := "shiftTwice", fn := fun _ => fun
  | [d1, d2] => { results := [.lit (.bool true)], args := [d1, d2] }
  | _ => none }
def shiftTwiceRow : OpenClaim := { program := "ytbihadcpidlfoaa", sum := "ffa3f05c1c8d2263cde209079fe74c117b8cf5e269ed42d8067809e35097d883", func := "scarfjoint/scarfjointlaw33.ShiftTwice", spec := "shiftTwice", unfollowed := true, recurses := true, apart := false }
def ShiftTwiceSaid : Prop := shiftTwiceRow.holds Try.pinned (OpenSpec.ofChange shiftTwiceSpec)

/-- ITS FALSE NEIGHBOUR: 'it returns false'. Refute it at one input. -/
def shiftTwiceWrong : ChangeSpec := { name := "shiftTwice", fn := fun _ => fun
  | [d1, d2] => { results := [.lit (.bool false)], args := [d1, d2] }
  | _ => none }
def ShiftTwiceWrongFalsely : Prop := shiftTwiceRow.holds Try.pinned (OpenSpec.ofChange shiftTwiceWrong)

/-- 'scarfjointlaw33.ShiftIdentity': WHATEVER THE INPUT: true; the input reads as it did. -/
def shiftIdentitySpec : ChangeSpec := { name := "shiftIdentity", fn := fun _ => fun
  | [d] => { results := [.lit (.bool true)], args := [d] }
  | _ => none }
def shiftIdentityRow : OpenClaim := { program := "ytbihadcpidlfoaa", sum := "ffa3f05c1c8d2263cde209079fe74c117b8cf5e269ed42d8067809e35097d883", func := "scarfjoint/scarfjointlaw33.ShiftIdentity", spec := "shiftIdentity", unfollowed := true, recurses := true, apart := false }
def ShiftIdentitySaid : Prop := shiftIdentityRow.holds Try.pinned (OpenSpec.ofChange shiftIdentitySpec)

/-- ITS FALSE NEIGHBOUR: 'it returns false'. Refute it at one input. -/
def shiftIdentityWrong : ChangeSpec := { name := "shiftIdentity", fn := fun _ => fun
  | [d] => { results := [.lit (.bool false)], args := [d] }
  | _ => none }
def ShiftIdentityWrongFalsely : Prop := shiftIdentityRow.holds Try.pinned (OpenSpec.ofChange shiftIdentityWrong)

/-- 'scarfjointlaw33.ShiftGlobal': WHATEVER THE INPUT: true; the input reads as it did. -/
def shiftGlobalSpec : ChangeSpec := { name := "shiftGlobal", fn := fun _ => fun
  | [d] => { results := [.lit (.bool true)], args := [d] }
  | _ => none }
def shiftGlobalRow : OpenClaim := { program := "ytbihadcpidlfoaa", sum := "ffa3f05c1c8d2263cde209079fe74c117b8cf5e269ed42d8067809e35097d883", func := "scarfjoint/scarfjointlaw33.ShiftGlobal", spec := "shiftGlobal", unfollowed := true, recurses := true, apart := false }
def ShiftGlobalSaid : Prop := shiftGlobalRow.holds Try.pinned (OpenSpec.ofChange shiftGlobalSpec)

/-- ITS FALSE NEIGHBOUR: 'it returns false'. Refute it at one input. -/
def shiftGlobalWrong : ChangeSpec := { name := "shiftGlobal", fn := fun _ => fun
  | [d] => { results := [.lit (.bool false)], args := [d] }
  | _ => none }
def ShiftGlobalWrongFalsely : Prop := shiftGlobalRow.holds Try.pinned (OpenSpec.ofChange shiftGlobalWrong)

/- THE SECOND FORM. 'bulk': how many values and letters a reading holds, each counted each time it is reached (what is shared counts as often as it is met; a slice's spare places count too). A statement '..UptoSaid' is the law's where the arguments, and the package variables that the reading takes, are together of bulk at most 1048576: NARROWER than '..Said'. Prove '..Said' where nothing that the law and all that it calls make is longer than what came in: it says more and counts as full. Else prove '..UptoSaid'. A law counts once. -/
mutual
def uptoBulk {H : Type} : DataW H → Nat
  | .lit (.string bytes) => bytes.length + 1
  | .lit _ => 1
  | .nil => 1
  | .ptr d => uptoBulk d + 1
  | .slice elems spare => uptoBulkAll elems + uptoBulkAll spare + 1
  | .agg parts => uptoBulkAll parts + 1
  | .iface _ d => uptoBulk d + 1
  | .map entries => uptoBulkEntries entries + 1
  | .held _ => 1
def uptoBulkAll {H : Type} : List (DataW H) → Nat
  | [] => 0
  | d :: r => uptoBulk d + uptoBulkAll r
def uptoBulkEntries {H : Type} : List (Lit × DataW H) → Nat
  | [] => 0
  | x :: r => uptoBulkEntry x + uptoBulkEntries r
def uptoBulkEntry {H : Type} : Lit × DataW H → Nat
  | (.string bytes, d) => bytes.length + uptoBulk d + 1
  | (_, d) => uptoBulk d + 1
 end
def uptoSmall : (H : Type) → List (DataW H) → Bool := fun _ ds => decide (uptoBulkAll ds ≤ 1048576)
def OpenSpec.upto (s : _root_.Go.ChangeSpec) : _root_.Go.OpenSpec := { _root_.Go.OpenSpec.ofChange s with cond := some uptoSmall }

/-- 'scarfjointlaw33.ShiftValid', WHERE WHAT IT READS IS OF BULK AT MOST 1048576: true; the input reads as it did. -/
def shiftValidUptoRow : OpenClaim := { program := "ytbihadcpidlfoaa", sum := "ffa3f05c1c8d2263cde209079fe74c117b8cf5e269ed42d8067809e35097d883", func := "scarfjoint/scarfjointlaw33.ShiftValid", spec := "shiftValid", unfollowed := true, recurses := true, loops := true, apart := false, narrowed := true }
def ShiftValidUptoSaid : Prop := shiftValidUptoRow.holds Try.pinned (OpenSpec.upto shiftValidSpec)

/-- 'scarfjointlaw33.ShiftMeans', WHERE WHAT IT READS IS OF BULK AT MOST 1048576: true; the input reads as it did. -/
def shiftMeansUptoRow : OpenClaim := { program := "ytbihadcpidlfoaa", sum := "ffa3f05c1c8d2263cde209079fe74c117b8cf5e269ed42d8067809e35097d883", func := "scarfjoint/scarfjointlaw33.ShiftMeans", spec := "shiftMeans", unfollowed := true, recurses := true, apart := false, narrowed := true }
def ShiftMeansUptoSaid : Prop := shiftMeansUptoRow.holds Try.pinned (OpenSpec.upto shiftMeansSpec)

/-- 'scarfjointlaw33.ShiftTwice', WHERE WHAT IT READS IS OF BULK AT MOST 1048576: true; the input reads as it did. -/
def shiftTwiceUptoRow : OpenClaim := { program := "ytbihadcpidlfoaa", sum := "ffa3f05c1c8d2263cde209079fe74c117b8cf5e269ed42d8067809e35097d883", func := "scarfjoint/scarfjointlaw33.ShiftTwice", spec := "shiftTwice", unfollowed := true, recurses := true, apart := false, narrowed := true }
def ShiftTwiceUptoSaid : Prop := shiftTwiceUptoRow.holds Try.pinned (OpenSpec.upto shiftTwiceSpec)

/-- 'scarfjointlaw33.ShiftIdentity', WHERE WHAT IT READS IS OF BULK AT MOST 1048576: true; the input reads as it did. -/
def shiftIdentityUptoRow : OpenClaim := { program := "ytbihadcpidlfoaa", sum := "ffa3f05c1c8d2263cde209079fe74c117b8cf5e269ed42d8067809e35097d883", func := "scarfjoint/scarfjointlaw33.ShiftIdentity", spec := "shiftIdentity", unfollowed := true, recurses := true, apart := false, narrowed := true }
def ShiftIdentityUptoSaid : Prop := shiftIdentityUptoRow.holds Try.pinned (OpenSpec.upto shiftIdentitySpec)

/-- 'scarfjointlaw33.ShiftGlobal', WHERE WHAT IT READS IS OF BULK AT MOST 1048576: true; the input reads as it did. -/
def shiftGlobalUptoRow : OpenClaim := { program := "ytbihadcpidlfoaa", sum := "ffa3f05c1c8d2263cde209079fe74c117b8cf5e269ed42d8067809e35097d883", func := "scarfjoint/scarfjointlaw33.ShiftGlobal", spec := "shiftGlobal", unfollowed := true, recurses := true, apart := false, narrowed := true }
def ShiftGlobalUptoSaid : Prop := shiftGlobalUptoRow.holds Try.pinned (OpenSpec.upto shiftGlobalSpec)

end Rows
end Go.Proofs.Ytbihadcpidlfoaa
