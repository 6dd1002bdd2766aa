/-
  NARROWER THAN 'FOR EVERY INPUT', by the rows' own cells (each row's printed sentence says how): ShiftSatisfies: loops · ShiftShift: loops · ShiftLocal: loops.
  DERIVED. THE GIVEN ROWS OF THIS SEAT. 3 by the template 'for every input the law returns true; each argument reads behind the call as it read before'; 0 by the template 'total and deterministic' (their statements: YtbihadcpidlfoaaGreatTotals.lean).
  GIVEN WITH THE SEED: the statements are not yours to turn. If you find one false, say at which input.
  Laid BY PROGRAM, IN A SANDBOX (cutbox-rows.mjs): the forced cells as the released guide's own fill.sh prints them over the translation 4f23da374495d787… (all of the seat's roots in one cut). By AI agents, Wed Nov 11 2026. No macro, syntax, notation, axiom, sorry.
-/
import Derived.Test.YtbihadcpidlfoaaGreatChecked
import GoSem.Claim
import GoSem.ClaimJoined
import GoSem.ClaimMapViews
import Derived.JoinedTies
import Derived.KernelRfl
namespace Go.Proofs.YtbihadcpidlfoaaGreat
/- THE CELL 'sum', in the pinned program and in every row, IS THE sha256 OF THE DUMP (.gsa) THAT YtbihadcpidlfoaaGreatProg.lean LOADS. Nothing in Lean hashes anything: it is a label: what it is worth is what the hold of that sum in a sandbox is worth. -/
noncomputable def Tryz.pinned : Pinned := { name := "ytbihadcpidlfoaagreat", sum := "4f23da374495d7874b649647eca99bbb7395097af995e4c4ed7bbceb15913908", checked := Tryz.checked }
namespace Rows
def none {H : Type} : Left H := { results := [], args := [] }

/-- 'scarfjointlaw33.ShiftSatisfies': WHATEVER THE INPUT: true; the input reads as it did. -/
def shiftSatisfiesSpec : ChangeSpec := { name := "shiftSatisfies", fn := fun _ => fun
  | [d1, d2, d3] => { results := [.lit (.bool true)], args := [d1, d2, d3] }
  | _ => none }
def shiftSatisfiesRow : OpenClaim := { program := "ytbihadcpidlfoaagreat", sum := "4f23da374495d7874b649647eca99bbb7395097af995e4c4ed7bbceb15913908", func := "scarfjoint/scarfjointlaw33.ShiftSatisfies", spec := "shiftSatisfies", unfollowed := true, recurses := true, loops := true, apart := false }
def ShiftSatisfiesSaid : Prop := shiftSatisfiesRow.holds Tryz.pinned (OpenSpec.ofChange shiftSatisfiesSpec)

/-- ITS FALSE NEIGHBOUR: 'it returns false'. Refute it at one input. -/
def shiftSatisfiesWrong : ChangeSpec := { name := "shiftSatisfies", fn := fun _ => fun
  | [d1, d2, d3] => { results := [.lit (.bool false)], args := [d1, d2, d3] }
  | _ => none }
def ShiftSatisfiesWrongFalsely : Prop := shiftSatisfiesRow.holds Tryz.pinned (OpenSpec.ofChange shiftSatisfiesWrong)

/-- 'scarfjointlaw33.ShiftShift': WHATEVER THE INPUT: true; the input reads as it did. -/
def shiftShiftSpec : ChangeSpec := { name := "shiftShift", fn := fun _ => fun
  | [d1, d2, d3] => { results := [.lit (.bool true)], args := [d1, d2, d3] }
  | _ => none }
def shiftShiftRow : OpenClaim := { program := "ytbihadcpidlfoaagreat", sum := "4f23da374495d7874b649647eca99bbb7395097af995e4c4ed7bbceb15913908", func := "scarfjoint/scarfjointlaw33.ShiftShift", spec := "shiftShift", unfollowed := true, recurses := true, loops := true, apart := false }
def ShiftShiftSaid : Prop := shiftShiftRow.holds Tryz.pinned (OpenSpec.ofChange shiftShiftSpec)

/-- ITS FALSE NEIGHBOUR: 'it returns false'. Refute it at one input. -/
def shiftShiftWrong : ChangeSpec := { name := "shiftShift", fn := fun _ => fun
  | [d1, d2, d3] => { results := [.lit (.bool false)], args := [d1, d2, d3] }
  | _ => none }
def ShiftShiftWrongFalsely : Prop := shiftShiftRow.holds Tryz.pinned (OpenSpec.ofChange shiftShiftWrong)

/-- 'scarfjointlaw33.ShiftLocal': WHATEVER THE INPUT: true; the input reads as it did. -/
def shiftLocalSpec : ChangeSpec := { name := "shiftLocal", fn := fun _ => fun
  | [d1, d2] => { results := [.lit (.bool true)], args := [d1, d2] }
  | _ => none }
def shiftLocalRow : OpenClaim := { program := "ytbihadcpidlfoaagreat", sum := "4f23da374495d7874b649647eca99bbb7395097af995e4c4ed7bbceb15913908", func := "scarfjoint/scarfjointlaw33.ShiftLocal", spec := "shiftLocal", unfollowed := true, recurses := true, loops := true, apart := false }
def ShiftLocalSaid : Prop := shiftLocalRow.holds Tryz.pinned (OpenSpec.ofChange shiftLocalSpec)

/-- ITS FALSE NEIGHBOUR: 'it returns false'. Refute it at one input. -/
def shiftLocalWrong : ChangeSpec := { name := "shiftLocal", fn := fun _ => fun
  | [d1, d2] => { results := [.lit (.bool false)], args := [d1, d2] }
  | _ => none }
def ShiftLocalWrongFalsely : Prop := shiftLocalRow.holds Tryz.pinned (OpenSpec.ofChange shiftLocalWrong)

/- THE SECOND FORM. 'bulk': how many values and letters a reading holds, each counted each time it is reached (what is shared counts as often as it is met; a slice's spare places count too). A statement '..UptoSaid' is the law's where the arguments, and the package variables that the reading takes, are together of bulk at most 1048576: NARROWER than '..Said'. Prove '..Said' where nothing that the law and all that it calls make is longer than what came in: it says more and counts as full. Else prove '..UptoSaid'. A law counts once. -/
mutual
def uptoBulk {H : Type} : DataW H → Nat
  | .lit (.string bytes) => bytes.length + 1
  | .lit _ => 1
  | .nil => 1
  | .ptr d => uptoBulk d + 1
  | .slice elems spare => uptoBulkAll elems + uptoBulkAll spare + 1
  | .agg parts => uptoBulkAll parts + 1
  | .iface _ d => uptoBulk d + 1
  | .map entries => uptoBulkEntries entries + 1
  | .held _ => 1
def uptoBulkAll {H : Type} : List (DataW H) → Nat
  | [] => 0
  | d :: r => uptoBulk d + uptoBulkAll r
def uptoBulkEntries {H : Type} : List (Lit × DataW H) → Nat
  | [] => 0
  | x :: r => uptoBulkEntry x + uptoBulkEntries r
def uptoBulkEntry {H : Type} : Lit × DataW H → Nat
  | (.string bytes, d) => bytes.length + uptoBulk d + 1
  | (_, d) => uptoBulk d + 1
 end
def uptoSmall : (H : Type) → List (DataW H) → Bool := fun _ ds => decide (uptoBulkAll ds ≤ 1048576)
def OpenSpec.upto (s : _root_.Go.ChangeSpec) : _root_.Go.OpenSpec := { _root_.Go.OpenSpec.ofChange s with cond := some uptoSmall }

/-- 'scarfjointlaw33.ShiftSatisfies', WHERE WHAT IT READS IS OF BULK AT MOST 1048576: true; the input reads as it did. -/
def shiftSatisfiesUptoRow : OpenClaim := { program := "ytbihadcpidlfoaagreat", sum := "4f23da374495d7874b649647eca99bbb7395097af995e4c4ed7bbceb15913908", func := "scarfjoint/scarfjointlaw33.ShiftSatisfies", spec := "shiftSatisfies", unfollowed := true, recurses := true, loops := true, apart := false, narrowed := true }
def ShiftSatisfiesUptoSaid : Prop := shiftSatisfiesUptoRow.holds Tryz.pinned (OpenSpec.upto shiftSatisfiesSpec)

/-- 'scarfjointlaw33.ShiftShift', WHERE WHAT IT READS IS OF BULK AT MOST 1048576: true; the input reads as it did. -/
def shiftShiftUptoRow : OpenClaim := { program := "ytbihadcpidlfoaagreat", sum := "4f23da374495d7874b649647eca99bbb7395097af995e4c4ed7bbceb15913908", func := "scarfjoint/scarfjointlaw33.ShiftShift", spec := "shiftShift", unfollowed := true, recurses := true, loops := true, apart := false, narrowed := true }
def ShiftShiftUptoSaid : Prop := shiftShiftUptoRow.holds Tryz.pinned (OpenSpec.upto shiftShiftSpec)

/-- 'scarfjointlaw33.ShiftLocal', WHERE WHAT IT READS IS OF BULK AT MOST 1048576: true; the input reads as it did. -/
def shiftLocalUptoRow : OpenClaim := { program := "ytbihadcpidlfoaagreat", sum := "4f23da374495d7874b649647eca99bbb7395097af995e4c4ed7bbceb15913908", func := "scarfjoint/scarfjointlaw33.ShiftLocal", spec := "shiftLocal", unfollowed := true, recurses := true, loops := true, apart := false, narrowed := true }
def ShiftLocalUptoSaid : Prop := shiftLocalUptoRow.holds Tryz.pinned (OpenSpec.upto shiftLocalSpec)

end Rows
end Go.Proofs.YtbihadcpidlfoaaGreat
