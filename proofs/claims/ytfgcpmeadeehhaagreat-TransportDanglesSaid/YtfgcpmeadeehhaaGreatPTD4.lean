/-
 Parts of the proof, as merged from many texts: a machine over data, what the functions compute, plain laws.
-/
import Derived.Test.YtfgcpmeadeehhaaGreatPTD3
import Derived.Test.YtfgcpmeadeehhaaGreatRows
import Derived.WalkKit
import Derived.Deep.LoopGhost
import Derived.Deep.AppendLies
import Derived.Laws.AppendOwnNone
import Derived.Deep.RegionHeld3
set_option linter.unusedSimpArgs false
set_option linter.unusedVariables false
namespace Go.AM
open Go Go.Proofs
theorem follows_Tryz : Tryz.prog.follows .mixedOrders = true := by kernel_rfl
@[simp] theorem szOf_2 : szOf Tryz.prog 2 = some 1 := by kernel_rfl
@[simp] theorem aggT_2 : aggT Tryz.prog 2 = some false := by kernel_rfl
@[simp] theorem strT_2 : strT Tryz.prog 2 = false := by kernel_rfl
@[simp] theorem boolT_2 : boolT Tryz.prog 2 = false := by kernel_rfl
@[simp] theorem elemT_2 : elemT Tryz.prog 2 = none := by kernel_rfl
@[simp] theorem rowT_2 : rowT Tryz.prog 2 = none := by kernel_rfl
@[simp] theorem kindT_2 : kindT Tryz.prog 2 = some .i64 := by kernel_rfl
@[simp] theorem zeroT_2 : zeroT Tryz.prog 2 = some [.int .i64 0] := by kernel_rfl
@[simp] theorem szOf_3 : szOf Tryz.prog 3 = some 1 := by kernel_rfl
@[simp] theorem aggT_3 : aggT Tryz.prog 3 = some false := by kernel_rfl
@[simp] theorem strT_3 : strT Tryz.prog 3 = false := by kernel_rfl
@[simp] theorem boolT_3 : boolT Tryz.prog 3 = false := by kernel_rfl
@[simp] theorem elemT_3 : elemT Tryz.prog 3 = none := by kernel_rfl
@[simp] theorem rowT_3 : rowT Tryz.prog 3 = none := by kernel_rfl
@[simp] theorem kindT_3 : kindT Tryz.prog 3 = some .i64 := by kernel_rfl
@[simp] theorem zeroT_3 : zeroT Tryz.prog 3 = some [.int .i64 0] := by kernel_rfl
@[simp] theorem szOf_4 : szOf Tryz.prog 4 = some 1 := by kernel_rfl
@[simp] theorem aggT_4 : aggT Tryz.prog 4 = some false := by kernel_rfl
@[simp] theorem strT_4 : strT Tryz.prog 4 = false := by kernel_rfl
@[simp] theorem boolT_4 : boolT Tryz.prog 4 = true := by kernel_rfl
@[simp] theorem elemT_4 : elemT Tryz.prog 4 = none := by kernel_rfl
@[simp] theorem rowT_4 : rowT Tryz.prog 4 = none := by kernel_rfl
@[simp] theorem zeroT_4 : zeroT Tryz.prog 4 = some [.bool false] := by kernel_rfl
@[simp] theorem szOf_5 : szOf Tryz.prog 5 = some 1 := by kernel_rfl
@[simp] theorem aggT_5 : aggT Tryz.prog 5 = some false := by kernel_rfl
@[simp] theorem strT_5 : strT Tryz.prog 5 = false := by kernel_rfl
@[simp] theorem boolT_5 : boolT Tryz.prog 5 = false := by kernel_rfl
@[simp] theorem elemT_5 : elemT Tryz.prog 5 = none := by kernel_rfl
@[simp] theorem rowT_5 : rowT Tryz.prog 5 = none := by kernel_rfl
@[simp] theorem kindT_5 : kindT Tryz.prog 5 = some .u8 := by kernel_rfl
@[simp] theorem zeroT_5 : zeroT Tryz.prog 5 = some [.int .u8 0] := by kernel_rfl
@[simp] theorem szOf_9 : szOf Tryz.prog 9 = some 1 := by kernel_rfl
@[simp] theorem aggT_9 : aggT Tryz.prog 9 = some false := by kernel_rfl
@[simp] theorem strT_9 : strT Tryz.prog 9 = true := by kernel_rfl
@[simp] theorem boolT_9 : boolT Tryz.prog 9 = false := by kernel_rfl
@[simp] theorem elemT_9 : elemT Tryz.prog 9 = none := by kernel_rfl
@[simp] theorem rowT_9 : rowT Tryz.prog 9 = none := by kernel_rfl
@[simp] theorem zeroT_9 : zeroT Tryz.prog 9 = some [.string ⟨#[]⟩] := by kernel_rfl
@[simp] theorem szOf_21 : szOf Tryz.prog 21 = some 1 := by kernel_rfl
@[simp] theorem aggT_21 : aggT Tryz.prog 21 = some false := by kernel_rfl
@[simp] theorem strT_21 : strT Tryz.prog 21 = false := by kernel_rfl
@[simp] theorem boolT_21 : boolT Tryz.prog 21 = false := by kernel_rfl
@[simp] theorem elemT_21 : elemT Tryz.prog 21 = none := by kernel_rfl
@[simp] theorem rowT_21 : rowT Tryz.prog 21 = none := by kernel_rfl
@[simp] theorem kindT_21 : kindT Tryz.prog 21 = some .i32 := by kernel_rfl
@[simp] theorem zeroT_21 : zeroT Tryz.prog 21 = some [.int .i32 0] := by kernel_rfl
@[simp] theorem szOf_22 : szOf Tryz.prog 22 = some 1 := by kernel_rfl
@[simp] theorem aggT_22 : aggT Tryz.prog 22 = some false := by kernel_rfl
@[simp] theorem strT_22 : strT Tryz.prog 22 = false := by kernel_rfl
@[simp] theorem boolT_22 : boolT Tryz.prog 22 = false := by kernel_rfl
@[simp] theorem elemT_22 : elemT Tryz.prog 22 = some 3 := by kernel_rfl
@[simp] theorem rowT_22 : rowT Tryz.prog 22 = some (3, 1, 8) := by kernel_rfl
@[simp] theorem makeT_22 : makeT Tryz.prog 22 = some (1, 8, [.int .i64 0]) := by kernel_rfl
@[simp] theorem zeroT_22 : zeroT Tryz.prog 22 = some [.slice none 0 0] := by kernel_rfl
@[simp] theorem szOf_23 : szOf Tryz.prog 23 = some 1 := by kernel_rfl
@[simp] theorem aggT_23 : aggT Tryz.prog 23 = some false := by kernel_rfl
@[simp] theorem strT_23 : strT Tryz.prog 23 = false := by kernel_rfl
@[simp] theorem boolT_23 : boolT Tryz.prog 23 = false := by kernel_rfl
@[simp] theorem elemT_23 : elemT Tryz.prog 23 = some 133 := by kernel_rfl
@[simp] theorem rowT_23 : rowT Tryz.prog 23 = some (133, 3, 24) := by kernel_rfl
@[simp] theorem makeT_23 : makeT Tryz.prog 23 = some (3, 24, [.int .i64 0, .int .i64 0, .int .i64 0]) := by kernel_rfl
@[simp] theorem zeroT_23 : zeroT Tryz.prog 23 = some [.slice none 0 0] := by kernel_rfl
@[simp] theorem szOf_25 : szOf Tryz.prog 25 = some 2 := by kernel_rfl
@[simp] theorem aggT_25 : aggT Tryz.prog 25 = some true := by kernel_rfl
@[simp] theorem strT_25 : strT Tryz.prog 25 = false := by kernel_rfl
@[simp] theorem boolT_25 : boolT Tryz.prog 25 = false := by kernel_rfl
@[simp] theorem elemT_25 : elemT Tryz.prog 25 = none := by kernel_rfl
@[simp] theorem rowT_25 : rowT Tryz.prog 25 = none := by kernel_rfl
@[simp] theorem structT_25 : structT Tryz.prog 25 = some [(0, 1), (1, 1)] := by kernel_rfl
@[simp] theorem fieldT_25_0 : fieldT Tryz.prog 25 0 = some (22, 0) := by kernel_rfl
@[simp] theorem fieldT_25_1 : fieldT Tryz.prog 25 1 = some (23, 1) := by kernel_rfl
@[simp] theorem zeroT_25 : zeroT Tryz.prog 25 = some [.slice none 0 0, .slice none 0 0] := by kernel_rfl
@[simp] theorem szOf_26 : szOf Tryz.prog 26 = some 1 := by kernel_rfl
@[simp] theorem aggT_26 : aggT Tryz.prog 26 = some false := by kernel_rfl
@[simp] theorem strT_26 : strT Tryz.prog 26 = false := by kernel_rfl
@[simp] theorem boolT_26 : boolT Tryz.prog 26 = false := by kernel_rfl
@[simp] theorem elemT_26 : elemT Tryz.prog 26 = some 102 := by kernel_rfl
@[simp] theorem rowT_26 : rowT Tryz.prog 26 = some (102, 4, 32) := by kernel_rfl
@[simp] theorem makeT_26 : makeT Tryz.prog 26 = some (4, 32, [.int .i64 0, .int .i64 0, .int .i64 0, .int .i64 0]) := by kernel_rfl
@[simp] theorem zeroT_26 : zeroT Tryz.prog 26 = some [.slice none 0 0] := by kernel_rfl
@[simp] theorem szOf_27 : szOf Tryz.prog 27 = some 1 := by kernel_rfl
@[simp] theorem aggT_27 : aggT Tryz.prog 27 = some false := by kernel_rfl
@[simp] theorem strT_27 : strT Tryz.prog 27 = false := by kernel_rfl
@[simp] theorem boolT_27 : boolT Tryz.prog 27 = false := by kernel_rfl
@[simp] theorem elemT_27 : elemT Tryz.prog 27 = some 104 := by kernel_rfl
@[simp] theorem rowT_27 : rowT Tryz.prog 27 = some (104, 5, 40) := by kernel_rfl
@[simp] theorem makeT_27 : makeT Tryz.prog 27 = some (5, 40, [.int .i64 0, .int .i64 0, .int .i64 0, .int .i64 0, .int .i64 0]) := by kernel_rfl
@[simp] theorem zeroT_27 : zeroT Tryz.prog 27 = some [.slice none 0 0] := by kernel_rfl
@[simp] theorem szOf_29 : szOf Tryz.prog 29 = some 5 := by kernel_rfl
@[simp] theorem aggT_29 : aggT Tryz.prog 29 = some true := by kernel_rfl
@[simp] theorem strT_29 : strT Tryz.prog 29 = false := by kernel_rfl
@[simp] theorem boolT_29 : boolT Tryz.prog 29 = false := by kernel_rfl
@[simp] theorem elemT_29 : elemT Tryz.prog 29 = none := by kernel_rfl
@[simp] theorem rowT_29 : rowT Tryz.prog 29 = none := by kernel_rfl
@[simp] theorem structT_29 : structT Tryz.prog 29 = some [(0, 2), (2, 1), (3, 1), (4, 1)] := by kernel_rfl
@[simp] theorem fieldT_29_0 : fieldT Tryz.prog 29 0 = some (25, 0) := by kernel_rfl
@[simp] theorem fieldT_29_1 : fieldT Tryz.prog 29 1 = some (26, 2) := by kernel_rfl
@[simp] theorem fieldT_29_2 : fieldT Tryz.prog 29 2 = some (3, 3) := by kernel_rfl
@[simp] theorem fieldT_29_3 : fieldT Tryz.prog 29 3 = some (27, 4) := by kernel_rfl
@[simp] theorem zeroT_29 : zeroT Tryz.prog 29 = some [.slice none 0 0, .slice none 0 0, .slice none 0 0, .int .i64 0, .slice none 0 0] := by kernel_rfl
@[simp] theorem szOf_31 : szOf Tryz.prog 31 = some 2 := by kernel_rfl
@[simp] theorem aggT_31 : aggT Tryz.prog 31 = some true := by kernel_rfl
@[simp] theorem strT_31 : strT Tryz.prog 31 = false := by kernel_rfl
@[simp] theorem boolT_31 : boolT Tryz.prog 31 = false := by kernel_rfl
@[simp] theorem elemT_31 : elemT Tryz.prog 31 = none := by kernel_rfl
@[simp] theorem rowT_31 : rowT Tryz.prog 31 = none := by kernel_rfl
@[simp] theorem structT_31 : structT Tryz.prog 31 = some [(0, 1), (1, 1)] := by kernel_rfl
@[simp] theorem fieldT_31_0 : fieldT Tryz.prog 31 0 = some (22, 0) := by kernel_rfl
@[simp] theorem fieldT_31_1 : fieldT Tryz.prog 31 1 = some (22, 1) := by kernel_rfl
@[simp] theorem zeroT_31 : zeroT Tryz.prog 31 = some [.slice none 0 0, .slice none 0 0] := by kernel_rfl
@[simp] theorem szOf_32 : szOf Tryz.prog 32 = some 2 := by kernel_rfl
@[simp] theorem aggT_32 : aggT Tryz.prog 32 = some true := by kernel_rfl
@[simp] theorem strT_32 : strT Tryz.prog 32 = false := by kernel_rfl
@[simp] theorem boolT_32 : boolT Tryz.prog 32 = false := by kernel_rfl
@[simp] theorem elemT_32 : elemT Tryz.prog 32 = none := by kernel_rfl
@[simp] theorem rowT_32 : rowT Tryz.prog 32 = none := by kernel_rfl
@[simp] theorem structT_32 : structT Tryz.prog 32 = some [(0, 1), (1, 1)] := by kernel_rfl
@[simp] theorem fieldT_32_0 : fieldT Tryz.prog 32 0 = some (22, 0) := by kernel_rfl
@[simp] theorem fieldT_32_1 : fieldT Tryz.prog 32 1 = some (22, 1) := by kernel_rfl
@[simp] theorem zeroT_32 : zeroT Tryz.prog 32 = some [.slice none 0 0, .slice none 0 0] := by kernel_rfl
@[simp] theorem szOf_33 : szOf Tryz.prog 33 = some 1 := by kernel_rfl
@[simp] theorem aggT_33 : aggT Tryz.prog 33 = some false := by kernel_rfl
@[simp] theorem strT_33 : strT Tryz.prog 33 = false := by kernel_rfl
@[simp] theorem boolT_33 : boolT Tryz.prog 33 = false := by kernel_rfl
@[simp] theorem elemT_33 : elemT Tryz.prog 33 = some 35 := by kernel_rfl
@[simp] theorem rowT_33 : rowT Tryz.prog 33 = some (35, 9, 184) := by kernel_rfl
@[simp] theorem makeT_33 : makeT Tryz.prog 33 = some (9, 184, [.int .i64 0, .slice none 0 0, .slice none 0 0, .slice none 0 0, .slice none 0 0, .slice none 0 0, .slice none 0 0, .int .i64 0, .slice none 0 0]) := by kernel_rfl
@[simp] theorem zeroT_33 : zeroT Tryz.prog 33 = some [.slice none 0 0] := by kernel_rfl
@[simp] theorem szOf_35 : szOf Tryz.prog 35 = some 9 := by kernel_rfl
@[simp] theorem aggT_35 : aggT Tryz.prog 35 = some true := by kernel_rfl
@[simp] theorem strT_35 : strT Tryz.prog 35 = false := by kernel_rfl
@[simp] theorem boolT_35 : boolT Tryz.prog 35 = false := by kernel_rfl
@[simp] theorem elemT_35 : elemT Tryz.prog 35 = none := by kernel_rfl
@[simp] theorem rowT_35 : rowT Tryz.prog 35 = none := by kernel_rfl
@[simp] theorem structT_35 : structT Tryz.prog 35 = some [(0, 1), (1, 1), (2, 2), (4, 5)] := by kernel_rfl
@[simp] theorem fieldT_35_0 : fieldT Tryz.prog 35 0 = some (3, 0) := by kernel_rfl
@[simp] theorem fieldT_35_1 : fieldT Tryz.prog 35 1 = some (33, 1) := by kernel_rfl
@[simp] theorem fieldT_35_2 : fieldT Tryz.prog 35 2 = some (32, 2) := by kernel_rfl
@[simp] theorem fieldT_35_3 : fieldT Tryz.prog 35 3 = some (29, 4) := by kernel_rfl
@[simp] theorem zeroT_35 : zeroT Tryz.prog 35 = some [.int .i64 0, .slice none 0 0, .slice none 0 0, .slice none 0 0, .slice none 0 0, .slice none 0 0, .slice none 0 0, .int .i64 0, .slice none 0 0] := by kernel_rfl
@[simp] theorem szOf_37 : szOf Tryz.prog 37 = some 25 := by kernel_rfl
@[simp] theorem aggT_37 : aggT Tryz.prog 37 = some true := by kernel_rfl
@[simp] theorem strT_37 : strT Tryz.prog 37 = false := by kernel_rfl
@[simp] theorem boolT_37 : boolT Tryz.prog 37 = false := by kernel_rfl
@[simp] theorem elemT_37 : elemT Tryz.prog 37 = none := by kernel_rfl
@[simp] theorem rowT_37 : rowT Tryz.prog 37 = none := by kernel_rfl
@[simp] theorem structT_37 : structT Tryz.prog 37 = some [(0, 1), (1, 5), (6, 5), (11, 2), (13, 2), (15, 1), (16, 9)] := by kernel_rfl
@[simp] theorem fieldT_37_0 : fieldT Tryz.prog 37 0 = some (9, 0) := by kernel_rfl
@[simp] theorem fieldT_37_1 : fieldT Tryz.prog 37 1 = some (29, 1) := by kernel_rfl
@[simp] theorem fieldT_37_2 : fieldT Tryz.prog 37 2 = some (29, 6) := by kernel_rfl
@[simp] theorem fieldT_37_3 : fieldT Tryz.prog 37 3 = some (31, 11) := by kernel_rfl
@[simp] theorem fieldT_37_4 : fieldT Tryz.prog 37 4 = some (32, 13) := by kernel_rfl
@[simp] theorem fieldT_37_5 : fieldT Tryz.prog 37 5 = some (4, 15) := by kernel_rfl
@[simp] theorem fieldT_37_6 : fieldT Tryz.prog 37 6 = some (35, 16) := by kernel_rfl
@[simp] theorem zeroT_37 : zeroT Tryz.prog 37 = some [.string ⟨#[]⟩, .slice none 0 0, .slice none 0 0, .slice none 0 0, .int .i64 0, .slice none 0 0, .slice none 0 0, .slice none 0 0, .slice none 0 0, .int .i64 0, .slice none 0 0, .slice none 0 0, .slice none 0 0, .slice none 0 0, .slice none 0 0, .bool false, .int .i64 0, .slice none 0 0, .slice none 0 0, .slice none 0 0, .slice none 0 0, .slice none 0 0, .slice none 0 0, .int .i64 0, .slice none 0 0] := by kernel_rfl
@[simp] theorem szOf_41 : szOf Tryz.prog 41 = some 1 := by kernel_rfl
@[simp] theorem aggT_41 : aggT Tryz.prog 41 = some false := by kernel_rfl
@[simp] theorem strT_41 : strT Tryz.prog 41 = false := by kernel_rfl
@[simp] theorem boolT_41 : boolT Tryz.prog 41 = false := by kernel_rfl
@[simp] theorem elemT_41 : elemT Tryz.prog 41 = none := by kernel_rfl
@[simp] theorem rowT_41 : rowT Tryz.prog 41 = none := by kernel_rfl
@[simp] theorem kindT_41 : kindT Tryz.prog 41 = some .i64 := by kernel_rfl
@[simp] theorem zeroT_41 : zeroT Tryz.prog 41 = some [.int .i64 0] := by kernel_rfl
@[simp] theorem szOf_46 : szOf Tryz.prog 46 = some 1 := by kernel_rfl
@[simp] theorem aggT_46 : aggT Tryz.prog 46 = some false := by kernel_rfl
@[simp] theorem strT_46 : strT Tryz.prog 46 = false := by kernel_rfl
@[simp] theorem boolT_46 : boolT Tryz.prog 46 = false := by kernel_rfl
@[simp] theorem elemT_46 : elemT Tryz.prog 46 = some 82 := by kernel_rfl
@[simp] theorem rowT_46 : rowT Tryz.prog 46 = some (82, 4, 56) := by kernel_rfl
@[simp] theorem makeT_46 : makeT Tryz.prog 46 = some (4, 56, [.string ⟨#[]⟩, .int .i64 0, .bool false, .slice none 0 0]) := by kernel_rfl
@[simp] theorem zeroT_46 : zeroT Tryz.prog 46 = some [.slice none 0 0] := by kernel_rfl
@[simp] theorem szOf_47 : szOf Tryz.prog 47 = some 1 := by kernel_rfl
@[simp] theorem aggT_47 : aggT Tryz.prog 47 = some false := by kernel_rfl
@[simp] theorem strT_47 : strT Tryz.prog 47 = false := by kernel_rfl
@[simp] theorem boolT_47 : boolT Tryz.prog 47 = false := by kernel_rfl
@[simp] theorem elemT_47 : elemT Tryz.prog 47 = some 84 := by kernel_rfl
@[simp] theorem rowT_47 : rowT Tryz.prog 47 = some (84, 7, 64) := by kernel_rfl
@[simp] theorem makeT_47 : makeT Tryz.prog 47 = some (7, 64, [.string ⟨#[]⟩, .int .i64 0, .int .i64 0, .int .i64 0, .int .i64 0, .int .i64 0, .int .i64 0]) := by kernel_rfl
@[simp] theorem zeroT_47 : zeroT Tryz.prog 47 = some [.slice none 0 0] := by kernel_rfl
@[simp] theorem szOf_49 : szOf Tryz.prog 49 = some 2 := by kernel_rfl
@[simp] theorem aggT_49 : aggT Tryz.prog 49 = some true := by kernel_rfl
@[simp] theorem strT_49 : strT Tryz.prog 49 = false := by kernel_rfl
@[simp] theorem boolT_49 : boolT Tryz.prog 49 = false := by kernel_rfl
@[simp] theorem elemT_49 : elemT Tryz.prog 49 = none := by kernel_rfl
@[simp] theorem rowT_49 : rowT Tryz.prog 49 = none := by kernel_rfl
@[simp] theorem structT_49 : structT Tryz.prog 49 = some [(0, 1), (1, 1)] := by kernel_rfl
@[simp] theorem fieldT_49_0 : fieldT Tryz.prog 49 0 = some (46, 0) := by kernel_rfl
@[simp] theorem fieldT_49_1 : fieldT Tryz.prog 49 1 = some (47, 1) := by kernel_rfl
@[simp] theorem zeroT_49 : zeroT Tryz.prog 49 = some [.slice none 0 0, .slice none 0 0] := by kernel_rfl
@[simp] theorem szOf_56 : szOf Tryz.prog 56 = some 1 := by kernel_rfl
@[simp] theorem aggT_56 : aggT Tryz.prog 56 = some false := by kernel_rfl
@[simp] theorem strT_56 : strT Tryz.prog 56 = false := by kernel_rfl
@[simp] theorem boolT_56 : boolT Tryz.prog 56 = false := by kernel_rfl
@[simp] theorem elemT_56 : elemT Tryz.prog 56 = some 5 := by kernel_rfl
@[simp] theorem rowT_56 : rowT Tryz.prog 56 = some (5, 1, 1) := by kernel_rfl
@[simp] theorem makeT_56 : makeT Tryz.prog 56 = some (1, 1, [.int .u8 0]) := by kernel_rfl
@[simp] theorem zeroT_56 : zeroT Tryz.prog 56 = some [.slice none 0 0] := by kernel_rfl
@[simp] theorem szOf_57 : szOf Tryz.prog 57 = some 1 := by kernel_rfl
@[simp] theorem aggT_57 : aggT Tryz.prog 57 = some false := by kernel_rfl
@[simp] theorem strT_57 : strT Tryz.prog 57 = false := by kernel_rfl
@[simp] theorem boolT_57 : boolT Tryz.prog 57 = false := by kernel_rfl
@[simp] theorem elemT_57 : elemT Tryz.prog 57 = some 215 := by kernel_rfl
@[simp] theorem rowT_57 : rowT Tryz.prog 57 = some (215, 3, 3) := by kernel_rfl
@[simp] theorem makeT_57 : makeT Tryz.prog 57 = some (3, 3, [.int .u8 0, .int .u8 0, .int .u8 0]) := by kernel_rfl
@[simp] theorem zeroT_57 : zeroT Tryz.prog 57 = some [.slice none 0 0] := by kernel_rfl
@[simp] theorem szOf_59 : szOf Tryz.prog 59 = some 2 := by kernel_rfl
@[simp] theorem aggT_59 : aggT Tryz.prog 59 = some true := by kernel_rfl
@[simp] theorem strT_59 : strT Tryz.prog 59 = false := by kernel_rfl
@[simp] theorem boolT_59 : boolT Tryz.prog 59 = false := by kernel_rfl
@[simp] theorem elemT_59 : elemT Tryz.prog 59 = none := by kernel_rfl
@[simp] theorem rowT_59 : rowT Tryz.prog 59 = none := by kernel_rfl
@[simp] theorem structT_59 : structT Tryz.prog 59 = some [(0, 1), (1, 1)] := by kernel_rfl
@[simp] theorem fieldT_59_0 : fieldT Tryz.prog 59 0 = some (56, 0) := by kernel_rfl
@[simp] theorem fieldT_59_1 : fieldT Tryz.prog 59 1 = some (57, 1) := by kernel_rfl
@[simp] theorem zeroT_59 : zeroT Tryz.prog 59 = some [.slice none 0 0, .slice none 0 0] := by kernel_rfl
@[simp] theorem szOf_60 : szOf Tryz.prog 60 = some 1 := by kernel_rfl
@[simp] theorem aggT_60 : aggT Tryz.prog 60 = some false := by kernel_rfl
@[simp] theorem strT_60 : strT Tryz.prog 60 = false := by kernel_rfl
@[simp] theorem boolT_60 : boolT Tryz.prog 60 = false := by kernel_rfl
@[simp] theorem elemT_60 : elemT Tryz.prog 60 = none := by kernel_rfl
@[simp] theorem rowT_60 : rowT Tryz.prog 60 = none := by kernel_rfl
@[simp] theorem kindT_60 : kindT Tryz.prog 60 = some .u64 := by kernel_rfl
@[simp] theorem zeroT_60 : zeroT Tryz.prog 60 = some [.int .u64 0] := by kernel_rfl
@[simp] theorem szOf_62 : szOf Tryz.prog 62 = some 4 := by kernel_rfl
@[simp] theorem aggT_62 : aggT Tryz.prog 62 = some true := by kernel_rfl
@[simp] theorem strT_62 : strT Tryz.prog 62 = false := by kernel_rfl
@[simp] theorem boolT_62 : boolT Tryz.prog 62 = false := by kernel_rfl
@[simp] theorem elemT_62 : elemT Tryz.prog 62 = none := by kernel_rfl
@[simp] theorem rowT_62 : rowT Tryz.prog 62 = none := by kernel_rfl
@[simp] theorem structT_62 : structT Tryz.prog 62 = some [(0, 2), (2, 1), (3, 1)] := by kernel_rfl
@[simp] theorem fieldT_62_0 : fieldT Tryz.prog 62 0 = some (59, 0) := by kernel_rfl
@[simp] theorem fieldT_62_1 : fieldT Tryz.prog 62 1 = some (60, 2) := by kernel_rfl
@[simp] theorem fieldT_62_2 : fieldT Tryz.prog 62 2 = some (56, 3) := by kernel_rfl
@[simp] theorem zeroT_62 : zeroT Tryz.prog 62 = some [.slice none 0 0, .slice none 0 0, .int .u64 0, .slice none 0 0] := by kernel_rfl
@[simp] theorem szOf_64 : szOf Tryz.prog 64 = some 6 := by kernel_rfl
@[simp] theorem aggT_64 : aggT Tryz.prog 64 = some true := by kernel_rfl
@[simp] theorem strT_64 : strT Tryz.prog 64 = false := by kernel_rfl
@[simp] theorem boolT_64 : boolT Tryz.prog 64 = false := by kernel_rfl
@[simp] theorem elemT_64 : elemT Tryz.prog 64 = none := by kernel_rfl
@[simp] theorem rowT_64 : rowT Tryz.prog 64 = none := by kernel_rfl
@[simp] theorem structT_64 : structT Tryz.prog 64 = some [(0, 4), (4, 1), (5, 1)] := by kernel_rfl
@[simp] theorem fieldT_64_0 : fieldT Tryz.prog 64 0 = some (62, 0) := by kernel_rfl
@[simp] theorem fieldT_64_1 : fieldT Tryz.prog 64 1 = some (56, 4) := by kernel_rfl
@[simp] theorem fieldT_64_2 : fieldT Tryz.prog 64 2 = some (56, 5) := by kernel_rfl
@[simp] theorem zeroT_64 : zeroT Tryz.prog 64 = some [.slice none 0 0, .slice none 0 0, .int .u64 0, .slice none 0 0, .slice none 0 0, .slice none 0 0] := by kernel_rfl
@[simp] theorem szOf_80 : szOf Tryz.prog 80 = some 1 := by kernel_rfl
@[simp] theorem aggT_80 : aggT Tryz.prog 80 = some false := by kernel_rfl
@[simp] theorem strT_80 : strT Tryz.prog 80 = false := by kernel_rfl
@[simp] theorem boolT_80 : boolT Tryz.prog 80 = false := by kernel_rfl
@[simp] theorem elemT_80 : elemT Tryz.prog 80 = some 107 := by kernel_rfl
@[simp] theorem rowT_80 : rowT Tryz.prog 80 = some (107, 4, 56) := by kernel_rfl
@[simp] theorem makeT_80 : makeT Tryz.prog 80 = some (4, 56, [.string ⟨#[]⟩, .int .i64 0, .int .i64 0, .slice none 0 0]) := by kernel_rfl
@[simp] theorem zeroT_80 : zeroT Tryz.prog 80 = some [.slice none 0 0] := by kernel_rfl
@[simp] theorem szOf_82 : szOf Tryz.prog 82 = some 4 := by kernel_rfl
@[simp] theorem aggT_82 : aggT Tryz.prog 82 = some true := by kernel_rfl
@[simp] theorem strT_82 : strT Tryz.prog 82 = false := by kernel_rfl
@[simp] theorem boolT_82 : boolT Tryz.prog 82 = false := by kernel_rfl
@[simp] theorem elemT_82 : elemT Tryz.prog 82 = none := by kernel_rfl
@[simp] theorem rowT_82 : rowT Tryz.prog 82 = none := by kernel_rfl
@[simp] theorem structT_82 : structT Tryz.prog 82 = some [(0, 1), (1, 1), (2, 1), (3, 1)] := by kernel_rfl
@[simp] theorem fieldT_82_0 : fieldT Tryz.prog 82 0 = some (9, 0) := by kernel_rfl
@[simp] theorem fieldT_82_1 : fieldT Tryz.prog 82 1 = some (3, 1) := by kernel_rfl
@[simp] theorem fieldT_82_2 : fieldT Tryz.prog 82 2 = some (4, 2) := by kernel_rfl
@[simp] theorem fieldT_82_3 : fieldT Tryz.prog 82 3 = some (80, 3) := by kernel_rfl
@[simp] theorem zeroT_82 : zeroT Tryz.prog 82 = some [.string ⟨#[]⟩, .int .i64 0, .bool false, .slice none 0 0] := by kernel_rfl
@[simp] theorem szOf_84 : szOf Tryz.prog 84 = some 7 := by kernel_rfl
@[simp] theorem aggT_84 : aggT Tryz.prog 84 = some true := by kernel_rfl
@[simp] theorem strT_84 : strT Tryz.prog 84 = false := by kernel_rfl
@[simp] theorem boolT_84 : boolT Tryz.prog 84 = false := by kernel_rfl
@[simp] theorem elemT_84 : elemT Tryz.prog 84 = none := by kernel_rfl
@[simp] theorem rowT_84 : rowT Tryz.prog 84 = none := by kernel_rfl
@[simp] theorem structT_84 : structT Tryz.prog 84 = some [(0, 1), (1, 1), (2, 1), (3, 1), (4, 1), (5, 1), (6, 1)] := by kernel_rfl
@[simp] theorem fieldT_84_0 : fieldT Tryz.prog 84 0 = some (9, 0) := by kernel_rfl
@[simp] theorem fieldT_84_1 : fieldT Tryz.prog 84 1 = some (3, 1) := by kernel_rfl
@[simp] theorem fieldT_84_2 : fieldT Tryz.prog 84 2 = some (3, 2) := by kernel_rfl
@[simp] theorem fieldT_84_3 : fieldT Tryz.prog 84 3 = some (3, 3) := by kernel_rfl
@[simp] theorem fieldT_84_4 : fieldT Tryz.prog 84 4 = some (3, 4) := by kernel_rfl
@[simp] theorem fieldT_84_5 : fieldT Tryz.prog 84 5 = some (3, 5) := by kernel_rfl
@[simp] theorem fieldT_84_6 : fieldT Tryz.prog 84 6 = some (3, 6) := by kernel_rfl
@[simp] theorem zeroT_84 : zeroT Tryz.prog 84 = some [.string ⟨#[]⟩, .int .i64 0, .int .i64 0, .int .i64 0, .int .i64 0, .int .i64 0, .int .i64 0] := by kernel_rfl
@[simp] theorem szOf_94 : szOf Tryz.prog 94 = some 8 := by kernel_rfl
@[simp] theorem aggT_94 : aggT Tryz.prog 94 = some true := by kernel_rfl
@[simp] theorem strT_94 : strT Tryz.prog 94 = false := by kernel_rfl
@[simp] theorem boolT_94 : boolT Tryz.prog 94 = false := by kernel_rfl
@[simp] theorem elemT_94 : elemT Tryz.prog 94 = none := by kernel_rfl
@[simp] theorem rowT_94 : rowT Tryz.prog 94 = none := by kernel_rfl
@[simp] theorem structT_94 : structT Tryz.prog 94 = some [(0, 2), (2, 2), (4, 2), (6, 2)] := by kernel_rfl
@[simp] theorem fieldT_94_0 : fieldT Tryz.prog 94 0 = some (25, 0) := by kernel_rfl
@[simp] theorem fieldT_94_1 : fieldT Tryz.prog 94 1 = some (25, 2) := by kernel_rfl
@[simp] theorem fieldT_94_2 : fieldT Tryz.prog 94 2 = some (31, 4) := by kernel_rfl
@[simp] theorem fieldT_94_3 : fieldT Tryz.prog 94 3 = some (32, 6) := by kernel_rfl
@[simp] theorem zeroT_94 : zeroT Tryz.prog 94 = some [.slice none 0 0, .slice none 0 0, .slice none 0 0, .slice none 0 0, .slice none 0 0, .slice none 0 0, .slice none 0 0, .slice none 0 0] := by kernel_rfl
@[simp] theorem szOf_100 : szOf Tryz.prog 100 = some 2 := by kernel_rfl
@[simp] theorem aggT_100 : aggT Tryz.prog 100 = some true := by kernel_rfl
@[simp] theorem strT_100 : strT Tryz.prog 100 = false := by kernel_rfl
@[simp] theorem boolT_100 : boolT Tryz.prog 100 = false := by kernel_rfl
@[simp] theorem elemT_100 : elemT Tryz.prog 100 = none := by kernel_rfl
@[simp] theorem rowT_100 : rowT Tryz.prog 100 = none := by kernel_rfl
@[simp] theorem eqT_100 : eqT Tryz.prog 100 = some 2 := by kernel_rfl
@[simp] theorem structT_100 : structT Tryz.prog 100 = some [(0, 1), (1, 1)] := by kernel_rfl
@[simp] theorem fieldT_100_0 : fieldT Tryz.prog 100 0 = some (3, 0) := by kernel_rfl
@[simp] theorem fieldT_100_1 : fieldT Tryz.prog 100 1 = some (3, 1) := by kernel_rfl
@[simp] theorem zeroT_100 : zeroT Tryz.prog 100 = some [.int .i64 0, .int .i64 0] := by kernel_rfl
@[simp] theorem szOf_102 : szOf Tryz.prog 102 = some 4 := by kernel_rfl
@[simp] theorem aggT_102 : aggT Tryz.prog 102 = some true := by kernel_rfl
@[simp] theorem strT_102 : strT Tryz.prog 102 = false := by kernel_rfl
@[simp] theorem boolT_102 : boolT Tryz.prog 102 = false := by kernel_rfl
@[simp] theorem elemT_102 : elemT Tryz.prog 102 = none := by kernel_rfl
@[simp] theorem rowT_102 : rowT Tryz.prog 102 = none := by kernel_rfl
@[simp] theorem structT_102 : structT Tryz.prog 102 = some [(0, 1), (1, 1), (2, 2)] := by kernel_rfl
@[simp] theorem fieldT_102_0 : fieldT Tryz.prog 102 0 = some (3, 0) := by kernel_rfl
@[simp] theorem fieldT_102_1 : fieldT Tryz.prog 102 1 = some (3, 1) := by kernel_rfl
@[simp] theorem fieldT_102_2 : fieldT Tryz.prog 102 2 = some (100, 2) := by kernel_rfl
@[simp] theorem zeroT_102 : zeroT Tryz.prog 102 = some [.int .i64 0, .int .i64 0, .int .i64 0, .int .i64 0] := by kernel_rfl
@[simp] theorem szOf_104 : szOf Tryz.prog 104 = some 5 := by kernel_rfl
@[simp] theorem aggT_104 : aggT Tryz.prog 104 = some true := by kernel_rfl
@[simp] theorem strT_104 : strT Tryz.prog 104 = false := by kernel_rfl
@[simp] theorem boolT_104 : boolT Tryz.prog 104 = false := by kernel_rfl
@[simp] theorem elemT_104 : elemT Tryz.prog 104 = none := by kernel_rfl
@[simp] theorem rowT_104 : rowT Tryz.prog 104 = none := by kernel_rfl
@[simp] theorem structT_104 : structT Tryz.prog 104 = some [(0, 1), (1, 2), (3, 2)] := by kernel_rfl
@[simp] theorem fieldT_104_0 : fieldT Tryz.prog 104 0 = some (3, 0) := by kernel_rfl
@[simp] theorem fieldT_104_1 : fieldT Tryz.prog 104 1 = some (100, 1) := by kernel_rfl
@[simp] theorem fieldT_104_2 : fieldT Tryz.prog 104 2 = some (100, 3) := by kernel_rfl
@[simp] theorem zeroT_104 : zeroT Tryz.prog 104 = some [.int .i64 0, .int .i64 0, .int .i64 0, .int .i64 0, .int .i64 0] := by kernel_rfl
@[simp] theorem szOf_105 : szOf Tryz.prog 105 = some 1 := by kernel_rfl
@[simp] theorem aggT_105 : aggT Tryz.prog 105 = some false := by kernel_rfl
@[simp] theorem strT_105 : strT Tryz.prog 105 = false := by kernel_rfl
@[simp] theorem boolT_105 : boolT Tryz.prog 105 = false := by kernel_rfl
@[simp] theorem elemT_105 : elemT Tryz.prog 105 = some 9 := by kernel_rfl
@[simp] theorem rowT_105 : rowT Tryz.prog 105 = some (9, 1, 16) := by kernel_rfl
@[simp] theorem makeT_105 : makeT Tryz.prog 105 = some (1, 16, [.string ⟨#[]⟩]) := by kernel_rfl
@[simp] theorem zeroT_105 : zeroT Tryz.prog 105 = some [.slice none 0 0] := by kernel_rfl
@[simp] theorem szOf_107 : szOf Tryz.prog 107 = some 4 := by kernel_rfl
@[simp] theorem aggT_107 : aggT Tryz.prog 107 = some true := by kernel_rfl
@[simp] theorem strT_107 : strT Tryz.prog 107 = false := by kernel_rfl
@[simp] theorem boolT_107 : boolT Tryz.prog 107 = false := by kernel_rfl
@[simp] theorem elemT_107 : elemT Tryz.prog 107 = none := by kernel_rfl
@[simp] theorem rowT_107 : rowT Tryz.prog 107 = none := by kernel_rfl
@[simp] theorem structT_107 : structT Tryz.prog 107 = some [(0, 1), (1, 1), (2, 1), (3, 1)] := by kernel_rfl
@[simp] theorem fieldT_107_0 : fieldT Tryz.prog 107 0 = some (9, 0) := by kernel_rfl
@[simp] theorem fieldT_107_1 : fieldT Tryz.prog 107 1 = some (3, 1) := by kernel_rfl
@[simp] theorem fieldT_107_2 : fieldT Tryz.prog 107 2 = some (3, 2) := by kernel_rfl
@[simp] theorem fieldT_107_3 : fieldT Tryz.prog 107 3 = some (105, 3) := by kernel_rfl
@[simp] theorem zeroT_107 : zeroT Tryz.prog 107 = some [.string ⟨#[]⟩, .int .i64 0, .int .i64 0, .slice none 0 0] := by kernel_rfl
@[simp] theorem szOf_117 : szOf Tryz.prog 117 = some 1 := by kernel_rfl
@[simp] theorem aggT_117 : aggT Tryz.prog 117 = some false := by kernel_rfl
@[simp] theorem strT_117 : strT Tryz.prog 117 = false := by kernel_rfl
@[simp] theorem boolT_117 : boolT Tryz.prog 117 = false := by kernel_rfl
@[simp] theorem elemT_117 : elemT Tryz.prog 117 = some 25 := by kernel_rfl
@[simp] theorem rowT_117 : rowT Tryz.prog 117 = some (25, 2, 48) := by kernel_rfl
@[simp] theorem makeT_117 : makeT Tryz.prog 117 = some (2, 48, [.slice none 0 0, .slice none 0 0]) := by kernel_rfl
@[simp] theorem zeroT_117 : zeroT Tryz.prog 117 = some [.slice none 0 0] := by kernel_rfl
@[simp] theorem szOf_133 : szOf Tryz.prog 133 = some 3 := by kernel_rfl
@[simp] theorem aggT_133 : aggT Tryz.prog 133 = some true := by kernel_rfl
@[simp] theorem strT_133 : strT Tryz.prog 133 = false := by kernel_rfl
@[simp] theorem boolT_133 : boolT Tryz.prog 133 = false := by kernel_rfl
@[simp] theorem elemT_133 : elemT Tryz.prog 133 = none := by kernel_rfl
@[simp] theorem rowT_133 : rowT Tryz.prog 133 = none := by kernel_rfl
@[simp] theorem eqT_133 : eqT Tryz.prog 133 = some 3 := by kernel_rfl
@[simp] theorem structT_133 : structT Tryz.prog 133 = some [(0, 1), (1, 1), (2, 1)] := by kernel_rfl
@[simp] theorem fieldT_133_0 : fieldT Tryz.prog 133 0 = some (3, 0) := by kernel_rfl
@[simp] theorem fieldT_133_1 : fieldT Tryz.prog 133 1 = some (3, 1) := by kernel_rfl
@[simp] theorem fieldT_133_2 : fieldT Tryz.prog 133 2 = some (3, 2) := by kernel_rfl
@[simp] theorem zeroT_133 : zeroT Tryz.prog 133 = some [.int .i64 0, .int .i64 0, .int .i64 0] := by kernel_rfl
@[simp] theorem szOf_142 : szOf Tryz.prog 142 = some 10 := by kernel_rfl
@[simp] theorem aggT_142 : aggT Tryz.prog 142 = some true := by kernel_rfl
@[simp] theorem strT_142 : strT Tryz.prog 142 = false := by kernel_rfl
@[simp] theorem boolT_142 : boolT Tryz.prog 142 = false := by kernel_rfl
@[simp] theorem elemT_142 : elemT Tryz.prog 142 = none := by kernel_rfl
@[simp] theorem rowT_142 : rowT Tryz.prog 142 = none := by kernel_rfl
@[simp] theorem structT_142 : structT Tryz.prog 142 = some [(0, 2), (2, 2), (4, 2), (6, 2), (8, 2)] := by kernel_rfl
@[simp] theorem fieldT_142_0 : fieldT Tryz.prog 142 0 = some (25, 0) := by kernel_rfl
@[simp] theorem fieldT_142_1 : fieldT Tryz.prog 142 1 = some (25, 2) := by kernel_rfl
@[simp] theorem fieldT_142_2 : fieldT Tryz.prog 142 2 = some (25, 4) := by kernel_rfl
@[simp] theorem fieldT_142_3 : fieldT Tryz.prog 142 3 = some (32, 6) := by kernel_rfl
@[simp] theorem fieldT_142_4 : fieldT Tryz.prog 142 4 = some (32, 8) := by kernel_rfl
@[simp] theorem zeroT_142 : zeroT Tryz.prog 142 = some [.slice none 0 0, .slice none 0 0, .slice none 0 0, .slice none 0 0, .slice none 0 0, .slice none 0 0, .slice none 0 0, .slice none 0 0, .slice none 0 0, .slice none 0 0] := by kernel_rfl
@[simp] theorem szOf_143 : szOf Tryz.prog 143 = some 1 := by kernel_rfl
@[simp] theorem aggT_143 : aggT Tryz.prog 143 = some false := by kernel_rfl
@[simp] theorem strT_143 : strT Tryz.prog 143 = false := by kernel_rfl
@[simp] theorem boolT_143 : boolT Tryz.prog 143 = false := by kernel_rfl
@[simp] theorem elemT_143 : elemT Tryz.prog 143 = none := by kernel_rfl
@[simp] theorem rowT_143 : rowT Tryz.prog 143 = none := by kernel_rfl
@[simp] theorem zeroT_143 : zeroT Tryz.prog 143 = some [.pointer none] := by kernel_rfl
@[simp] theorem szOf_145 : szOf Tryz.prog 145 = some 3 := by kernel_rfl
@[simp] theorem aggT_145 : aggT Tryz.prog 145 = some true := by kernel_rfl
@[simp] theorem strT_145 : strT Tryz.prog 145 = false := by kernel_rfl
@[simp] theorem boolT_145 : boolT Tryz.prog 145 = false := by kernel_rfl
@[simp] theorem elemT_145 : elemT Tryz.prog 145 = none := by kernel_rfl
@[simp] theorem rowT_145 : rowT Tryz.prog 145 = none := by kernel_rfl
@[simp] theorem structT_145 : structT Tryz.prog 145 = some [(0, 1), (1, 1), (2, 1)] := by kernel_rfl
@[simp] theorem fieldT_145_0 : fieldT Tryz.prog 145 0 = some (56, 0) := by kernel_rfl
@[simp] theorem fieldT_145_1 : fieldT Tryz.prog 145 1 = some (3, 1) := by kernel_rfl
@[simp] theorem fieldT_145_2 : fieldT Tryz.prog 145 2 = some (3, 2) := by kernel_rfl
@[simp] theorem zeroT_145 : zeroT Tryz.prog 145 = some [.slice none 0 0, .int .i64 0, .int .i64 0] := by kernel_rfl
@[simp] theorem szOf_149 : szOf Tryz.prog 149 = some 8 := by kernel_rfl
@[simp] theorem aggT_149 : aggT Tryz.prog 149 = some true := by kernel_rfl
@[simp] theorem strT_149 : strT Tryz.prog 149 = false := by kernel_rfl
@[simp] theorem boolT_149 : boolT Tryz.prog 149 = false := by kernel_rfl
@[simp] theorem elemT_149 : elemT Tryz.prog 149 = none := by kernel_rfl
@[simp] theorem rowT_149 : rowT Tryz.prog 149 = none := by kernel_rfl
@[simp] theorem structT_149 : structT Tryz.prog 149 = some [(0, 2), (2, 2), (4, 2), (6, 2)] := by kernel_rfl
@[simp] theorem fieldT_149_0 : fieldT Tryz.prog 149 0 = some (25, 0) := by kernel_rfl
@[simp] theorem fieldT_149_1 : fieldT Tryz.prog 149 1 = some (25, 2) := by kernel_rfl
@[simp] theorem fieldT_149_2 : fieldT Tryz.prog 149 2 = some (31, 4) := by kernel_rfl
@[simp] theorem fieldT_149_3 : fieldT Tryz.prog 149 3 = some (32, 6) := by kernel_rfl
@[simp] theorem zeroT_149 : zeroT Tryz.prog 149 = some [.slice none 0 0, .slice none 0 0, .slice none 0 0, .slice none 0 0, .slice none 0 0, .slice none 0 0, .slice none 0 0, .slice none 0 0] := by kernel_rfl
@[simp] theorem szOf_154 : szOf Tryz.prog 154 = some 1 := by kernel_rfl
@[simp] theorem aggT_154 : aggT Tryz.prog 154 = some false := by kernel_rfl
@[simp] theorem strT_154 : strT Tryz.prog 154 = false := by kernel_rfl
@[simp] theorem boolT_154 : boolT Tryz.prog 154 = false := by kernel_rfl
@[simp] theorem elemT_154 : elemT Tryz.prog 154 = some 29 := by kernel_rfl
@[simp] theorem rowT_154 : rowT Tryz.prog 154 = some (29, 5, 104) := by kernel_rfl
@[simp] theorem makeT_154 : makeT Tryz.prog 154 = some (5, 104, [.slice none 0 0, .slice none 0 0, .slice none 0 0, .int .i64 0, .slice none 0 0]) := by kernel_rfl
@[simp] theorem zeroT_154 : zeroT Tryz.prog 154 = some [.slice none 0 0] := by kernel_rfl
@[simp] theorem szOf_159 : szOf Tryz.prog 159 = some 1 := by kernel_rfl
@[simp] theorem aggT_159 : aggT Tryz.prog 159 = some false := by kernel_rfl
@[simp] theorem zeroT_159 : zeroT Tryz.prog 159 = some [.nilFunc] := by kernel_rfl
@[simp] theorem szOf_166 : szOf Tryz.prog 166 = some 1 := by kernel_rfl
@[simp] theorem aggT_166 : aggT Tryz.prog 166 = some false := by kernel_rfl
@[simp] theorem zeroT_166 : zeroT Tryz.prog 166 = some [.nilFunc] := by kernel_rfl
@[simp] theorem szOf_174 : szOf Tryz.prog 174 = some 1 := by kernel_rfl
@[simp] theorem aggT_174 : aggT Tryz.prog 174 = some false := by kernel_rfl
@[simp] theorem zeroT_174 : zeroT Tryz.prog 174 = some [.nilFunc] := by kernel_rfl
@[simp] theorem szOf_179 : szOf Tryz.prog 179 = some 1 := by kernel_rfl
@[simp] theorem aggT_179 : aggT Tryz.prog 179 = some false := by kernel_rfl
@[simp] theorem strT_179 : strT Tryz.prog 179 = false := by kernel_rfl
@[simp] theorem boolT_179 : boolT Tryz.prog 179 = false := by kernel_rfl
@[simp] theorem elemT_179 : elemT Tryz.prog 179 = some 225 := by kernel_rfl
@[simp] theorem rowT_179 : rowT Tryz.prog 179 = some (225, 2, 16) := by kernel_rfl
@[simp] theorem makeT_179 : makeT Tryz.prog 179 = some (2, 16, [.int .i64 0, .int .i64 0]) := by kernel_rfl
@[simp] theorem zeroT_179 : zeroT Tryz.prog 179 = some [.slice none 0 0] := by kernel_rfl
@[simp] theorem szOf_186 : szOf Tryz.prog 186 = some 1 := by kernel_rfl
@[simp] theorem aggT_186 : aggT Tryz.prog 186 = some false := by kernel_rfl
@[simp] theorem strT_186 : strT Tryz.prog 186 = false := by kernel_rfl
@[simp] theorem boolT_186 : boolT Tryz.prog 186 = false := by kernel_rfl
@[simp] theorem elemT_186 : elemT Tryz.prog 186 = none := by kernel_rfl
@[simp] theorem rowT_186 : rowT Tryz.prog 186 = none := by kernel_rfl
@[simp] theorem zeroT_186 : zeroT Tryz.prog 186 = some [.pointer none] := by kernel_rfl
@[simp] theorem szOf_187 : szOf Tryz.prog 187 = some 1 := by kernel_rfl
@[simp] theorem aggT_187 : aggT Tryz.prog 187 = some false := by kernel_rfl
@[simp] theorem szOf_189 : szOf Tryz.prog 189 = some 7 := by kernel_rfl
@[simp] theorem aggT_189 : aggT Tryz.prog 189 = some true := by kernel_rfl
@[simp] theorem strT_189 : strT Tryz.prog 189 = false := by kernel_rfl
@[simp] theorem boolT_189 : boolT Tryz.prog 189 = false := by kernel_rfl
@[simp] theorem elemT_189 : elemT Tryz.prog 189 = none := by kernel_rfl
@[simp] theorem rowT_189 : rowT Tryz.prog 189 = none := by kernel_rfl
@[simp] theorem structT_189 : structT Tryz.prog 189 = some [(0, 2), (2, 2), (4, 1), (5, 1), (6, 1)] := by kernel_rfl
@[simp] theorem fieldT_189_0 : fieldT Tryz.prog 189 0 = some (25, 0) := by kernel_rfl
@[simp] theorem fieldT_189_1 : fieldT Tryz.prog 189 1 = some (25, 2) := by kernel_rfl
@[simp] theorem fieldT_189_2 : fieldT Tryz.prog 189 2 = some (22, 4) := by kernel_rfl
@[simp] theorem fieldT_189_3 : fieldT Tryz.prog 189 3 = some (22, 5) := by kernel_rfl
@[simp] theorem fieldT_189_4 : fieldT Tryz.prog 189 4 = some (187, 6) := by kernel_rfl
@[simp] theorem zeroT_189 : zeroT Tryz.prog 189 = some [.slice none 0 0, .slice none 0 0, .slice none 0 0, .slice none 0 0, .slice none 0 0, .slice none 0 0, .nilFunc] := by kernel_rfl
@[simp] theorem szOf_215 : szOf Tryz.prog 215 = some 3 := by kernel_rfl
@[simp] theorem aggT_215 : aggT Tryz.prog 215 = some true := by kernel_rfl
@[simp] theorem strT_215 : strT Tryz.prog 215 = false := by kernel_rfl
@[simp] theorem boolT_215 : boolT Tryz.prog 215 = false := by kernel_rfl
@[simp] theorem elemT_215 : elemT Tryz.prog 215 = none := by kernel_rfl
@[simp] theorem rowT_215 : rowT Tryz.prog 215 = none := by kernel_rfl
@[simp] theorem arrT_215 : arrT Tryz.prog 215 = some (3, 5) := by kernel_rfl
@[simp] theorem zeroT_215 : zeroT Tryz.prog 215 = some [.int .u8 0, .int .u8 0, .int .u8 0] := by kernel_rfl
@[simp] theorem szOf_216 : szOf Tryz.prog 216 = some 1 := by kernel_rfl
@[simp] theorem aggT_216 : aggT Tryz.prog 216 = some false := by kernel_rfl
@[simp] theorem strT_216 : strT Tryz.prog 216 = false := by kernel_rfl
@[simp] theorem boolT_216 : boolT Tryz.prog 216 = false := by kernel_rfl
@[simp] theorem elemT_216 : elemT Tryz.prog 216 = some 4 := by kernel_rfl
@[simp] theorem rowT_216 : rowT Tryz.prog 216 = some (4, 1, 1) := by kernel_rfl
@[simp] theorem makeT_216 : makeT Tryz.prog 216 = some (1, 1, [.bool false]) := by kernel_rfl
@[simp] theorem zeroT_216 : zeroT Tryz.prog 216 = some [.slice none 0 0] := by kernel_rfl
@[simp] theorem elemT_223 : elemT Tryz.prog 223 = none := by kernel_rfl
@[simp] theorem kindT_223 : kindT Tryz.prog 223 = some .u64 := by kernel_rfl
@[simp] theorem szOf_225 : szOf Tryz.prog 225 = some 2 := by kernel_rfl
@[simp] theorem aggT_225 : aggT Tryz.prog 225 = some true := by kernel_rfl
@[simp] theorem strT_225 : strT Tryz.prog 225 = false := by kernel_rfl
@[simp] theorem boolT_225 : boolT Tryz.prog 225 = false := by kernel_rfl
@[simp] theorem elemT_225 : elemT Tryz.prog 225 = none := by kernel_rfl
@[simp] theorem rowT_225 : rowT Tryz.prog 225 = none := by kernel_rfl
@[simp] theorem eqT_225 : eqT Tryz.prog 225 = some 2 := by kernel_rfl
@[simp] theorem structT_225 : structT Tryz.prog 225 = some [(0, 1), (1, 1)] := by kernel_rfl
@[simp] theorem fieldT_225_0 : fieldT Tryz.prog 225 0 = some (3, 0) := by kernel_rfl
@[simp] theorem fieldT_225_1 : fieldT Tryz.prog 225 1 = some (3, 1) := by kernel_rfl
@[simp] theorem zeroT_225 : zeroT Tryz.prog 225 = some [.int .i64 0, .int .i64 0] := by kernel_rfl
@[simp] theorem szOf_234 : szOf Tryz.prog 234 = some 3 := by kernel_rfl
@[simp] theorem aggT_234 : aggT Tryz.prog 234 = some true := by kernel_rfl
@[simp] theorem strT_234 : strT Tryz.prog 234 = false := by kernel_rfl
@[simp] theorem boolT_234 : boolT Tryz.prog 234 = false := by kernel_rfl
@[simp] theorem elemT_234 : elemT Tryz.prog 234 = none := by kernel_rfl
@[simp] theorem rowT_234 : rowT Tryz.prog 234 = none := by kernel_rfl
@[simp] theorem structT_234 : structT Tryz.prog 234 = some [(0, 1), (1, 1), (2, 1)] := by kernel_rfl
@[simp] theorem fieldT_234_0 : fieldT Tryz.prog 234 0 = some (3, 0) := by kernel_rfl
@[simp] theorem fieldT_234_1 : fieldT Tryz.prog 234 1 = some (9, 1) := by kernel_rfl
@[simp] theorem fieldT_234_2 : fieldT Tryz.prog 234 2 = some (3, 2) := by kernel_rfl
@[simp] theorem zeroT_234 : zeroT Tryz.prog 234 = some [.int .i64 0, .string ⟨#[]⟩, .int .i64 0] := by kernel_rfl
@[simp] theorem szOf_257 : szOf Tryz.prog 257 = some 1 := by kernel_rfl
@[simp] theorem aggT_257 : aggT Tryz.prog 257 = some false := by kernel_rfl
@[simp] theorem strT_257 : strT Tryz.prog 257 = false := by kernel_rfl
@[simp] theorem boolT_257 : boolT Tryz.prog 257 = false := by kernel_rfl
@[simp] theorem elemT_257 : elemT Tryz.prog 257 = none := by kernel_rfl
@[simp] theorem rowT_257 : rowT Tryz.prog 257 = none := by kernel_rfl
@[simp] theorem kindT_257 : kindT Tryz.prog 257 = some .u32 := by kernel_rfl
@[simp] theorem zeroT_257 : zeroT Tryz.prog 257 = some [.int .u32 0] := by kernel_rfl
@[simp] theorem szOf_266 : szOf Tryz.prog 266 = some 1 := by kernel_rfl
@[simp] theorem aggT_266 : aggT Tryz.prog 266 = some false := by kernel_rfl
@[simp] theorem strT_266 : strT Tryz.prog 266 = false := by kernel_rfl
@[simp] theorem boolT_266 : boolT Tryz.prog 266 = false := by kernel_rfl
@[simp] theorem elemT_266 : elemT Tryz.prog 266 = some 22 := by kernel_rfl
@[simp] theorem rowT_266 : rowT Tryz.prog 266 = some (22, 1, 24) := by kernel_rfl
@[simp] theorem makeT_266 : makeT Tryz.prog 266 = some (1, 24, [.slice none 0 0]) := by kernel_rfl
@[simp] theorem zeroT_266 : zeroT Tryz.prog 266 = some [.slice none 0 0] := by kernel_rfl
@[simp] theorem szOf_275 : szOf Tryz.prog 275 = some 1 := by kernel_rfl
@[simp] theorem aggT_275 : aggT Tryz.prog 275 = some false := by kernel_rfl
@[simp] theorem strT_275 : strT Tryz.prog 275 = false := by kernel_rfl
@[simp] theorem boolT_275 : boolT Tryz.prog 275 = false := by kernel_rfl
@[simp] theorem elemT_275 : elemT Tryz.prog 275 = none := by kernel_rfl
@[simp] theorem rowT_275 : rowT Tryz.prog 275 = none := by kernel_rfl
@[simp] theorem zeroT_275 : zeroT Tryz.prog 275 = some [.pointer none] := by kernel_rfl
@[simp] theorem szOf_277 : szOf Tryz.prog 277 = some 1 := by kernel_rfl
@[simp] theorem aggT_277 : aggT Tryz.prog 277 = some false := by kernel_rfl
@[simp] theorem zeroT_277 : zeroT Tryz.prog 277 = some [.nilFunc] := by kernel_rfl
@[simp] theorem szOf_297 : szOf Tryz.prog 297 = some 1 := by kernel_rfl
@[simp] theorem aggT_297 : aggT Tryz.prog 297 = some false := by kernel_rfl
@[simp] theorem strT_297 : strT Tryz.prog 297 = false := by kernel_rfl
@[simp] theorem boolT_297 : boolT Tryz.prog 297 = false := by kernel_rfl
@[simp] theorem elemT_297 : elemT Tryz.prog 297 = none := by kernel_rfl
@[simp] theorem rowT_297 : rowT Tryz.prog 297 = none := by kernel_rfl
@[simp] theorem zeroT_297 : zeroT Tryz.prog 297 = some [.pointer none] := by kernel_rfl
end Go.AM
namespace Go.AM
open Go
variable {P : Program}
attribute [simp] zrow strA nilCmp FReg preF FOne FSkip Gd.tt Gd.tf Gd.ft Gd.ff fN fR fW fA AState.ev putT_tl putT_none tlArgs tl_cons tl_nil ofVal ofVal1 lenF idxF sliceF boundF rawOf rawsOf binF unF loadD loadA lb_at lk_cons lk_nil upd_lb yieldA AV.cells? AV.elems? toDs AV.toD rowsOf fillA setCells FCond copySrc
@[simp] theorem FOps_nil {cx : Cx} {ops : Array Oper} {dr : Bool} {K : AState → Prop} {t : Nat → AV} {b : Bxs} {k : Nat → Bool} {n : Nat} : FOps P cx ops dr [] K ⟨t, b, k, n⟩ = K ⟨t, b, k, n⟩ := by simp only [FOps]
@[simp] theorem FOps_cons {cx : Cx} {ops : Array Oper} {dr : Bool} {o : Oper} {r : List Oper} {K : AState → Prop} {t : Nat → AV} {b : Bxs} {k : Nat → Bool} {n : Nat} : FOps P cx ops dr (o :: r) K ⟨t, b, k, n⟩ = match o.guard with
  | none => FOne P cx dr o (FOps P cx ops dr r K) ⟨t, b, k, n⟩
  | some (j, want) => match yieldA ops ⟨t, b, k, n⟩ j with
   | some (some c) => Gd c want (FOne P cx dr o (FOps P cx ops dr r K)) (FSkip o.dst (FOps P cx ops dr r K)) ⟨t, b, k, n⟩
   | some none => FSkip o.dst (FOps P cx ops dr r K) ⟨t, b, k, n⟩
   | none => False := by
 simp only [FOps]
 all_goals rfl
@[simp] theorem live_full {tok : Nat → Bool} : Own.full.liveP tok = True := rfl
@[simp] theorem kill_full {tok : Nat → Bool} : Own.full.kill tok = tok := rfl
@[simp] theorem live_tok {tok : Nat → Bool} {t : Nat} : (Own.tok t).liveP tok = (tok t = true) := rfl
@[simp] theorem kill_tok {tok : Nat → Bool} {t : Nat} : (Own.tok t).kill tok = upd tok t false := rfl
def ToL (p q : Nat → Prop) (fz : Option (Nat × Nat × List (List D))) (l : List (Nat × AV)) : List (Nat × AV) → Prop
 | [] => True
 | (i, v) :: r => To p q fz (tl l i) v ∧ ToL p q fz l r
theorem ToL.all {p q : Nat → Prop} {fz : Option (Nat × Nat × List (List D))} {l : List (Nat × AV)} : ∀ {l' : List (Nat × AV)}, ToL p q fz l l' → ∀ t, To p q fz (tl l t) (tl l' t)
 | [], _, t => .bot
 | (i, v) :: r, h, t => by
  rw [tl_cons]
  split
  ·rename_i e; subst e; exact h.1
  ·exact ToL.all h.2 t
def BoxL (p q : Nat → Prop) (fz : Option (Nat × Nat × List (List D))) (loc : List (Nat × List (List AV))) : List (Nat × List (List AV)) → Prop
 | [] => True
 | (s, rows') :: r => (∃ rows, lk loc s = some rows ∧ RowsTo p q fz rows rows') ∧ BoxL p q fz loc r
theorem BoxL.all {p q : Nat → Prop} {fz : Option (Nat × Nat × List (List D))} {loc : List (Nat × List (List AV))} : ∀ {loc' : List (Nat × List (List AV))}, BoxL p q fz loc loc' → ∀ s rows', lk loc' s = some rows' → ∃ rows, lk loc s = some rows ∧ RowsTo p q fz rows rows'
 | [], _, s, rows', h => by simp [lk] at h
 | (i, v) :: r, h, s, rows', hs => by
  rw [lk_cons] at hs
  split at hs
  ·rename_i e; subst e; cases hs; exact h.1
  ·exact BoxL.all h.2 s rows' hs
theorem Weaks.mk' {cx : Cx} {nt0 nt : Nat} {l l' : List (Nat × AV)} {out : Bxs} {loc loc' : List (Nat × List (List AV))} {tok : Nat → Bool} (hnt : nt0 ≤ nt)
  (hl : ToL (fun k => lb cx.base out loc' k ≠ none) (fun _ => True) none l l') (hb : BoxL (fun k => lb cx.base out loc' k ≠ none) (fun _ => True) none loc loc')
  (ho : ∀ k rows, k < cx.base → out k = some rows → cx.B0 k = some rows ∨ ∀ r ∈ rows, ∀ x ∈ r, OkIn (fun k => lb cx.base out loc' k ≠ none) (fun _ => True) x) :
  Weaks cx nt0 ⟨tl l, lb cx.base out loc, tok, nt⟩ ⟨tl l', lb cx.base out loc', tok, nt⟩ := by
 refine ⟨out, loc, loc', none, rfl, rfl, Nat.le_refl _, hnt, fun t h => ⟨h, .inl rfl⟩, ?_, ?_, (fun _ _ _ h => by cases h), ?_⟩
 ·simp only [true_or, Option.map_none]; exact hl.all
 ·simp only [true_or, Option.map_none]; exact hb.all
 ·simp only [true_or]; exact ho
theorem Weaks.mk {cx : Cx} {nt0 nt : Nat} {l l' : List (Nat × AV)} {out : Bxs} {loc loc' : List (Nat × List (List AV))} {tok : Nat → Bool} (hnt : nt0 ≤ nt) (ho : out = cx.B0)
  (hl : ToL (fun k => lb cx.base out loc' k ≠ none) (fun _ => True) none l l') (hb : BoxL (fun k => lb cx.base out loc' k ≠ none) (fun _ => True) none loc loc') :
  Weaks cx nt0 ⟨tl l, lb cx.base out loc, tok, nt⟩ ⟨tl l', lb cx.base out loc', tok, nt⟩ :=
 Weaks.mk' hnt hl hb fun k rows _ h => .inl (by rw [← ho]; exact h)
theorem Fin.data {cx : Cx} {nt0 nt : Nat} {rs : List ResultVar} {l : List (Nat × AV)} {out : Bxs} {loc : List (Nat × List (List AV))} {tok mtok : Nat → Bool} {vs : List AV} {av : AV}
  (hres : resAs P ⟨tl l, lb cx.base out loc, tok, nt⟩ rs = some vs) (hbox : lb cx.base out [] = out) (ho : out = cx.B0) (hm : ∀ t, mtok t = true → t < nt0) (htok : ∀ t, mtok t = true → tok t = true) (hnt : nt0 ≤ nt)
  (hto : To (fun k => lb cx.base out [] k ≠ none) (fun t => nt0 = nt ∨ t < nt0) none (packA vs) av) : Fin P cx nt0 rs (fun v' m' => v' = av ∧ m' = ⟨out, cx.base, mtok, nt0⟩) ⟨tl l, lb cx.base out loc, tok, nt⟩ :=
 ⟨vs, out, loc, none, av, ⟨out, cx.base, mtok, nt0⟩, hres, ⟨rfl, rfl, hnt, Nat.le_refl _, fun t h => ⟨htok t h, .inr (hm t h)⟩, fun _ => .bot, fun s rows' h => by simp [lk] at h, (fun _ _ _ h => by cases h),
  fun k rows _ h => .inl (by rw [← ho]; exact h)⟩, hbox.symm, rfl, by simpa using hto, rfl, rfl⟩
section
variable {p q : Nat → Prop} {fz : Option (Nat × Nat × List (List D))}
@[simp] theorem to_bot (x : AV) : To p q fz x .bot := .bot
@[simp] theorem to_d (x : D) : To p q fz (.d x) (.d x) := .same .d
@[simp] theorem to_data (sz : Nat) (es : List (List D)) (o : Own) : To p q fz (.osl sz es o) (.d (.sl sz es)) := .data
@[simp] theorem to_osl (sz : Nat) (es : List (List D)) (o : Own) : To p (fun _ => True) fz (.osl sz es o) (.osl sz es o) := .same (.osl fun _ _ => trivial)
theorem to_snoc {sz : Nat} {es : List (List D)} {r r' : List D} (h : DS1 r r') (o : Own) : To p (fun _ => True) fz (.osl sz (es ++ [r]) o) (.osl sz (es ++ [r']) o) := .otok ((DSs.snoc h).sub sz) fun _ _ => trivial
theorem dsub_one {sz : Nat} {r r' : List D} (h : DS1 r r') : DSub (.sl sz [r]) (.sl sz [r']) := (DSs.one h).sub sz
@[simp] theorem to_full (sz : Nat) (es : List (List D)) : To p q fz (.osl sz es .full) (.osl sz es .full) := .same (.osl fun _ h => by cases h)
@[simp] theorem to_nil0 (sz sz' : Nat) : To p q fz (.osl sz [] .full) (.osl sz' [] .full) := .nil rfl
@[simp] theorem to_emp0 (sz sz' : Nat) (o : Own) : To p q fz (.osl sz [] o) (.d (.sl sz' [])) := .odsub .emp
@[simp] theorem to_emp1 (sz sz' : Nat) : To p q fz (.d (.sl sz [])) (.d (.sl sz' [])) := .dsub .emp
@[simp] theorem to_emp2 (sz sz' : Nat) : To p q fz (.osl 1 [[.sl sz []]] .full) (.osl 1 [[.sl sz' []]] .full) :=
 .osub (.sl rfl (fun i h1 h2 => by simp at h1; subst h1; rfl) (fun i h1 h2 j g1 g2 => by simp at h1; subst h1; simp at g1; subst g1; exact .emp))
@[simp] theorem to_emp3 (sz sz' : Nat) (o : Own) : To p q fz (.osl 1 [[.sl sz []]] o) (.d (.sl 1 [[.sl sz' []]])) :=
 .odsub (.sl rfl (fun i h1 h2 => by simp at h1; subst h1; rfl) (fun i h1 h2 j g1 g2 => by simp at h1; subst h1; simp at g1; subst g1; exact .emp))
@[simp] theorem to_cptr (cs : List D) (off : Nat) : To p q fz (.cptr cs off) (.cptr cs off) := .same .cptr
theorem to_ptr {k i off : Nat} (h : p k) : To p q fz (.ptr k i off) (.ptr k i off) := .same (.ptr h)
@[simp] theorem to_ptr_lb {base s i off : Nat} {out : Bxs} {loc : List (Nat × List (List AV))} : To (fun k => lb base out loc k ≠ none) q fz (.ptr (base + s) i off) (.ptr (base + s) i off) ↔ lk loc s ≠ none := by
 constructor
 ·intro h
  cases h with
  | same h => cases h with | ptr h => rw [lb_at] at h; exact h
 ·intro h
  exact to_ptr (by rw [lb_at]; exact h)
@[simp] theorem to_buf (E : TypeId) (t : Nat) (es : List (List D)) : To p (fun _ => True) fz (.buf E t es) (.buf E t es) := .same (.buf trivial)
@[simp] theorem to_here_lb {base s : Nat} {T : TypeId} {out : Bxs} {loc : List (Nat × List (List AV))} : To (fun k => lb base out loc k ≠ none) q fz (.here (base + s) T) (.here (base + s) T) ↔ lk loc s ≠ none := by
 constructor
 ·intro h
  cases h with
  | same h => cases h with | here h => rw [lb_at] at h; exact h
 ·intro h
  exact .same (.here (by rw [lb_at]; exact h))
@[simp] theorem to_msl_lb {base s off n sz : Nat} {out : Bxs} {loc : List (Nat × List (List AV))} : To (fun k => lb base out loc k ≠ none) q fz (.msl (base + s) off n sz) (.msl (base + s) off n sz) ↔ lk loc s ≠ none := by
 constructor
 ·intro h
  cases h with
  | same h => cases h with | msl h => rw [lb_at] at h; exact h
 ·intro h
  exact .same (.msl (by rw [lb_at]; exact h))
@[simp] theorem okIn_d (x : D) : OkIn p q (.d x) := .d
@[simp] theorem okIn_bot : OkIn p q .bot := .bot
@[simp] theorem okIn_osl (sz : Nat) (es : List (List D)) (o : Own) : OkIn p (fun _ => True) (.osl sz es o) := .osl fun _ _ => trivial
@[simp] theorem okIn_ptr {k i off : Nat} : OkIn p q (.ptr k i off) ↔ p k := ⟨fun h => by cases h; assumption, .ptr⟩
@[simp] theorem okIn_agg {cs : List AV} : OkIn p q (.agg cs) ↔ ∀ c ∈ cs, OkIn p q c := ⟨fun h => by cases h; assumption, .agg⟩
@[simp] theorem okIn_fn {f : Fn} {cs : List AV} : OkIn p q (.fn f cs) ↔ ∀ c ∈ cs, OkIn p q c := ⟨fun h => by cases h; assumption, .fn⟩
@[simp] theorem to_tup_nil : To p q fz (.tup []) (.tup []) := .tup rfl fun i h => by simp at h
theorem to_cons_agg {a b : AV} {as1 bs : List AV} (h : To p q fz a b) (k : To p q fz (.agg as1) (.agg bs)) : To p q fz (.agg (a :: as1)) (.agg (b :: bs)) := by
 cases k with
 | same k =>
  refine .agg rfl fun i h1 h2 => ?_
  cases i with
  | zero => exact h
  | succ i => exact .same ((okIn_agg.1 k) _ (List.getElem_mem _))
 | agg hl k =>
  refine .agg (by simp [hl]) fun i h1 h2 => ?_
  cases i with
  | zero => exact h
  | succ i => exact k i (by simpa using h1) (by simpa using h2)
theorem to_cons_tup {a b : AV} {as1 bs : List AV} (h : To p q fz a b) (k : To p q fz (.tup as1) (.tup bs)) : To p q fz (.tup (a :: as1)) (.tup (b :: bs)) := by
 cases k with
 | same k =>
  refine .tup rfl fun i h1 h2 => ?_
  cases i with
  | zero => exact h
  | succ i => cases k with | tup k => exact .same (k _ (List.getElem_mem _))
 | tup hl k =>
  refine .tup (by simp [hl]) fun i h1 h2 => ?_
  cases i with
  | zero => exact h
  | succ i => exact k i (by simpa using h1) (by simpa using h2)
@[simp] theorem to_cons_agg_iff {a b : AV} {as1 bs : List AV} : To p q fz (.agg (a :: as1)) (.agg (b :: bs)) ↔ To p q fz a b ∧ To p q fz (.agg as1) (.agg bs) := by
 constructor
 ·intro h
  cases h with
  | same h => have := okIn_agg.1 h; exact ⟨.same (this _ (by simp)), .same (okIn_agg.2 fun c hc => this c (by simp [hc]))⟩
  | agg hl h => exact ⟨h 0 (by simp) (by simp), .agg (by simpa using hl) fun i h1 h2 => h (i + 1) (by simpa using h1) (by simpa using h2)⟩
 ·exact fun ⟨h, k⟩ => to_cons_agg h k
@[simp] theorem to_cons_tup_iff {a b : AV} {as1 bs : List AV} : To p q fz (.tup (a :: as1)) (.tup (b :: bs)) ↔ To p q fz a b ∧ To p q fz (.tup as1) (.tup bs) := by
 constructor
 ·intro h
  cases h with
  | same h =>
   cases h with
   | tup this => exact ⟨.same (this _ (by simp)), .same (.tup fun c hc => this c (by simp [hc]))⟩
  | tup hl h => exact ⟨h 0 (by simp) (by simp), .tup (by simpa using hl) fun i h1 h2 => h (i + 1) (by simpa using h1) (by simpa using h2)⟩
 ·exact fun ⟨h, k⟩ => to_cons_tup h k
@[simp] theorem to_nil_agg : To p q fz (.agg []) (.agg []) := .agg rfl fun i h => by simp at h
end
def SideD (t : List (Nat × AV)) : List Oper → Prop
 | [] => True
 | o :: r => (match o.dst with | some d => NP (tl t d) | none => True) ∧ SideD t r
theorem SideD.all {t : List (Nat × AV)} {l : List Oper} (h : SideD t l) : ∀ o ∈ l, ∀ d, o.dst = some d → NP (tl t d) := by
 induction l with
 | nil => intro o ho; simp at ho
 | cons o r ih =>
  intro x hx d hd
  unfold SideD at h
  rcases List.mem_cons.1 hx with e | hx
  ·subst e
   have := h.1
   rw [hd] at this
   exact this
  ·exact ih h.2 x hx d hd
theorem Side.of {ops : Array Oper} {l : List (Nat × AV)} {b : Bxs} {k : Nat → Bool} {n : Nat} (h : SideD l ops.toList) : Side ops ⟨tl l, b, k, n⟩ :=
 fun o ho d hd => h.all o ho d hd
attribute [simp] SideD NP NK ptrs Far Far1
theorem AL.loopT {cx : Cx} {nt0 : Nat} {K : Exit → AState → Prop} {r : List CI} {S : AState} {c : Code} {α : Type} (T : α → AState) (inv : α → Prop) (μ : α → Nat) (a0 : α) (h0 : inv a0) (hw : Weaks cx nt0 S (T a0))
  (hstep : ∀ a S, inv a → S = T a → AL P cx nt0 (fun e S' => match e with
   | .normal => ∃ a', inv a' ∧ μ a' < μ a ∧ Weaks cx nt0 S' (T a')
   | e => AU P cx nt0 K r e S') [.c c] S) : AL P cx nt0 K (.c (.loop c) :: r) S := by
 refine AL.loop (fun n S => ∃ a, inv a ∧ n = μ a ∧ S = T a) ⟨_, _, hw, a0, h0, rfl, rfl⟩ ?_
 rintro n S ⟨a, ha, rfl, hS⟩
 have := AL.start (hstep a S ha hS)
 simp only [AL]
 refine this.mono fun e S' h => ?_
 cases e with
 | normal =>
  obtain ⟨a', h1, h2, h3⟩ := h
  exact ⟨μ a', T a', h2, h3, a', h1, rfl, rfl⟩
 | _ => simpa only [AU] using h
structure TK (mtok : Tks) (nt0 : Nat) (tok : Tks) (nt : Nat) (os : List Own) : Prop where
 old : ∀ t, mtok t = true → tok t = true
 lt : ∀ t, mtok t = true → t < nt0
 le : nt0 ≤ nt
 own : ∀ o ∈ os, ∀ t, o = .tok t → tok t = true ∧ nt0 ≤ t ∧ t < nt
 ne : os.Pairwise fun a b => ∀ t, a = .tok t → b ≠ .tok t
theorem TK.start {mtok : Nat → Bool} {nt0 : Nat} (h : ∀ t, mtok t = true → t < nt0) : TK mtok nt0 mtok nt0 [] := ⟨fun _ h => h, h, Nat.le_refl _, by simp, .nil⟩
theorem TK.full {mtok : Nat → Bool} {nt0 : Nat} {tok : Nat → Bool} {nt : Nat} {os : List Own} (h : TK mtok nt0 tok nt os) : TK mtok nt0 tok nt (.full :: os) :=
 ⟨h.old, h.lt, h.le, fun o ho t e => by
  rcases List.mem_cons.1 ho with rfl | ho
  ·cases e
  ·exact h.own o ho t e, .cons (fun b _ t e => by cases e) h.ne⟩
theorem TK.live {mtok : Nat → Bool} {nt0 : Nat} {tok : Nat → Bool} {nt : Nat} {o : Own} {os : List Own} (h : TK mtok nt0 tok nt (o :: os)) : o.liveP tok := by
 cases o with
 | full => trivial
 | tok t => exact (h.own _ (by simp) t rfl).1
theorem TK.tail {mtok : Nat → Bool} {nt0 : Nat} {tok : Nat → Bool} {nt : Nat} {o : Own} {os : List Own} (h : TK mtok nt0 tok nt (o :: os)) : TK mtok nt0 tok nt os :=
 ⟨h.old, h.lt, h.le, fun o' ho => h.own o' (by simp [ho]), (List.pairwise_cons.1 h.ne).2⟩
theorem TK.swap {mtok : Nat → Bool} {nt0 : Nat} {tok : Nat → Bool} {nt : Nat} {a b : Own} {os : List Own} (h : TK mtok nt0 tok nt (a :: b :: os)) : TK mtok nt0 tok nt (b :: a :: os) := by
 have h1 := List.pairwise_cons.1 h.ne
 have h2 := List.pairwise_cons.1 h1.2
 refine ⟨h.old, h.lt, h.le, fun o' ho => h.own o' (by simp at ho ⊢; rcases ho with h | h | h <;> simp [h]), ?_⟩
 refine List.pairwise_cons.2 ⟨fun c hc t e => ?_, List.pairwise_cons.2 ⟨fun c hc => h1.1 c (by simp [hc]), h2.2⟩⟩
 rcases List.mem_cons.1 hc with rfl | hc
 ·intro e'
  exact h1.1 b (by simp) t e' e
 ·exact h2.1 c hc t e
theorem TK.app {mtok : Nat → Bool} {nt0 : Nat} {tok : Nat → Bool} {nt : Nat} {o : Own} {os : List Own} (h : TK mtok nt0 tok nt (o :: os)) : TK mtok nt0 (upd (o.kill tok) nt true) (nt + 1) (.tok nt :: os) := by
 have hp := List.pairwise_cons.1 h.ne
 have key : ∀ t, t < nt → (∀ t', o = .tok t' → t ≠ t') → (upd (o.kill tok) nt true) t = tok t := by
  intro t ht hne
  rw [upd_other _ _ (by omega)]
  cases o with
  | full => rfl
  | tok t' => simp only [Own.kill]; rw [upd_other _ _ (hne t' rfl)]
 have hle := h.le
 refine ⟨fun t ht => ?_, h.lt, by omega, fun o' ho t e => ?_, ?_⟩
 ·have hlt := h.lt t ht
  rw [key t (by omega) (fun t' e => by have := (h.own o (by simp) t' e).2.1; omega)]
  exact h.old t ht
 ·rcases List.mem_cons.1 ho with rfl | ho
  ·cases e
   exact ⟨by rw [upd_same], hle, by omega⟩
  ·obtain ⟨h1, h2, h3⟩ := h.own o' (by simp [ho]) t e
   refine ⟨?_, h2, by omega⟩
   rw [key t h3 (fun t' e' => fun e2 => by subst e2; exact hp.1 o' ho t e' e)]
   exact h1
 ·refine List.pairwise_cons.2 ⟨fun b hb t e e' => ?_, hp.2⟩
  cases e
  have := (h.own b (by simp [hb]) _ e').2.2
  omega
theorem Stop.of_b {cx : Cx} {fid : FuncId} {args : List AV} {S : AState} {dst : Option Tmp} {K : AState → Prop} {v : AV} {tok' : Nat → Bool} {nt' : Nat} (h : ACalls P fid args ⟨S.box, cx.nb, S.tok, S.nt⟩ fun v' m' => v' = v ∧ m' = ⟨S.box, cx.nb, tok', nt'⟩)
  (hk : K ⟨putT S.tmps dst v, S.box, tok', nt'⟩) : Stop P cx false fid args S dst K := by
 refine h.mono ?_
 rintro v' m' ⟨rfl, rfl⟩
 exact hk
theorem key_lt {nb k : Nat} {box : Bxs} {r : List (List AV)} (hbox : lb nb box [] = box) (h : box k = some r) : k < nb := by
 rcases Nat.lt_or_ge k nb with h1 | h1
 ·exact h1
 ·rw [← hbox] at h
  have : ¬ k < nb := by omega
  simp [lb, lk, this] at h
abbrev ints (xs : List Int) : D := .sl 1 (xs.map fun n => [D.raw (.int .i64 n)])
abbrev I (n : Int) : AV := .d (.raw (.int .i64 n))
abbrev B (b : Bool) : AV := .d (.raw (.bool b))
structure E where
 ty : Int
 fr : Int
 to : Int
 deriving DecidableEq, Inhabited
abbrev E.cells (e : E) : List D := [.raw (.int .i64 e.ty), .raw (.int .i64 e.fr), .raw (.int .i64 e.to)]
abbrev edges (es : List E) : D := .sl 3 (es.map E.cells)
structure Gr where
 nodes : List Int
 edges : List E
 deriving DecidableEq, Inhabited
structure Mo where
 nodes : List Int
 edges : List Int
 deriving DecidableEq, Inhabited
abbrev Gr.av (g : Gr) : AV := .agg [.d (ints g.nodes), .d (AM.edges g.edges)]
abbrev Mo.av (m : Mo) : AV := .agg [.d (ints m.nodes), .d (ints m.edges)]
@[simp] theorem map_at {α β : Type} (f : α → β) (l : List α) (i : Nat) (d : β) (h : i < l.length) : ((l.map f)[i]?).getD d = f l[i] := by simp [h]
end Go.AM
namespace Go.AM
open Go Go.Proofs
class Nrm (l : List CI) (l' : outParam (List CI)) : Prop where
 h : ∀ {P : Program} {cx : Cx} {nt0 : Nat} {K : Exit → AState → Prop} {S : AState}, AL P cx nt0 K l' S → AL P cx nt0 K l S
instance (priority := low) Nrm.base {l : List CI} : Nrm l l := ⟨id⟩
instance Nrm.seq {a b : Code} {r l' : List CI} [h : Nrm (.c a :: .c b :: r) l'] : Nrm (.c (.seq a b) :: r) l' := ⟨fun x => AL.seq (h.h x)⟩
instance Nrm.block {id : Nat} {c : Code} {r l' : List CI} [h : Nrm (.c c :: .blk id :: r) l'] : Nrm (.c (.block id c) :: r) l' := ⟨fun x => AL.block (h.h x)⟩
instance Nrm.skip {r l' : List CI} [h : Nrm r l'] : Nrm (.c .skip :: r) l' := ⟨fun x => AL.skip (h.h x)⟩
instance Nrm.blk {id : Nat} {r l' : List CI} [h : Nrm r l'] : Nrm (.blk id :: r) l' := ⟨fun x => AL.blk (h.h x)⟩
section
variable {P : Program} {cx : Cx} {nt0 : Nat} {K : Exit → AState → Prop} {S : AState} {l l' r : List CI}
theorem sN [h : Nrm l l'] (k : AL P cx nt0 K l' S) : AL P cx nt0 K l S := h.h k
theorem sR {id : Nat} {ops : Array Oper} {draw : Bool} [h : Nrm l (.c (.region id ops draw) :: r)] (k : FReg Tryz.prog cx ops draw (AL Tryz.prog cx nt0 K r) S) (hnb : cx.base + cx.n ≤ cx.nb := by exact Nat.le_refl _) (hok : regionOk cx.n ops draw = true := by kernel_rfl) : AL Tryz.prog cx nt0 K l S :=
 h.h (AL.region follows_Tryz hnb hok k)
theorem sC {x : Operand} {a b : Code} [h : Nrm l (.c (.cond x a b) :: r)] (k : FCond P cx nt0 K r a b S (S.ev x)) : AL P cx nt0 K l S := h.h (AL.cond k)
theorem sT [h : Nrm l (.c .ret :: r)] (k : K .ret S) : AL P cx nt0 K l S := h.h (AL.ret k)
theorem sE [h : Nrm l []] (k : K .normal S) : AL P cx nt0 K l S := h.h (AL.nil k)
theorem sX {id : Nat} [h : Nrm l (.c (.exit id) :: r)] (k : AU P cx nt0 K r (.exit id) S) : AL P cx nt0 K l S := h.h (AL.exit k)
theorem sF {nt : Nat} {rs : List ResultVar} {l : List (Nat × AV)} {out : Bxs} {loc : List (Nat × List (List AV))} {tok mtok : Nat → Bool} {vs : List AV} {av : AV}
  (hbox : lb cx.base out [] = out) (hm : ∀ t, mtok t = true → t < nt0) (htok : ∀ t, mtok t = true → tok t = true) (hnt : nt0 ≤ nt)
  (hto : To (fun k => lb cx.base out [] k ≠ none) (fun t => nt0 = nt ∨ t < nt0) none (packA vs) av) (hres : resAs P ⟨tl l, lb cx.base out loc, tok, nt⟩ rs = some vs := by (simp [resAs, resA]; rfl)) (ho : out = cx.B0 := by rfl) : Fin P cx nt0 rs (fun v' m' => v' = av ∧ m' = ⟨out, cx.base, mtok, nt0⟩) ⟨tl l, lb cx.base out loc, tok, nt⟩ :=
 Fin.data hres hbox ho hm htok hnt hto
end
theorem sW {i : Nat} (h : i < 9223372036854775807) : IntKind.i64.wrap (↑i + 1) = ((i + 1 : Nat) : Int) := by rw [wrap_in (by omega) (by omega)]; rfl
theorem sB {f : FuncId} {fn : Func} {c : Code} {args : List AV} {m : AMem} {Q : AV → AMem → Prop} {k : Nat} (hfn : Tryz.prog.funcs[f]? = some fn) (hk : fn.ntmps = k)
  (h : lb m.nb m.box [] = m.box → (∀ t, m.tok t = true → t < m.nt) → AT Tryz.prog ⟨m.nb, m.nb + fn.ntmps, fn.ntmps, m.box⟩ m.nt c ⟨tl (tlArgs 0 args), lb m.nb m.box [], m.tok, m.nt⟩
   fun e S => (e = .normal ∨ e = .ret) ∧ Fin Tryz.prog ⟨m.nb, m.nb + fn.ntmps, fn.ntmps, m.box⟩ m.nt fn.results.toList Q S)
  (hb : fn.body = some c := by rfl) (hname : (fn.name == "runtime.NumGoroutine") = false := by kernel_rfl) (hl : args.length ≤ k := by simp) : ACalls Tryz.prog f args m Q :=
 ACalls.of_body hfn hb hname follows_Tryz rfl (hk ▸ hl) h
end Go.AM
namespace Go.AM
open Go
def mkL (b : Nat → Bool) (n : Nat) : List Int := ((List.range n).filter b).map fun (k : Nat) => (k : Int)
theorem mkL_succ (b : Nat → Bool) (n : Nat) : mkL b (n + 1) = if b n = true then mkL b n ++ [(n : Int)] else mkL b n := by
 unfold mkL
 rw [List.range_succ, List.filter_append, List.map_append]
 by_cases h : b n = true
 ·simp [h]
 ·simp [h]
theorem mkL_len (b : Nat → Bool) (n : Nat) : (mkL b n).length ≤ n := by
 unfold mkL
 rw [List.length_map]
 have := List.length_filter_le b (List.range n)
 simpa using this
theorem mkL_mem {b : Nat → Bool} {n : Nat} {x : Int} : x ∈ mkL b n ↔ ∃ k : Nat, k < n ∧ b k = true ∧ (k : Int) = x := by
 simp only [mkL, List.mem_map, List.mem_filter, List.mem_range]
 constructor
 ·rintro ⟨k, ⟨h1, h2⟩, h3⟩; exact ⟨k, h1, h2, h3⟩
 ·rintro ⟨k, h1, h2, h3⟩; exact ⟨k, ⟨h1, h2⟩, h3⟩
theorem mkL_pw (b : Nat → Bool) (n : Nat) : (mkL b n).Pairwise (· < ·) := by
 unfold mkL
 rw [List.pairwise_map]
 refine List.Pairwise.filter _ (List.Pairwise.imp (R := (· < ·)) (fun h => by omega) List.pairwise_lt_range)
theorem mkL_ext {b c : Nat → Bool} {n : Nat} (h : ∀ k, k < n → b k = c k) : mkL b n = mkL c n := by
 unfold mkL
 congr 1
 exact List.filter_congr fun k hk => h k (List.mem_range.1 hk)
def lsK (N E : List Bool) (fs ts : Nat → Nat) : Nat → List Bool
 | 0 => N
 | i + 1 => if E.getD i false = true then ((lsK N E fs ts i).set (fs i) true).set (ts i) true else lsK N E fs ts i
theorem lsK_len (N E : List Bool) (fs ts : Nat → Nat) : ∀ i, (lsK N E fs ts i).length = N.length
 | 0 => rfl
 | i + 1 => by
  unfold lsK
  split
  ·rw [List.length_set, List.length_set]; exact lsK_len N E fs ts i
  ·exact lsK_len N E fs ts i
theorem lsK_yes {N E : List Bool} {fs ts : Nat → Nat} {i : Nat} (h : E.getD i false = true) : lsK N E fs ts (i + 1) = ((lsK N E fs ts i).set (fs i) true).set (ts i) true := by rw [lsK, if_pos h]
theorem lsK_no {N E : List Bool} {fs ts : Nat → Nat} {i : Nat} (h : E.getD i false = false) : lsK N E fs ts (i + 1) = lsK N E fs ts i := by rw [lsK, if_neg (by rw [h]; decide)]
end Go.AM
namespace Go.Proofs.YtfgcpmeadeehhaaGreat.kt
open Go Go.Proofs Go.RowKit
theorem run_append_none {P : Program} {w : World} (base : Nat) (t ty e : TypeId) (i : TypeInfo) (size : Nat) (ht : P.underlying t = some (.slice e)) (hi : P.info? e = some i)
  (v : Value) (n c : Nat) (xs : List Value) (hown : w.ownsRow base e size v n xs) : (Builtin.append_ #[t, t] ty #[v, .slice none 0 c]).run P w = .ok v w := by
 rcases hown.2 with ⟨rfl, rfl⟩ | ⟨g, cap, cur, rfl, _, _, hnc, _⟩
 ·simp [Builtin.append_, run_underlying ht, sizeOf, typeInfo, hi, Builtin.lenOf, Builtin.firstCells]
 ·simp [Builtin.append_, run_underlying ht, sizeOf, typeInfo, hi, Builtin.lenOf, Builtin.firstCells, hnc, storeCells]
theorem append_src {P : Program} {w : World} {ops : Array Oper} {rest : List Oper} {o : Oper} {a : Act} {Q : Exit → Act → World → Prop} (hgd : o.guard = none) (s x : Operand) (t : TypeId)
  (ho : o.op = .call { callee := .builtin .append, args := #[s, x], argTypes := #[t, t] })
  (base : Nat) (e : TypeId) (i : TypeInfo) (z : Value) (size bytes : Nat) (ht : P.underlying t = some (.slice e)) (hi : P.info? e = some i) (hz : i.zero = some z)
  (hsize : i.size = size) (hby : i.bytes = bytes) (hzs : z.cells.size = size) (hsz : 0 < size)
  (v : Value) (n : Nat) (xs : List Value) (hs : a.eval s = v) (hown : w.ownsRow base e size v n xs)
  (A : Option Addr) (m c : Nat) (news : List Value) (hx : a.eval x = .slice A m c) (hl : news.length = m * size) (hA : A = none → m = 0) (hnews : ∀ ad, A = some ad → ∀ j u, news[j]? = some u → w.cell? (ad.add j) = some u) (h1 : ∀ u ∈ news, u.oneCell' = true)
  (h63 : n + m ≤ maxLen) (hbytes : (n + m) * bytes ≤ 140737488355328) (hbase : base ≤ w.heap.size)
  (h : ∀ v' w', w'.ownsRow base e size v' (n + m) (xs ++ news) → w.grownBy w' v.ownBlock → wpList P ops Q rest (a.put o.dst v') w') : wpList P ops Q (o :: rest) a w := by
 cases A with
 | some ad => exact wpList_append_own w hgd s x t ho base e i z size bytes ht hi hz hsize hby hzs hsz v n xs hs hown ad m c news hx hl (hnews ad rfl) h1 h63 hbytes hbase fun v' w' h2 h3 _ => h v' w' h2 h3
 | none =>
  obtain rfl := hA rfl
  have hn : news = [] := List.length_eq_zero_iff.1 (by omega)
  subst hn
  refine wpList_plain hgd fun K hK => ?_
  have hrun := run_append_none (P := P) (w := w) base t o.type e i size ht hi v n c xs hown
  unfold Oper.wp
  simp [execOp, ho, resolve, invoke, builtin, hs, hx, hrun, Result.andThen]
  exact hK _ _ (h v w (by simpa using hown) ⟨rfl, rfl, rfl, Nat.le_refl _, fun _ _ _ => rfl⟩)
theorem infoI : (Tryz.prog.info? 3).map (fun i => (i.zero, i.size, i.bytes)) = some (some (.int .i64 0), 1, 8) := by kernel_rfl
theorem infoE : (Tryz.prog.info? 133).map (fun i => (i.zero, i.size, i.bytes)) = some (some (.agg #[.int .i64 0, .int .i64 0, .int .i64 0]), 3, 24) := by kernel_rfl
theorem infoB1 : (Tryz.prog.info? 4).map (fun i => (i.zero, i.size, i.bytes)) = some (some (.bool false), 1, 1) := by kernel_rfl
set_option maxHeartbeats 2000000 in
set_option maxRecDepth 100000 in
theorem marked_any (b off n c : Nat) (p : Nat → Bool) (w : World) (hn : n ≤ 1000000) (hb : b < w.heap.size) (hc : ∀ j, j < n → w.cell? ⟨b, off + j, none⟩ = some (.bool (p j))) :
  Calls Tryz.prog 235 #[.slice (some ⟨b, off, none⟩) n c] w fun e w' => ∃ v, e = .returned v ∧ w'.ownsRow w.heap.size 3 1 v (AM.mkL p n).length ((AM.mkL p n).map (Value.int .i64)) ∧ Below w.heap.size w w' := by
 obtain ⟨i0, hi, hz0, hz1, hz2⟩ := info_parts infoI
 go_enter Tryz.func235, Tryz.ntmps235
 go_wp2
 go_loopw [3, 4] (fun v i wr => ∃ k : Nat, k ≤ n ∧ i = .int .i64 k ∧ wr.ownsRow w.heap.size 3 1 v (AM.mkL p k).length ((AM.mkL p k).map (Value.int .i64)) ∧ Below w.heap.size w wr) (fun _ i _ => n - (intOf i).toNat)
 case atStart => exact ⟨0, Nat.zero_le _, rfl, World.ownsRow_nil _ _ _ _, Below.refl _ _⟩
 case round =>
  obtain ⟨k, hk, rfl, hown, hnx⟩ := hrel
  have hml := AM.mkL_len p k
  have hcx : k < n → wr.cell? ⟨b, off + k, none⟩ = some (.bool (p k)) := fun h => (hnx.cell (by exact hb)).trans (hc k (by omega))
  cases hbv : p k
  ·rw [hbv] at hcx
   have hst : AM.mkL p (k + 1) = AM.mkL p k := by rw [AM.mkL_succ, if_neg (by simp only [hbv]; decide)]
   go_wp2
   ·refine ⟨⟨k + 1, by omega, by simp, by rw [hst]; exact hown, hnx⟩, by simp [intOf]; omega⟩
   ·go_ret
    obtain rfl : k = n := by omega
    exact ⟨_, rfl, hown, hnx⟩
  ·rw [hbv] at hcx
   have hst : AM.mkL p (k + 1) = AM.mkL p k ++ [(k : Int)] := by rw [AM.mkL_succ, if_pos hbv]
   go_wp2_with (first
    | (at_builtin; refine wpList_append_own _ rfl _ _ 22 rfl w.heap.size 3 i0 (.int .i64 0) 1 8 Tryz.underlying22 hi hz0 hz1 hz2 rfl (by decide) _ _ _ rfl (hown.alloc _) ⟨wr.heap.size, 0, none⟩ 1 1 [.int .i64 k] rfl rfl ?c1 ?c2 ?c3 ?c4 ?c5 ?_)
    | go_in)
   case c1 =>
    intro j u hj
    match j, hj with
    | 0, hj => simp at hj; subst hj; simp [Addr.add]
   case c2 => intro u hu; simp at hu; subst hu; rfl
   case c3 => unfold maxLen; omega
   case c4 => omega
   case c5 => have := hnx.size; simp; omega
   ·intro v' w1 hown' hgrow
    intro _
    have hnx1 : Below w.heap.size w w1 := (hnx.alloc (by have := hnx.size; omega) _).grown hgrow (by have := hnx.size; simp; omega) (fun q hq => (hown.lt q hq).1)
    have hl2 : (AM.mkL p k).length + 1 = (AM.mkL p (k + 1)).length := by rw [hst]; simp
    have hxs : List.map (Value.int .i64) (AM.mkL p k) ++ [Value.int .i64 k] = (AM.mkL p (k + 1)).map (Value.int .i64) := by rw [hst, List.map_append]; rfl
    rw [hl2, hxs] at hown'
    go_wp2
    exact ⟨⟨k + 1, by omega, by simp, hown', hnx1⟩, by simp [intOf]; omega⟩
   ·go_ret
    obtain rfl : k = n := by omega
    exact ⟨_, rfl, hown, hnx⟩
set_option maxRecDepth 100000 in
theorem marked_zero (A : Option Addr) (c : Nat) (w : World) :
  Calls Tryz.prog 235 #[.slice A 0 c] w fun e w' => e = .returned (.slice none 0 0) ∧ w' = w := by
 go_enter Tryz.func235, Tryz.ntmps235
 go_wp2
 go_loopw [3, 4] (fun v i wr => v = .slice none 0 0 ∧ i = .int .i64 0 ∧ wr = w) (fun _ i _ => 0)
 case atStart => exact ⟨rfl, rfl, rfl⟩
 case round =>
  obtain ⟨rfl, rfl, rfl⟩ := hrel
  go_wp2
  go_ret
  exact ⟨rfl, rfl⟩
end Go.Proofs.YtfgcpmeadeehhaaGreat.kt
namespace Go.Proofs.YtfgcpmeadeehhaaGreat.kt
open Go Go.Proofs Go.RowKit
theorem owns_below {w w' : World} {base : Nat} {e : TypeId} {size : Nat} {v : Value} {n : Nat} {xs : List Value} (h : w.ownsRow base e size v n xs) (hb : Below w.heap.size w w') : w'.ownsRow base e size v n xs := by
 refine ⟨h.1, ?_⟩
 rcases h.2 with h0 | ⟨g, cap, cur, h1, h2, h3, h4⟩
 ·exact .inl h0
 ·exact .inr ⟨g, cap, cur, h1, h2, (hb.block g (Array.getElem?_eq_some_iff.1 h3).1).trans h3, h4⟩
theorem owns_setCell {w : World} {base : Nat} {e : TypeId} {size : Nat} {v : Value} {n : Nat} {xs : List Value} (h : w.ownsRow base e size v n xs) {p : Addr} (hp : p.block < base) (u : Value) : (w.setCell p u).ownsRow base e size v n xs := by
 refine ⟨h.1, ?_⟩
 rcases h.2 with h0 | ⟨g, cap, cur, h1, h2, h3, h4⟩
 ·exact .inl h0
 ·exact .inr ⟨g, cap, cur, h1, h2, (Below.heap_setCell _ _ _ _ (by omega)).trans h3, h4⟩
theorem owns_mono {w : World} {base base' : Nat} {e : TypeId} {size : Nat} {v : Value} {n : Nat} {xs : List Value} (h : w.ownsRow base e size v n xs) (hb : base' ≤ base) : w.ownsRow base' e size v n xs := by
 refine ⟨h.1, ?_⟩
 rcases h.2 with h0 | ⟨g, cap, cur, h1, h2, h3⟩
 ·exact .inl h0
 ·exact .inr ⟨g, cap, cur, h1, by omega, h3⟩
theorem owns_slice {w : World} {base : Nat} {e : TypeId} {size : Nat} {v : Value} {n : Nat} {xs : List Value} (h : w.ownsRow base e size v n xs) : ∃ A c, v = .slice A n c := by
 rcases h.2 with ⟨rfl, h0⟩ | ⟨g, cap, cur, h1, h2, h3⟩
 ·exact ⟨none, 0, by rw [h0]⟩
 ·exact ⟨_, _, h1⟩
theorem alloc_at (w : World) (o : Obj) : (w.alloc o).heap[w.heap.size]? = some o := by unfold World.alloc; exact Array.getElem?_push_size
theorem getD_map_bool {l : List Bool} {j : Nat} (h : j < l.length) : (l.map Value.bool)[j]? = some (.bool (l.getD j false)) := by
 simp [h]
set_option maxHeartbeats 4000000 in
set_option maxRecDepth 100000 in
theorem least_any (GN : Value) (be oe m ce bn on n cn bm om cm : Nat) (N E : List Bool) (fs ts : Nat → Nat) (w : World) (hn0 : 0 < n) (hn : n ≤ 1000000) (hm : m ≤ 1000000) (hN : N.length = n) (hE : E.length = m)
    (he : be < w.heap.size) (hbn : bn < w.heap.size) (hbm : bm < w.heap.size) (hf : ∀ j, j < m → fs j < n) (ht : ∀ j, j < m → ts j < n)
    (hce : ∀ j, j < m → w.cell? ⟨be, oe + j * 3 + 1, none⟩ = some (.int .i64 (fs j)) ∧ w.cell? ⟨be, oe + j * 3 + 2, none⟩ = some (.int .i64 (ts j)))
    (hcn : ∀ j, j < n → w.cell? ⟨bn, on + j, none⟩ = some (.bool (N.getD j false))) (hcm : ∀ j, j < m → w.cell? ⟨bm, om + j, none⟩ = some (.bool (E.getD j false))) :
    Calls Tryz.prog 199 #[.agg #[GN, .slice (some ⟨be, oe, none⟩) m ce], .slice (some ⟨bn, on, none⟩) n cn, .slice (some ⟨bm, om, none⟩) m cm] w fun e w' => ∃ v u, e = .returned (.agg #[v, u]) ∧
      w'.ownsRow w.heap.size 3 1 v (AM.mkL (fun k => (AM.lsK N E fs ts m).getD k false) n).length ((AM.mkL (fun k => (AM.lsK N E fs ts m).getD k false) n).map (Value.int .i64)) ∧
      w'.ownsRow w.heap.size 3 1 u (AM.mkL (fun k => E.getD k false) m).length ((AM.mkL (fun k => E.getD k false) m).map (Value.int .i64)) ∧ Below w.heap.size w w' := by
  obtain ⟨i0, hi, hz0, hz1, hz2⟩ := info_parts infoB1
  go_enter Tryz.func199, Tryz.ntmps199
  go_wp2_with (first
    | (at_builtin; refine append_src rfl _ _ 216 rfl (w.heap.size + 1 + 1) 4 i0 (.bool false) 1 1 Tryz.underlying216 hi hz0 hz1 hz2 rfl (by decide) _ 0 [] rfl ?c0 (some ⟨bn, on, none⟩) n cn (N.map Value.bool) rfl ?c1 ?c2 ?c3 ?c4 ?c5 ?c6 ?c7 ?_)
    | go_in)
  case c0 =>
    refine ⟨rfl, .inr ⟨w.heap.size + 1 + 1, 0, #[], rfl, Nat.le_refl _, ?_, Nat.le_refl _, Nat.zero_le _, rfl, rfl⟩⟩
    have h := alloc_at ((w.alloc (.cells #[GN, .slice (some ⟨be, oe, none⟩) m ce] 25)).alloc (.cells #[.slice none 0 0, .slice none 0 0] 31)) (.cells #[] 4)
    rw [show ((w.alloc (.cells #[GN, .slice (some ⟨be, oe, none⟩) m ce] 25)).alloc (.cells #[.slice none 0 0, .slice none 0 0] 31)).heap.size = w.heap.size + 1 + 1 by simp] at h
    exact h
  case c1 => rw [List.length_map, hN, Nat.mul_one]
  case c2 => intro h; cases h
  case c3 =>
    intro ad had j u hj
    cases had
    by_cases hjn : j < n
    · rw [getD_map_bool (by omega)] at hj
      cases hj
      have : (⟨bn, on, none⟩ : Addr).add j = ⟨bn, on + j, none⟩ := by
        unfold Addr.add
        split
        · rename_i e; subst e; rfl
        · rfl
      rw [this, ← hcn j hjn]
      exact ((((Below.refl w.heap.size w).alloc (Nat.le_refl _) _).alloc (by simp) _).alloc (by simp; omega) _).cell hbn
    · rw [List.getElem?_eq_none (by simp; omega)] at hj
      cases hj
  case c4 =>
    intro u hu
    obtain ⟨b, _, rfl⟩ := List.mem_map.1 hu
    rfl
  case c5 => unfold maxLen; omega
  case c6 => omega
  case c7 => simp
  intro v' w1 hown hg
  try simp only [Nat.zero_add, List.nil_append] at hown
  obtain ⟨g, cap, rfl, hg1, hg2⟩ := hown.form hn0
  have hA : Below w.heap.size w ((w.alloc (.cells #[GN, .slice (some ⟨be, oe, none⟩) m ce] 25)).alloc (.cells #[.slice none 0 0, .slice none 0 0] 31)) := ((Below.refl w.heap.size w).alloc (Nat.le_refl _) _).alloc (by simp) _
  have hAc : ((w.alloc (.cells #[GN, .slice (some ⟨be, oe, none⟩) m ce] 25)).alloc (.cells #[.slice none 0 0, .slice none 0 0] 31)).cell? ⟨w.heap.size, 1, none⟩ = some (.slice (some ⟨be, oe, none⟩) m ce) := by simp
  have hAs : ((w.alloc (.cells #[GN, .slice (some ⟨be, oe, none⟩) m ce] 25)).alloc (.cells #[.slice none 0 0, .slice none 0 0] 31)).heap.size = w.heap.size + 1 + 1 := by simp
  have hAx0 : ((w.alloc (.cells #[GN, .slice (some ⟨be, oe, none⟩) m ce] 25)).alloc (.cells #[.slice none 0 0, .slice none 0 0] 31)).cell? ⟨w.heap.size + 1, 0, none⟩ = some (.slice none 0 0) := by simp
  have hAx1 : ((w.alloc (.cells #[GN, .slice (some ⟨be, oe, none⟩) m ce] 25)).alloc (.cells #[.slice none 0 0, .slice none 0 0] 31)).cell? ⟨w.heap.size + 1, 1, none⟩ = some (.slice none 0 0) := by simp
  have hAz0 : ((w.alloc (.cells #[GN, .slice (some ⟨be, oe, none⟩) m ce] 25)).alloc (.cells #[.slice none 0 0, .slice none 0 0] 31)).frozen? ⟨w.heap.size + 1, 0, none⟩ = false := by simp
  have hAz1 : ((w.alloc (.cells #[GN, .slice (some ⟨be, oe, none⟩) m ce] 25)).alloc (.cells #[.slice none 0 0, .slice none 0 0] 31)).frozen? ⟨w.heap.size + 1, 1, none⟩ = false := by simp
  generalize hwA : ((w.alloc (.cells #[GN, .slice (some ⟨be, oe, none⟩) m ce] 25)).alloc (.cells #[.slice none 0 0, .slice none 0 0] 31)) = wA at *
  have hb1 : Below (w.heap.size + 1 + 1) wA w1 := ((Below.refl _ _).alloc (by omega) _).grown hg (by simp; omega) (by intro q hq; simp [Value.ownBlock] at hq; omega)
  clear hg hwA hcn
  go_wp2
  go_loopw [8] (fun i wr => ∃ k : Nat, k ≤ m ∧ i = .int .i64 k ∧ wr.ownsRow (w.heap.size + 1 + 1) 4 1 (.slice (some ⟨g, 0, none⟩) n cap) n ((AM.lsK N E fs ts k).map Value.bool) ∧ Below (w.heap.size + 1 + 1) wA wr) (fun i _ => m - (intOf i).toNat)
  case atStart => exact ⟨0, Nat.zero_le _, rfl, hown, hb1⟩
  case round =>
    clear hown hb1
    obtain ⟨k, hk, rfl, hown, hnx⟩ := hrel
    have hll := AM.lsK_len N E fs ts k
    have hcg : wr.cell? ⟨w.heap.size, 1, none⟩ = some (.slice (some ⟨be, oe, none⟩) m ce) := (hnx.cell (by simp; omega)).trans hAc
    have hcx : k < m → wr.cell? ⟨bm, om + k, none⟩ = some (.bool (E.getD k false)) := fun h => ((hnx.cell (by simp; omega)).trans (hA.cell hbm)).trans (hcm k h)
    have hcf : k < m → wr.cell? ⟨be, oe + k * 3 + 1, none⟩ = some (.int .i64 (fs k)) := fun h => ((hnx.cell (by simp; omega)).trans (hA.cell he)).trans (hce k h).1
    have hct : k < m → wr.cell? ⟨be, oe + k * 3 + 2, none⟩ = some (.int .i64 (ts k)) := fun h => ((hnx.cell (by simp; omega)).trans (hA.cell he)).trans (hce k h).2
    cases hbv : E.getD k false
    · rw [hbv] at hcx
      go_wp2_with fail
      · exact ⟨⟨k + 1, by omega, by simp, by rw [AM.lsK_no hbv]; exact hown, hnx⟩, by simp [intOf]; omega⟩
      · have hkm : ¬ k < m := by assumption
        obtain rfl : k = m := by omega
        have hA1 : Below w.heap.size w wr := hA.trans (hnx.mono (by omega))
        have hcw : ∀ j, j < k → wr.cell? ⟨bm, om + j, none⟩ = some (.bool (E.getD j false)) := fun j hj => (hA1.cell hbm).trans (hcm j hj)
        have hcw2 : ∀ j, j < n → wr.cell? ⟨g, 0 + j, none⟩ = some (.bool ((AM.lsK N E fs ts k).getD j false)) := fun j hj => by
          rw [Nat.zero_add, hown.cellAt _ (by omega)]; exact getD_map_bool (by omega)
        have hgs := (hown.lt g rfl).2
        have hsz := hA1.size
        have hc1 := marked_any g 0 n cap (fun j => (AM.lsK N E fs ts k).getD j false) wr hn hgs hcw2
        refine hc1.mono ?_
        rintro e w2 ⟨v2, rfl, ho2, hb2⟩
        have hcw3 : ∀ j, j < k → w2.cell? ⟨bm, om + j, none⟩ = some (.bool (E.getD j false)) := fun j hj => (hb2.cell (by simp; omega)).trans (hcw j hj)
        have hc2 := marked_any bm om k cm (fun j => E.getD j false) w2 hm (by have := hb2.size; omega) hcw3
        clear hc1 hcw hcw2 hcw3 hcx hcf hct hcg
        go_wp2_with fail
        refine hc2.mono ?_
        rintro e w3 ⟨u3, rfl, ho3, hb3⟩
        clear hc2
        have hsr := hnx.size
        have hs2 := hb2.size
        have hs3 := hb3.size
        have hnx3 : Below (w.heap.size + 1 + 1) wA w3 := (hnx.trans (hb2.mono (by omega))).trans (hb3.mono (by omega))
        have hx0 := (hnx3.cell (p := ⟨w.heap.size + 1, 0, none⟩) (by simp)).trans hAx0
        have hx1 := (hnx3.cell (p := ⟨w.heap.size + 1, 1, none⟩) (by simp)).trans hAx1
        have hz0' := (hnx3.frozen (p := ⟨w.heap.size + 1, 0, none⟩) (by simp)).trans hAz0
        have hz1' := (hnx3.frozen (p := ⟨w.heap.size + 1, 1, none⟩) (by simp)).trans hAz1
        have ho2' := owns_below (owns_mono (base' := w.heap.size + 1 + 1) ho2 (by omega)) hb3
        have ho3' := owns_mono (base' := w.heap.size + 1 + 1) ho3 (by omega)
        have hB3 : Below w.heap.size w w3 := hA.trans (hnx3.mono (by omega))
        clear hown hnx ho2 ho3 hb2 hb3 hnx3 hA1 hsz
        obtain ⟨A2, c2, rfl⟩ := owns_slice ho2'
        obtain ⟨A3, c3, rfl⟩ := owns_slice ho3'
        go_wp2
        refine bodyPost_ret (by simp [results, Tryz.results199, go_sem, hx0, hx1, hz0', hz1']; try rfl) rfl ?_
        exact ⟨_, _, rfl, owns_mono (owns_setCell (owns_setCell ho2' (by simp) _) (by simp) _) (by omega), owns_mono (owns_setCell (owns_setCell ho3' (by simp) _) (by simp) _) (by omega), (hB3.setCell (by simp) _).setCell (by simp) _⟩
    · rw [hbv] at hcx
      have hne1 : w.heap.size ≠ g := by omega
      have hne2 : be ≠ g := by omega
      have hne3 : g ≠ w.heap.size := by omega
      have hne4 : g ≠ be := by omega
      have hf1 := hown.frozenAt (fs k)
      have hf2 := hown.frozenAt (ts k)
      go_wp2_with fail
      · have hkm : k < m := by assumption
        have hcf' := hcf hkm
        have hct' := hct hkm
        have hfk := hf k hkm
        have htk := ht k hkm
        have hfk' : ((fs k : Nat) : Int) < n := by omega
        have htk' : ((ts k : Nat) : Int) < n := by omega
        have hfk0 : (0 : Int) ≤ ((fs k : Nat) : Int) := by omega
        have htk0 : (0 : Int) ≤ ((ts k : Nat) : Int) := by omega
        have hc1 : wr.cell? ⟨g, fs k, none⟩ = some (.bool ((AM.lsK N E fs ts k).getD (fs k) false)) := by
          rw [hown.cellAt _ (by omega)]; exact getD_map_bool (by omega)
        have hc2 : wr.cell? ⟨g, ts k, none⟩ = some (.bool ((AM.lsK N E fs ts k).getD (ts k) false)) := by
          rw [hown.cellAt _ (by omega)]; exact getD_map_bool (by omega)
        have hst1 := (hown.stored (fs k) (.bool true)).1
        have hst2 := (hown.stored (ts k) (.bool true)).1
        have hd1 := hst1.cellAt (ts k) (by omega)
        have hd2 := hst2.cellAt (fs k) (by omega)
        have hd3 := hst1.frozenAt (ts k)
        have hd4 := hst2.frozenAt (fs k)
        clear hcf hct hcx
        go_region_held3 (fun w' => w'.cell? ⟨w.heap.size, 1, none⟩ = some (.slice (some ⟨be, oe, none⟩) m ce) ∧ w'.cell? ⟨be, oe + k * 3 + 1, none⟩ = some (.int .i64 (fs k)) ∧ w'.cell? ⟨be, oe + k * 3 + 2, none⟩ = some (.int .i64 (ts k))) (go_keep) (fail)
        have hst3 := (hst1.stored (ts k) (.bool true)).1.drew
        have hnx' : Below (w.heap.size + 1 + 1) wA ((wr.setCell ⟨g, fs k, none⟩ (.bool true)).setCell ⟨g, ts k, none⟩ (.bool true)).drew := ((hnx.setCell hg1 _).setCell hg1 _).drew
        rw [← List.map_set, ← List.map_set, ← AM.lsK_yes hbv] at hst3
        clear hst1 hst2 hd1 hd2 hd3 hd4 hc1 hc2 hf1 hf2 hown hnx hcf' hct'
        generalize ((wr.setCell ⟨g, fs k, none⟩ (.bool true)).setCell ⟨g, ts k, none⟩ (.bool true)).drew = wn at *
        go_wp2
        exact ⟨⟨k + 1, by omega, by simp, hst3, hnx'⟩, by simp [intOf]; omega⟩
      · have hkm : ¬ k < m := by assumption
        exfalso
        rw [List.getD_eq_getElem?_getD, List.getElem?_eq_none (by omega)] at hbv
        cases hbv
set_option maxHeartbeats 4000000 in
set_option maxRecDepth 100000 in
theorem least_zero (GN : Value) (AE AN AB : Option Addr) (ce n cn cm : Nat) (N : List Bool) (w : World) (hn : n ≤ 1000000) (hN : N.length = n) (hA : AN = none → n = 0)
  (hcn : ∀ a, AN = some a → ∀ j, j < n → w.cell? (a.add j) = some (.bool (N.getD j false))) :
  Calls Tryz.prog 199 #[.agg #[GN, .slice AE 0 ce], .slice AN n cn, .slice AB 0 cm] w fun e w' => ∃ v u, e = .returned (.agg #[v, u]) ∧
   w'.ownsRow w.heap.size 3 1 v (AM.mkL (fun k => N.getD k false) n).length ((AM.mkL (fun k => N.getD k false) n).map (Value.int .i64)) ∧
   w'.ownsRow w.heap.size 3 1 u (AM.mkL (fun k => false) 0).length ((AM.mkL (fun k => false) 0).map (Value.int .i64)) ∧ Below w.heap.size w w' := by
 obtain ⟨i0, hi, hz0, hz1, hz2⟩ := info_parts infoB1
 go_enter Tryz.func199, Tryz.ntmps199
 go_wp2_with (first
  | (at_builtin; refine append_src rfl _ _ 216 rfl (w.heap.size + 1 + 1) 4 i0 (.bool false) 1 1 Tryz.underlying216 hi hz0 hz1 hz2 rfl (by decide) _ 0 [] rfl ?c0 AN n cn (N.map Value.bool) rfl ?c1 ?c2 ?c3 ?c4 ?c5 ?c6 ?c7 ?_)
  | go_in)
 case c0 =>
  refine ⟨rfl, .inr ⟨w.heap.size + 1 + 1, 0, #[], rfl, Nat.le_refl _, ?_, Nat.le_refl _, Nat.zero_le _, rfl, rfl⟩⟩
  have h := alloc_at ((w.alloc (.cells #[GN, .slice AE 0 ce] 25)).alloc (.cells #[.slice none 0 0, .slice none 0 0] 31)) (.cells #[] 4)
  rw [show ((w.alloc (.cells #[GN, .slice AE 0 ce] 25)).alloc (.cells #[.slice none 0 0, .slice none 0 0] 31)).heap.size = w.heap.size + 1 + 1 by simp] at h
  exact h
 case c1 => rw [List.length_map, hN, Nat.mul_one]
 case c2 => exact hA
 case c3 =>
  intro ad had j u hj
  by_cases hjn : j < n
  ·rw [getD_map_bool (by omega)] at hj
   cases hj
   have hc := hcn ad had j hjn
   rw [← hc]
   exact ((((Below.refl w.heap.size w).alloc (Nat.le_refl _) _).alloc (by simp) _).alloc (by simp; omega) _).cell (World.block_lt_of_cell? w _ hc)
  ·rw [List.getElem?_eq_none (by simp; omega)] at hj
   cases hj
 case c4 =>
  intro u hu
  obtain ⟨b, _, rfl⟩ := List.mem_map.1 hu
  rfl
 case c5 => unfold maxLen; omega
 case c6 => omega
 case c7 => simp
 intro v' w1 hown hg
 try simp only [Nat.zero_add, List.nil_append] at hown
 obtain ⟨A1, c1, rfl⟩ := owns_slice hown
 have hA : Below w.heap.size w ((w.alloc (.cells #[GN, .slice AE 0 ce] 25)).alloc (.cells #[.slice none 0 0, .slice none 0 0] 31)) := ((Below.refl w.heap.size w).alloc (Nat.le_refl _) _).alloc (by simp) _
 have hAs : ((w.alloc (.cells #[GN, .slice AE 0 ce] 25)).alloc (.cells #[.slice none 0 0, .slice none 0 0] 31)).heap.size = w.heap.size + 1 + 1 := by simp
 have hAx0 : ((w.alloc (.cells #[GN, .slice AE 0 ce] 25)).alloc (.cells #[.slice none 0 0, .slice none 0 0] 31)).cell? ⟨w.heap.size + 1, 0, none⟩ = some (.slice none 0 0) := by simp
 have hAx1 : ((w.alloc (.cells #[GN, .slice AE 0 ce] 25)).alloc (.cells #[.slice none 0 0, .slice none 0 0] 31)).cell? ⟨w.heap.size + 1, 1, none⟩ = some (.slice none 0 0) := by simp
 have hAz0 : ((w.alloc (.cells #[GN, .slice AE 0 ce] 25)).alloc (.cells #[.slice none 0 0, .slice none 0 0] 31)).frozen? ⟨w.heap.size + 1, 0, none⟩ = false := by simp
 have hAz1 : ((w.alloc (.cells #[GN, .slice AE 0 ce] 25)).alloc (.cells #[.slice none 0 0, .slice none 0 0] 31)).frozen? ⟨w.heap.size + 1, 1, none⟩ = false := by simp
 generalize hwA : ((w.alloc (.cells #[GN, .slice AE 0 ce] 25)).alloc (.cells #[.slice none 0 0, .slice none 0 0] 31)) = wA at *
 have hb1 : Below (w.heap.size + 1 + 1) wA w1 := ((Below.refl _ _).alloc (by omega) _).grown hg (by simp; omega) (by intro q hq; simp [Value.ownBlock] at hq; omega)
 clear hg hwA hcn
 have hc1 : Calls Tryz.prog 235 #[.slice A1 n c1] w1 fun e w' => ∃ v, e = .returned v ∧ w'.ownsRow w1.heap.size 3 1 v (AM.mkL (fun k => N.getD k false) n).length ((AM.mkL (fun k => N.getD k false) n).map (Value.int .i64)) ∧ Below w1.heap.size w1 w' := by
  by_cases h0 : n = 0
  ·subst h0
   refine (marked_zero A1 c1 w1).mono ?_
   rintro e w' ⟨rfl, rfl⟩
   exact ⟨_, rfl, ⟨rfl, .inl ⟨rfl, rfl⟩⟩, Below.refl _ _⟩
  ·obtain ⟨g, cap, e, hg1, hg2⟩ := hown.form (by omega)
   cases e
   exact marked_any g 0 n _ (fun j => N.getD j false) w1 hn hg2 fun j hj => by
    rw [Nat.zero_add, hown.cellAt _ (by omega)]; exact getD_map_bool (by omega)
 go_wp2
 go_loopw [8] (fun i wr => i = .int .i64 0 ∧ wr = w1) (fun i _ => 0)
 case atStart => exact ⟨rfl, rfl⟩
 case round =>
  obtain ⟨rfl, rfl⟩ := hrel
  go_wp2_with fail
  refine hc1.mono ?_
  rintro e w2 ⟨v2, rfl, ho2, hb2⟩
  clear hc1
  have hc2 := marked_zero AB cm w2
  go_wp2_with fail
  refine hc2.mono ?_
  rintro e w3 ⟨rfl, rfl⟩
  clear hc2
  have hsr := hb1.size
  have hs2 := hb2.size
  have hnx3 : Below (w.heap.size + 1 + 1) wA w3 := hb1.trans (hb2.mono (by omega))
  have hx0 := (hnx3.cell (p := ⟨w.heap.size + 1, 0, none⟩) (by simp)).trans hAx0
  have hx1 := (hnx3.cell (p := ⟨w.heap.size + 1, 1, none⟩) (by simp)).trans hAx1
  have hz0' := (hnx3.frozen (p := ⟨w.heap.size + 1, 0, none⟩) (by simp)).trans hAz0
  have hz1' := (hnx3.frozen (p := ⟨w.heap.size + 1, 1, none⟩) (by simp)).trans hAz1
  have ho2' := owns_mono (base' := w.heap.size + 1 + 1) ho2 (by omega)
  have hB3 : Below w.heap.size w w3 := hA.trans (hnx3.mono (by omega))
  clear hown hb1 ho2 hb2 hnx3
  obtain ⟨A2, c2, rfl⟩ := owns_slice ho2'
  go_wp2
  refine bodyPost_ret (by simp [results, Tryz.results199, go_sem, hx0, hx1, hz0', hz1']; try rfl) rfl ?_
  exact ⟨_, _, rfl, owns_mono (owns_setCell (owns_setCell ho2' (by simp) _) (by simp) _) (by omega), ⟨rfl, .inl ⟨rfl, rfl⟩⟩, (hB3.setCell (by simp) _).setCell (by simp) _⟩
end Go.Proofs.YtfgcpmeadeehhaaGreat.kt
namespace Go.AM
open Go Go.Proofs
def withinB (n most : Int) : Bool := decide (0 ≤ n) && decide (n ≤ most)
def fitsB (e : E) (nodes : Int) : Bool := withinB e.ty 99 && (withinB e.fr (nodes - 1) && withinB e.to (nodes - 1))
theorem within_c (n most : Int) (tok : Tks) (nt : Nat) : DCall Tryz.prog 116 [I n, I most] tok nt (B (withinB n most)) tok nt := by
 intro box nb
 refine sB Tryz.func116 Tryz.ntmps116 ?_
 intro hbox htok
 simp only at hbox htok
 apply AL.start
 refine sR ?_
 simp
 refine sR ?_
 simp
 first | refine Gd.dt (fun h => ?_) (fun h => ?_) | refine Gd.df (fun h => ?_) (fun h => ?_) | refine Gd.t (fun h => ?_) (fun h => ?_) | refine Gd.f (fun h => ?_) (fun h => ?_)
 ·simp [h]
  refine sT ?_
  try simp only [AU]
  refine ⟨by simp, sF hbox htok (fun _ h => h) (Nat.le_refl _) ?_⟩
  simp [packA, withinB, h]
 ·simp [h]
  refine sT ?_
  try simp only [AU]
  refine ⟨by simp, sF hbox htok (fun _ h => h) (Nat.le_refl _) ?_⟩
  simp [packA, withinB, h]
theorem fits_c (e : E) (nodes : Int) (h0 : 0 ≤ nodes) (h1 : nodes ≤ 1000000) (tok : Tks) (nt : Nat) : DCall Tryz.prog 119 [.agg [I e.ty, I e.fr, I e.to], I nodes] tok nt (B (fitsB e nodes)) tok nt := by
 intro box nb
 have hw : IntKind.i64.wrap (nodes - 1) = nodes - 1 := wrap_in (by omega) (by omega)
 refine sB Tryz.func119 Tryz.ntmps119 ?_
 intro hbox htok
 simp only at hbox htok
 apply AL.start
 refine sR ?_
 simp
 refine sR ?_
 simp [hw]
 refine Stop.of_d (within_c _ _ _ _) ?_
 simp [hw]
 first | refine Gd.dt (fun h2 => ?_) (fun h2 => ?_) | refine Gd.df (fun h2 => ?_) (fun h2 => ?_) | refine Gd.t (fun h2 => ?_) (fun h2 => ?_) | refine Gd.f (fun h2 => ?_) (fun h2 => ?_)
 ·simp [hw, h2]
  refine Stop.of_d (within_c _ _ _ _) ?_
  simp [hw, h2]
  first | refine Gd.dt (fun h3 => ?_) (fun h3 => ?_) | refine Gd.df (fun h3 => ?_) (fun h3 => ?_) | refine Gd.t (fun h3 => ?_) (fun h3 => ?_) | refine Gd.f (fun h3 => ?_) (fun h3 => ?_)
  ·simp [hw, h3]
   refine Stop.of_d (within_c _ _ _ _) ?_
   simp [hw, h2, h3]
   refine sT ?_
   try simp only [AU]
   refine ⟨by simp, sF hbox htok (fun _ h => h) (Nat.le_refl _) ?_⟩
   simp [packA, fitsB, h2, h3]
  ·simp [h3]
   refine sT ?_
   try simp only [AU]
   refine ⟨by simp, sF hbox htok (fun _ h => h) (Nat.le_refl _) ?_⟩
   simp [packA, fitsB, h2, h3]
 ·simp [h2]
  refine sT ?_
  try simp only [AU]
  refine ⟨by simp, sF hbox htok (fun _ h => h) (Nat.le_refl _) ?_⟩
  simp [packA, fitsB, h2]
theorem valid1_c (n : Int) (tok : Tks) (nt : Nat) : DCall Tryz.prog 115 [I n] tok nt (B (!withinB n 99)) tok nt := by
 intro box nb
 refine sB Tryz.func115 Tryz.ntmps115 ?_
 intro hbox htok
 simp only at hbox htok
 apply AL.start
 refine sR ?_
 simp
 refine sR ?_
 simp
 refine Stop.of_d (within_c _ _ _ _) ?_
 simp
 refine sT ?_
 try simp only [AU]
 refine ⟨by simp, sF hbox htok (fun _ h => h) (Nat.le_refl _) ?_⟩
 simp [packA]
theorem valid2_c (e : E) (g : Gr) (hg : g.nodes.length ≤ 1000000) (tok : Tks) (nt : Nat) (box : Bxs) (nb k : Nat) (hk : box k = some [[.d (ints g.nodes), .d (AM.edges g.edges)]]) :
  ACalls Tryz.prog 118 [.agg [I e.ty, I e.fr, I e.to], .ptr k 0 0] ⟨box, nb, tok, nt⟩ fun v m => v = B (!fitsB e g.nodes.length) ∧ m = ⟨box, nb, tok, nt⟩ := by
 refine sB Tryz.func118 Tryz.ntmps118 ?_
 intro hbox htok
 simp only at hbox htok
 apply AL.start
 have hkn := key_lt hbox hk
 refine sR ?_
 simp
 refine sR ?_
 simp [lb_out hkn, hk]
 refine Stop.of_d (fits_c e g.nodes.length (by omega) (by omega) _ _) ?_
 simp
 refine sT ?_
 try simp only [AU]
 refine ⟨by simp, sF hbox htok (fun _ h => h) (Nat.le_refl _) ?_⟩
 simp [packA]
end Go.AM
namespace Go.AM
open Go
variable {P : Program}
def RowTo (p q : Nat → Prop) (fz : Option (Nat × Nat × List (List D))) (r r' : List AV) : Prop :=
 r.length = r'.length ∧ ∀ j (g1 : j < r.length) (g2 : j < r'.length), To p q fz r[j] r'[j]
section
variable {p q : Nat → Prop} {fz : Option (Nat × Nat × List (List D))}
@[simp] theorem rowTo_nil : RowTo p q fz [] [] := ⟨rfl, fun j h => by simp at h⟩
@[simp] theorem rowTo_cons {x y : AV} {xs ys : List AV} : RowTo p q fz (x :: xs) (y :: ys) ↔ To p q fz x y ∧ RowTo p q fz xs ys := by
 constructor
 ·rintro ⟨h1, h2⟩
  refine ⟨h2 0 (by simp) (by simp), by simpa using h1, fun j g1 g2 => ?_⟩
  exact h2 (j + 1) (by simpa using g1) (by simpa using g2)
 ·rintro ⟨h1, h2, h3⟩
  refine ⟨by simp [h2], fun j g1 g2 => ?_⟩
  cases j with
  | zero => exact h1
  | succ j => exact h3 j (by simpa using g1) (by simpa using g2)
@[simp] theorem rowsTo_nil : RowsTo p q fz [] [] := ⟨rfl, fun j h => by simp at h⟩
@[simp] theorem rowsTo_cons {x y : List AV} {xs ys : List (List AV)} : RowsTo p q fz (x :: xs) (y :: ys) ↔ RowTo p q fz x y ∧ RowsTo p q fz xs ys := by
 constructor
 ·rintro ⟨h1, h2⟩
  refine ⟨h2 0 (by simp) (by simp), by simpa using h1, fun j g1 g2 => ?_⟩
  exact h2 (j + 1) (by simpa using g1) (by simpa using g2)
 ·rintro ⟨h1, h2, h3⟩
  refine ⟨by simp [h2], fun j g1 g2 => ?_⟩
  cases j with
  | zero => exact h1
  | succ j => exact h3 j (by simpa using g1) (by simpa using g2)
theorem rowsTo_same {rows : List (List AV)} (h : ∀ r ∈ rows, ∀ x ∈ r, OkIn p q x) : RowsTo p q fz rows rows :=
 ⟨rfl, fun i h1 h2 => ⟨rfl, fun j g1 g2 => .same (h _ (List.getElem_mem _) _ (List.getElem_mem _))⟩⟩
end
def rowsD (es : List (List D)) : List (List AV) := es.map fun e => e.map AV.d
@[simp] theorem rowsD_length (es : List (List D)) : (rowsD es).length = es.length := by simp [rowsD]
@[simp] theorem rowsD_get {es : List (List D)} {i : Nat} (h : i < es.length) : (rowsD es)[i]? = some ((es[i]).map AV.d) := by simp [rowsD, h]
@[simp] theorem rowsTo_D {p q : Nat → Prop} {fz : Option (Nat × Nat × List (List D))} (es : List (List D)) : RowsTo p q fz (rowsD es) (rowsD es) := by
 refine rowsTo_same fun r hr x hx => ?_
 obtain ⟨e, _, rfl⟩ := List.mem_map.1 hr
 obtain ⟨d, _, rfl⟩ := List.mem_map.1 hx
 exact .d
abbrev rI (xs : List Int) : List (List D) := xs.map fun n => [D.raw (.int .i64 n)]
abbrev rE (es : List E) : List (List D) := es.map E.cells
def rowsI (xs : List Int) : List (List AV) := xs.map fun n => [AV.d (.raw (.int .i64 n))]
def rowsE (xs : List E) : List (List AV) := xs.map fun e => [AV.d (.raw (.int .i64 e.ty)), AV.d (.raw (.int .i64 e.fr)), AV.d (.raw (.int .i64 e.to))]
theorem rowsI_eq (xs : List Int) : rowsI xs = rowsD (rI xs) := by simp [rowsI, rowsD, rI]
theorem rowsE_eq (xs : List E) : rowsE xs = rowsD (rE xs) := by simp [rowsE, rowsD, rE, E.cells]
@[simp] theorem rep_rI (n : Nat) : List.replicate n [AV.d (.raw (.int .i64 0))] = rowsI (List.replicate n 0) := by simp [rowsI]
@[simp] theorem rep_rE (n : Nat) : List.replicate n [AV.d (.raw (.int .i64 0)), AV.d (.raw (.int .i64 0)), AV.d (.raw (.int .i64 0))] = rowsE (List.replicate n ⟨0, 0, 0⟩) := by simp [rowsE]
@[simp] theorem set_rI (xs : List Int) (i : Nat) (v : Int) : (rowsI xs).set i [AV.d (.raw (.int .i64 v))] = rowsI (xs.set i v) := by simp [rowsI, List.map_set]
@[simp] theorem set_rE (xs : List E) (i : Nat) (a b c : Int) : (rowsE xs).set i [AV.d (.raw (.int .i64 a)), AV.d (.raw (.int .i64 b)), AV.d (.raw (.int .i64 c))] = rowsE (xs.set i ⟨a, b, c⟩) := by simp [rowsE, List.map_set]
@[simp] theorem rowsI_length (xs : List Int) : (rowsI xs).length = xs.length := by simp [rowsI]
@[simp] theorem rowsE_length (xs : List E) : (rowsE xs).length = xs.length := by simp [rowsE]
@[simp high] theorem rowsI_get {xs : List Int} {i : Nat} (h : i < xs.length) : (rowsI xs)[i]? = some [AV.d (.raw (.int .i64 xs[i]))] := by simp [rowsI, h]
@[simp high] theorem rowsE_get {xs : List E} {i : Nat} (h : i < xs.length) : (rowsE xs)[i]? = some [AV.d (.raw (.int .i64 xs[i].ty)), AV.d (.raw (.int .i64 xs[i].fr)), AV.d (.raw (.int .i64 xs[i].to))] := by simp [rowsE, h]
@[simp] theorem rowsTo_I {p q : Nat → Prop} {fz : Option (Nat × Nat × List (List D))} (xs : List Int) : RowsTo p q fz (rowsI xs) (rowsI xs) := by rw [rowsI_eq]; simp
@[simp] theorem rowsTo_E {p q : Nat → Prop} {fz : Option (Nat × Nat × List (List D))} (xs : List E) : RowsTo p q fz (rowsE xs) (rowsE xs) := by rw [rowsE_eq]; simp
theorem toDs_map : ∀ (e : List D), toDs (e.map AV.d) = some e
 | [] => rfl
 | d :: e => by simp [toDs, AV.toD, toDs_map e]
theorem Weaks.frz {cx : Cx} {nt0 nt : Nat} {l l' : List (Nat × AV)} {out : Bxs} {loc loc' : List (Nat × List (List AV))} {tok : Nat → Bool} (s sz : Nat) (es : List (List D)) (hnt : nt0 ≤ nt) (ho : out = cx.B0)
  (hs : lk loc s = some (rowsD es)) (hs' : lk loc' s = none) (hsz : ∀ e ∈ es, e.length = sz)
  (hl : ToL (fun k => lb cx.base out loc' k ≠ none) (fun _ => True) (some (cx.base + s, sz, es)) l l') (hb : BoxL (fun k => lb cx.base out loc' k ≠ none) (fun _ => True) (some (cx.base + s, sz, es)) loc loc') :
  Weaks cx nt0 ⟨tl l, lb cx.base out loc, tok, nt⟩ ⟨tl l', lb cx.base out loc', tok, nt⟩ := by
 refine ⟨out, loc, loc', some (s, sz, es), rfl, rfl, Nat.le_refl _, hnt, fun t h => ⟨h, .inl rfl⟩, ?_, ?_, ?_, ?_⟩
 ·simp only [true_or, Option.map_some]; exact hl.all
 ·simp only [true_or, Option.map_some]; exact hb.all
 ·rintro s' sz' es' h
  cases h
  refine ⟨hs', rowsD es, hs, by simp, ?_, ?_⟩
  ·intro r hr
   obtain ⟨e, he, rfl⟩ := List.mem_map.1 hr
   simpa using hsz e he
  ·intro i h1 h2
   have : (rowsD es)[i] = (es[i]).map AV.d := by simp [rowsD]
   rw [this]
   exact toDs_map _
 ·intro k rows _ h
  exact .inl (by rw [← ho]; exact h)
@[simp] theorem to_frz {p q : Nat → Prop} {k n sz : Nat} {es : List (List D)} (h : n = es.length) : To p q (some (k, sz, es)) (.msl k 0 n sz) (.d (.sl sz es)) := by
 subst h
 exact .frz rfl
theorem Fin.gen {cx : Cx} {nt0 nt nt' : Nat} {rs : List ResultVar} {l : List (Nat × AV)} {out : Bxs} {loc : List (Nat × List (List AV))} {tok tok' : Nat → Bool} {vs : List AV} {av : AV}
  (hres : resAs P ⟨tl l, lb cx.base out loc, tok, nt⟩ rs = some vs) (hbox : lb cx.base out [] = out) (h0 : nt0 ≤ nt') (hnt : nt' ≤ nt) (htok : ∀ t, tok' t = true → tok t = true ∧ (nt' = nt ∨ t < nt'))
  (ho : ∀ k rows, k < cx.base → out k = some rows → cx.B0 k = some rows ∨ ∀ r ∈ rows, ∀ x ∈ r, OkIn (fun k => lb cx.base out [] k ≠ none) (fun t => nt' = nt ∨ t < nt') x)
  (hto : To (fun k => lb cx.base out [] k ≠ none) (fun t => nt' = nt ∨ t < nt') none (packA vs) av) : Fin P cx nt0 rs (fun v' m' => v' = av ∧ m' = ⟨out, cx.base, tok', nt'⟩) ⟨tl l, lb cx.base out loc, tok, nt⟩ :=
 ⟨vs, out, loc, none, av, ⟨out, cx.base, tok', nt'⟩, hres, ⟨rfl, rfl, hnt, h0, htok, fun _ => .bot, fun s rows' h => by simp [lk] at h, (fun _ _ _ h => by cases h),
  ho⟩, hbox.symm, rfl, by simpa using hto, rfl, rfl⟩
theorem Fin.own {cx : Cx} {nt0 nt : Nat} {rs : List ResultVar} {l : List (Nat × AV)} {out : Bxs} {loc : List (Nat × List (List AV))} {tok : Nat → Bool} {vs : List AV} {av : AV}
  (hres : resAs P ⟨tl l, lb cx.base out loc, tok, nt⟩ rs = some vs) (hbox : lb cx.base out [] = out) (ho : out = cx.B0) (hnt : nt0 ≤ nt)
  (hto : To (fun k => lb cx.base out [] k ≠ none) (fun _ => True) none (packA vs) av) : Fin P cx nt0 rs (fun v' m' => v' = av ∧ m' = ⟨out, cx.base, tok, nt⟩) ⟨tl l, lb cx.base out loc, tok, nt⟩ :=
 Fin.gen hres hbox hnt (Nat.le_refl _) (fun t h => ⟨h, .inl rfl⟩) (fun k rows _ h => .inl (by rw [← ho]; exact h)) (by simpa using hto)
theorem Ext.lb {box box' : Bxs} {nb : Nat} (h : Ext box box') (hb : lb nb box' [] = box') (loc : List (Nat × List (List AV))) : Ext box (AM.lb nb box' loc) := fun k r hk => by
 have h1 := h k r hk
 rw [lb_out (key_lt hb h1)]
 exact h1
theorem OkIn.mono {p p' q q' : Nat → Prop} (hp : ∀ k, p k → p' k) (hq : ∀ k, q k → q' k) {x : AV} (h : OkIn p q x) : OkIn p' q' x := by
 induction h with
 | bot => exact .bot
 | d => exact .d
 | osl h => exact .osl fun t e => hq _ (h t e)
 | cptr => exact .cptr
 | ptr h => exact .ptr (hp _ h)
 | here h => exact .here (hp _ h)
 | buf h => exact .buf (hq _ h)
 | msl h => exact .msl (hp _ h)
 | fn h ih => exact .fn ih
 | agg h ih => exact .agg ih
 | tup h ih => exact .tup ih
 | ex h => exact .ex (hq _ h)
theorem okFn {box : Bxs} {nb : Nat} {caps : List AV} (h : ∀ c ∈ caps, OkIn (fun k => box k ≠ none) (fun _ => True) c) (hb : lb nb box [] = box) (loc : List (Nat × List (List AV))) {p q : Nat → Prop}
  (hp : p = fun k => lb nb box loc k ≠ none) (hq : q = fun _ => True) (f : Fn) : OkIn p q (.fn f caps) := by
 subst hp; subst hq
 refine .fn fun c hc => (h c hc).mono (fun k hk => ?_) fun _ h => h
 obtain ⟨r, hr⟩ := Option.ne_none_iff_exists'.1 hk
 rw [lb_out (key_lt hb hr), hr]
 simp
theorem Fin.mono {cx : Cx} {nt0 : Nat} {rs : List ResultVar} {Q Q' : AV → AMem → Prop} {S : AState} (h : Fin P cx nt0 rs Q S) (hq : ∀ v m, Q v m → Q' v m) : Fin P cx nt0 rs Q' S := by
 obtain ⟨vs, out, loc, fz, av, m', h1, h2, h3, h4, h5, h6⟩ := h
 exact ⟨vs, out, loc, fz, av, m', h1, h2, h3, h4, h5, hq _ _ h6⟩
def Conv (v : AV) (m : AMem) (v' : AV) (m' : AMem) : Prop := m'.nb = m.nb ∧ m'.box = m.box ∧ ∀ G w u, RelM G m w → RV G w v u → ∃ G', RelM G' m' w ∧ RV G' w v' u ∧ Le G w G' w ∧ ∀ k, G.bx k = none → G'.bx k = none
theorem Conv.refl (v : AV) (m : AMem) : Conv v m v m := ⟨rfl, rfl, fun G w u h1 h2 => ⟨G, h1, h2, Le.refl G w, fun _ h => h⟩⟩
theorem Conv.newtok (sz sz' : Nat) (box : Bxs) (nb : Nat) (tok : Tks) (nt : Nat) : Conv (.osl sz [] .full) ⟨box, nb, tok, nt⟩ (.osl sz' [] (.tok nt)) ⟨box, nb, upd tok nt true, nt + 1⟩ := by
 refine ⟨rfl, rfl, fun G w u hm hv => ⟨G.newtok none, hm.newtok none (fun g h => by cases h), ?_, Le.newtok none, fun k h => h⟩⟩
 have hnt : G.nt = nt := hm.nt
 cases hv with
 | osl h ho =>
  cases h with
  | sl u hcap hmax hsz hA hc hr =>
   refine .osl (.sl (fun _ _ => default) hcap hmax (by simp) (by simp) (fun a _ i j hi _ => by simp at hi) (fun i j hi _ => by simp at hi)) ⟨by simp [Gh.newtok, hnt], fun x hx => ?_⟩
   simp only [Gh.newtok, hnt, upd_same, Option.some.injEq] at hx
   subst hx
   exact ho
theorem ACalls.conv {f : FuncId} {args : List AV} {m : AMem} {Q Q' : AV → AMem → Prop} (h : ACalls P f args m Q) (hq : ∀ v m1, Q v m1 → ∃ v' m', Conv v m1 v' m' ∧ Q' v' m') : ACalls P f args m Q' :=
 ⟨h.1, fun G w vals hm hr => (h.2 G w vals hm hr).mono fun e w' ⟨v, av, m1, G1, h1, h2, h3, h4, h5, h6, h7⟩ => by
  obtain ⟨v', m', ⟨c1, c2, c3⟩, hq'⟩ := hq _ _ h2
  obtain ⟨G2, k1, k2, k3, k4⟩ := c3 G1 w' v h4 h5
  exact ⟨v, v', m', G2, h1, hq', c1.trans h3, k1, k2, h6.trans k3, fun k hk => ⟨k4 k (h7 k hk).1, by rw [c2]; exact (h7 k hk).2⟩⟩⟩
attribute [simp] intsOf convF
end Go.AM
namespace Go.AM
open Go Go.Proofs
theorem clone_c (xs : List Int) (hx : xs.length ≤ 1000000) (tok : Tks) (nt : Nat) : DCall Tryz.prog 58 [.d (ints xs)] tok nt (.osl 1 (rI xs) (.tok nt)) (upd tok nt true) (nt + 1) := by
 intro box nb
 have main : ACalls Tryz.prog 58 [.d (ints xs)] ⟨box, nb, tok, nt⟩ fun v m => (v = .osl 1 (rI xs) (.tok nt) ∧ m = ⟨box, nb, upd tok nt true, nt + 1⟩) ∨ (xs = [] ∧ v = .osl 0 [] .full ∧ m = ⟨box, nb, tok, nt⟩) := by
  refine sB Tryz.func58 Tryz.ntmps58 ?_
  intro hbox htok
  simp only at hbox htok
  apply AL.start
  refine sR ?_
  simp
  refine sR ?_
  simp
  refine ⟨?_, fun h => ?_⟩
  ·refine sC ?_
   simp
   refine sR ?_
   simp
   refine ⟨by omega, ?_⟩
   refine sN ?_
   refine AL.ret ?_
   try simp only [AU]
   refine ⟨by simp, (Fin.own (by simp [resAs, resA]; rfl) hbox rfl (by simp) ?_).mono fun v m hq => .inl hq⟩
   simp [packA]
  ·refine sC ?_
   simp
   refine sR ?_
   simp
   refine sN ?_
   refine AL.ret ?_
   try simp only [AU]
   refine ⟨by simp, (Fin.own (by simp [resAs, resA]; rfl) hbox rfl (Nat.le_refl _) ?_).mono fun v m hq => .inr ⟨h, hq.1, hq.2⟩⟩
   simp [packA]
 refine main.conv fun v m h => ?_
 rcases h with ⟨rfl, rfl⟩ | ⟨rfl, rfl, rfl⟩
 ·exact ⟨_, _, Conv.refl _ _, rfl, rfl⟩
 ·exact ⟨_, _, Conv.newtok 0 1 box nb tok nt, rfl, rfl⟩
theorem cloneE_c (xs : List E) (hx : xs.length ≤ 1000000) (tok : Tks) (nt : Nat) : DCall Tryz.prog 113 [.d (AM.edges xs)] tok nt (.osl 3 (rE xs) (.tok nt)) (upd tok nt true) (nt + 1) := by
 intro box nb
 have main : ACalls Tryz.prog 113 [.d (AM.edges xs)] ⟨box, nb, tok, nt⟩ fun v m => (v = .osl 3 (rE xs) (.tok nt) ∧ m = ⟨box, nb, upd tok nt true, nt + 1⟩) ∨ (xs = [] ∧ v = .osl 0 [] .full ∧ m = ⟨box, nb, tok, nt⟩) := by
  refine sB Tryz.func113 Tryz.ntmps113 ?_
  intro hbox htok
  simp only at hbox htok
  apply AL.start
  refine sR ?_
  simp
  refine sR ?_
  simp
  refine ⟨?_, fun h => ?_⟩
  ·refine sC ?_
   simp
   refine sR ?_
   simp
   refine ⟨by omega, ?_⟩
   refine sN ?_
   refine AL.ret ?_
   try simp only [AU]
   refine ⟨by simp, (Fin.own (by simp [resAs, resA]; rfl) hbox rfl (by simp) ?_).mono fun v m hq => .inl hq⟩
   simp [packA]
  ·refine sC ?_
   simp
   refine sR ?_
   simp
   refine sN ?_
   refine AL.ret ?_
   try simp only [AU]
   refine ⟨by simp, (Fin.own (by simp [resAs, resA]; rfl) hbox rfl (Nat.le_refl _) ?_).mono fun v m hq => .inr ⟨h, hq.1, hq.2⟩⟩
   simp [packA]
 refine main.conv fun v m h => ?_
 rcases h with ⟨rfl, rfl⟩ | ⟨rfl, rfl, rfl⟩
 ·exact ⟨_, _, Conv.refl _ _, rfl, rfl⟩
 ·exact ⟨_, _, Conv.newtok 0 3 box nb tok nt, rfl, rfl⟩
def indexI (xs : List Int) (v : Int) : Int := if v ∈ xs then (xs.idxOf v : Int) else -1
def st66 (xs : List Int) (v : Int) (nb : Nat) (box : Bxs) (tok : Tks) (nt : Nat) (i : Nat) : AState := ⟨tl [(0, .d (ints xs)), (1, I v), (7, I xs.length), (8, I i)], lb nb box [], tok, nt⟩
theorem index_c (xs : List Int) (v : Int) (hx : xs.length ≤ 1000000) (tok : Tks) (nt : Nat) : DCall Tryz.prog 110 [.d (ints xs), I v] tok nt (I (indexI xs v)) tok nt := by
 intro box nb
 refine sB Tryz.func110 Tryz.ntmps110 ?_
 intro hbox htok
 simp only at hbox htok
 apply AL.start
 refine sR ?_
 simp
 refine sR ?_
 simp
 refine sN ?_
 refine AL.loopT (st66 xs v nb box tok nt) (fun i => i ≤ xs.length ∧ v ∉ xs.take i) (fun i => xs.length - i) 0 ⟨Nat.zero_le _, by simp⟩ (Weaks.mk (Nat.le_refl _) rfl (by simp [ToL]) trivial) ?_
 rintro i S ⟨hi, htk⟩ hS
 simp only [st66] at hS
 subst hS
 have hw := sW (i := i) (by omega)
 refine sR ?_
 simp
 refine sC ?_
 simp
 refine ⟨fun hlt => ?_, fun hge => ?_⟩
 ·have hsp : xs = xs.take i ++ xs[i] :: xs.drop (i + 1) := by simp
  refine sR ?_
  simp
  refine sR ?_
  simp [hlt]
  refine sC ?_
  simp
  refine ⟨fun he => ?_, fun hne => ?_⟩
  ·refine sR ?_
   simp
   have hmem : v ∈ xs := by rw [he]; exact List.getElem_mem _
   have hid : xs.idxOf v = i := by
    unfold List.idxOf
    rw [List.findIdx_eq hlt]
    refine ⟨by simp [he], fun j hj => ?_⟩
    have : xs[j] ≠ v := fun e => htk (by rw [← e, List.mem_take_iff_getElem]; exact ⟨j, by omega, rfl⟩)
    simpa using this
   refine sT ?_
   try simp only [AU]
   refine ⟨by simp, sF hbox htok (fun _ h => h) (Nat.le_refl _) ?_⟩
   simp [packA, indexI, hmem, hid]
  ·refine sR ?_
   simp [hw]
   refine sE ?_
   refine ⟨i + 1, ⟨hlt, ?_⟩, by omega, Weaks.mk (Nat.le_refl _) rfl (by simp [ToL]) trivial⟩
   rw [List.take_succ_eq_append_getElem hlt]
   simp only [List.mem_append, List.mem_singleton, not_or]
   exact ⟨htk, hne⟩
 ·refine sX ?_
  simp only [AU, ↓reduceIte]
  refine sR ?_
  simp
  have hn : v ∉ xs := by rwa [List.take_of_length_le hge] at htk
  refine sT ?_
  try simp only [AU]
  refine ⟨by simp, sF hbox htok (fun _ h => h) (Nat.le_refl _) ?_⟩
  simp [packA, indexI, hn]
theorem indexI_nonneg (xs : List Int) (v : Int) : (0 ≤ indexI xs v) ↔ v ∈ xs := by
 unfold indexI
 split <;> simp [*]
theorem contains_c (xs : List Int) (v : Int) (hx : xs.length ≤ 1000000) (tok : Tks) (nt : Nat) : DCall Tryz.prog 55 [.d (ints xs), I v] tok nt (B (decide (v ∈ xs))) tok nt := by
 intro box nb
 refine sB Tryz.func55 Tryz.ntmps55 ?_
 intro hbox htok
 simp only at hbox htok
 apply AL.start
 refine sR ?_
 simp
 refine sR ?_
 simp
 refine Stop.of_d (index_c xs v hx _ _) ?_
 simp
 refine sT ?_
 try simp only [AU]
 refine ⟨by simp, sF hbox htok (fun _ h => h) (Nat.le_refl _) ?_⟩
 simp [packA, indexI_nonneg]
def findI {α : Type} (p : α → Bool) (xs : List α) : Int := if xs.any p then (xs.findIdx p : Int) else -1
def anyB {α : Type} (p : α → Bool) (xs : List α) : Bool := xs.any p
theorem findI_nonneg {α : Type} (p : α → Bool) (xs : List α) : (0 ≤ findI p xs) ↔ xs.any p = true := by
 unfold findI
 split <;> simp [*]
theorem any_take {α : Type} {p : α → Bool} {xs : List α} {i : Nat} (h : i < xs.length) (h1 : ∀ x ∈ xs.take i, p x = false) (h2 : p xs[i] = true) : xs.any p = true ∧ xs.findIdx p = i := by
 have hany : xs.any p = true := List.any_eq_true.2 ⟨_, List.getElem_mem h, h2⟩
 refine ⟨hany, ?_⟩
 rw [List.findIdx_eq h]
 refine ⟨h2, fun j hj => ?_⟩
 have := h1 xs[j] (by
  rw [List.mem_take_iff_getElem]
  exact ⟨j, by omega, rfl⟩)
 simpa using this
def st96 (xs : List Int) (f : FuncId) (caps : List AV) (nb : Nat) (box : Bxs) (tok : Tks) (nt : Nat) (i : Nat) : AState := ⟨tl [(0, .d (ints xs)), (1, .fn (.func f) caps), (7, I xs.length), (8, I i)], lb nb box [], tok, nt⟩
theorem indexFunc_c (xs : List Int) (f : FuncId) (caps : List AV) (p : Int → Bool) (hx : xs.length ≤ 1000000) (box : Bxs) (nb : Nat) (tok : Tks) (nt : Nat) (hc : ∀ c ∈ caps, OkIn (fun k => box k ≠ none) (fun _ => True) c)
  (hf : ∀ x ∈ xs, ∀ box' nb', Ext box box' → ACalls Tryz.prog f (I x :: caps) ⟨box', nb', tok, nt⟩ fun v m => v = B (p x) ∧ m = ⟨box', nb', tok, nt⟩) :
  ACalls Tryz.prog 175 [.d (ints xs), .fn (.func f) caps] ⟨box, nb, tok, nt⟩ fun v m => v = I (findI p xs) ∧ m = ⟨box, nb, tok, nt⟩ := by
 refine sB Tryz.func175 Tryz.ntmps175 ?_
 intro hbox htok
 simp only at hbox htok
 apply AL.start
 refine sR ?_
 simp
 refine sR ?_
 simp
 refine sN ?_
 refine AL.loopT (st96 xs f caps nb box tok nt) (fun i => i ≤ xs.length ∧ ∀ x ∈ xs.take i, p x = false) (fun i => xs.length - i) 0 ⟨Nat.zero_le _, by simp⟩ (Weaks.mk (Nat.le_refl _) rfl (by simp [ToL]; exact .same (okFn hc hbox [] (by simp) rfl _)) trivial) ?_
 rintro i S ⟨hi, htk⟩ hS
 simp only [st96] at hS
 subst hS
 have hw := sW (i := i) (by omega)
 refine sR ?_
 simp
 refine sC ?_
 simp
 refine ⟨fun hlt => ?_, fun hge => ?_⟩
 ·refine sR ?_
  simp
  refine sR ?_
  simp [hlt]
  refine Stop.of_b (hf xs[i] (List.getElem_mem _) _ _ ((Ext.refl box).lb hbox [])) ?_
  simp
  refine sC ?_
  simp
  refine ⟨fun he => ?_, fun hne => ?_⟩
  ·refine sR ?_
   simp
   obtain ⟨h1, h2⟩ := any_take hlt htk he
   refine sT ?_
   try simp only [AU]
   refine ⟨by simp, sF hbox htok (fun _ h => h) (Nat.le_refl _) ?_⟩
   simp [packA, findI, h1, h2]
  ·refine sR ?_
   simp [hw]
   refine sE ?_
   refine ⟨i + 1, ⟨hlt, ?_⟩, by omega, Weaks.mk (Nat.le_refl _) rfl (by simp [ToL]; exact .same (okFn hc hbox [] (by simp) rfl _)) trivial⟩
   rw [List.take_succ_eq_append_getElem hlt]
   intro x hx
   rcases List.mem_append.1 hx with hx | hx
   ·exact htk x hx
   ·simp at hx; rw [hx]; exact hne
 ·refine sX ?_
  simp only [AU, ↓reduceIte]
  refine sR ?_
  simp
  have hn : xs.any p = false := by
   rw [List.take_of_length_le hge] at htk
   simpa using htk
  refine sT ?_
  try simp only [AU]
  refine ⟨by simp, sF hbox htok (fun _ h => h) (Nat.le_refl _) ?_⟩
  simp [packA, findI, hn]
theorem containsFunc_c (xs : List Int) (f : FuncId) (caps : List AV) (p : Int → Bool) (hx : xs.length ≤ 1000000) (box : Bxs) (nb : Nat) (tok : Tks) (nt : Nat) (hc : ∀ c ∈ caps, OkIn (fun k => box k ≠ none) (fun _ => True) c)
  (hf : ∀ x ∈ xs, ∀ box' nb', Ext box box' → ACalls Tryz.prog f (I x :: caps) ⟨box', nb', tok, nt⟩ fun v m => v = B (p x) ∧ m = ⟨box', nb', tok, nt⟩) :
  ACalls Tryz.prog 114 [.d (ints xs), .fn (.func f) caps] ⟨box, nb, tok, nt⟩ fun v m => v = B (anyB p xs) ∧ m = ⟨box, nb, tok, nt⟩ := by
 refine sB Tryz.func114 Tryz.ntmps114 ?_
 intro hbox htok
 simp only at hbox htok
 apply AL.start
 refine sR ?_
 simp
 refine sR ?_
 simp
 refine Stop.of_b (indexFunc_c xs f caps p hx (lb nb box []) _ _ _ (fun c h => (hc c h).mono (fun k hk => by rw [hbox]; exact hk) fun _ h => h) (fun x hx' box' nb' he => hf x hx' box' nb' (by rw [hbox] at he; exact he))) ?_
 simp
 have hany : decide (∃ x, x ∈ xs ∧ p x = true) = anyB p xs := by rw [Bool.eq_iff_iff]; simp [anyB]
 refine sT ?_
 try simp only [AU]
 refine ⟨by simp, sF hbox htok (fun _ h => h) (Nat.le_refl _) ?_⟩
 simp [packA, findI_nonneg, hany]
def st97 (xs : List E) (f : FuncId) (caps : List AV) (nb : Nat) (box : Bxs) (tok : Tks) (nt : Nat) (i : Nat) : AState := ⟨tl [(0, .d (AM.edges xs)), (1, .fn (.func f) caps), (7, I xs.length), (8, I i)], lb nb box [], tok, nt⟩
theorem indexFuncE_c (xs : List E) (f : FuncId) (caps : List AV) (p : E → Bool) (hx : xs.length ≤ 1000000) (box : Bxs) (nb : Nat) (tok : Tks) (nt : Nat) (hc : ∀ c ∈ caps, OkIn (fun k => box k ≠ none) (fun _ => True) c)
  (hf : ∀ x ∈ xs, ∀ box' nb', Ext box box' → ACalls Tryz.prog f (.agg [I x.ty, I x.fr, I x.to] :: caps) ⟨box', nb', tok, nt⟩ fun v m => v = B (p x) ∧ m = ⟨box', nb', tok, nt⟩) :
  ACalls Tryz.prog 176 [.d (AM.edges xs), .fn (.func f) caps] ⟨box, nb, tok, nt⟩ fun v m => v = I (findI p xs) ∧ m = ⟨box, nb, tok, nt⟩ := by
 refine sB Tryz.func176 Tryz.ntmps176 ?_
 intro hbox htok
 simp only at hbox htok
 apply AL.start
 refine sR ?_
 simp
 refine sR ?_
 simp
 refine sN ?_
 refine AL.loopT (st97 xs f caps nb box tok nt) (fun i => i ≤ xs.length ∧ ∀ x ∈ xs.take i, p x = false) (fun i => xs.length - i) 0 ⟨Nat.zero_le _, by simp⟩ (Weaks.mk (Nat.le_refl _) rfl (by simp [ToL]; exact .same (okFn hc hbox [] (by simp) rfl _)) trivial) ?_
 rintro i S ⟨hi, htk⟩ hS
 simp only [st97] at hS
 subst hS
 have hw := sW (i := i) (by omega)
 refine sR ?_
 simp
 refine sC ?_
 simp
 refine ⟨fun hlt => ?_, fun hge => ?_⟩
 ·refine sR ?_
  simp
  refine sR ?_
  simp [hlt]
  refine Stop.of_b (hf xs[i] (List.getElem_mem _) _ _ ((Ext.refl box).lb hbox [])) ?_
  simp
  refine sC ?_
  simp
  refine ⟨fun he => ?_, fun hne => ?_⟩
  ·refine sR ?_
   simp
   obtain ⟨h1, h2⟩ := any_take hlt htk he
   refine sT ?_
   try simp only [AU]
   refine ⟨by simp, sF hbox htok (fun _ h => h) (Nat.le_refl _) ?_⟩
   simp [packA, findI, h1, h2]
  ·refine sR ?_
   simp [hw]
   refine sE ?_
   refine ⟨i + 1, ⟨hlt, ?_⟩, by omega, Weaks.mk (Nat.le_refl _) rfl (by simp [ToL]; exact .same (okFn hc hbox [] (by simp) rfl _)) trivial⟩
   rw [List.take_succ_eq_append_getElem hlt]
   intro x hx
   rcases List.mem_append.1 hx with hx | hx
   ·exact htk x hx
   ·simp at hx; rw [hx]; exact hne
 ·refine sX ?_
  simp only [AU, ↓reduceIte]
  refine sR ?_
  simp
  have hn : xs.any p = false := by
   rw [List.take_of_length_le hge] at htk
   simpa using htk
  refine sT ?_
  try simp only [AU]
  refine ⟨by simp, sF hbox htok (fun _ h => h) (Nat.le_refl _) ?_⟩
  simp [packA, findI, hn]
theorem containsFuncE_c (xs : List E) (f : FuncId) (caps : List AV) (p : E → Bool) (hx : xs.length ≤ 1000000) (box : Bxs) (nb : Nat) (tok : Tks) (nt : Nat) (hc : ∀ c ∈ caps, OkIn (fun k => box k ≠ none) (fun _ => True) c)
  (hf : ∀ x ∈ xs, ∀ box' nb', Ext box box' → ACalls Tryz.prog f (.agg [I x.ty, I x.fr, I x.to] :: caps) ⟨box', nb', tok, nt⟩ fun v m => v = B (p x) ∧ m = ⟨box', nb', tok, nt⟩) :
  ACalls Tryz.prog 117 [.d (AM.edges xs), .fn (.func f) caps] ⟨box, nb, tok, nt⟩ fun v m => v = B (anyB p xs) ∧ m = ⟨box, nb, tok, nt⟩ := by
 refine sB Tryz.func117 Tryz.ntmps117 ?_
 intro hbox htok
 simp only at hbox htok
 apply AL.start
 refine sR ?_
 simp
 refine sR ?_
 simp
 refine Stop.of_b (indexFuncE_c xs f caps p hx (lb nb box []) _ _ _ (fun c h => (hc c h).mono (fun k hk => by rw [hbox]; exact hk) fun _ h => h) (fun x hx' box' nb' he => hf x hx' box' nb' (by rw [hbox] at he; exact he))) ?_
 simp
 have hany : decide (∃ x, x ∈ xs ∧ p x = true) = anyB p xs := by rw [Bool.eq_iff_iff]; simp [anyB]
 refine sT ?_
 try simp only [AU]
 refine ⟨by simp, sF hbox htok (fun _ h => h) (Nat.le_refl _) ?_⟩
 simp [packA, findI_nonneg, hany]
end Go.AM
namespace Go.AM
open Go Go.Proofs
def validG (g : Gr) : Int := if 40 < g.nodes.length ∨ 80 < g.edges.length then 3 else if anyB (fun n => !withinB n 99) g.nodes then 6 else if anyB (fun e => !fitsB e g.nodes.length) g.edges then 6 else 0
structure Gr.Fit (g : Gr) : Prop where
 n : g.nodes.length ≤ 1000000
 e : g.edges.length ≤ 1000000
theorem graphValid_c (g : Gr) (hg : g.Fit) (tok : Tks) (nt : Nat) : DCall Tryz.prog 57 [g.av] tok nt (I (validG g)) tok nt := by
 intro box nb
 have hn := hg.n
 have he := hg.e
 refine sB Tryz.func57 Tryz.ntmps57 ?_
 intro hbox htok
 simp only at hbox htok
 apply AL.start
 refine sR ?_
 simp
 refine sR ?_
 simp
 first | refine Gd.dt (fun h1 => ?_) (fun h1 => ?_) | refine Gd.df (fun h1 => ?_) (fun h1 => ?_) | refine Gd.t (fun h1 => ?_) (fun h1 => ?_) | refine Gd.f (fun h1 => ?_) (fun h1 => ?_)
 ·simp [h1]
  refine sC ?_
  simp
  refine sR ?_
  simp
  refine sT ?_
  try simp only [AU]
  refine ⟨by simp, sF hbox htok (fun _ h => h) (Nat.le_refl _) ?_⟩
  simp [packA, validG, show 40 < g.nodes.length by omega]
 ·simp [h1]
  refine sC ?_
  simp
  refine ⟨fun h2 => ?_, fun h2 => ?_⟩
  ·refine sR ?_
   simp
   refine sT ?_
   try simp only [AU]
   refine ⟨by simp, sF hbox htok (fun _ h => h) (Nat.le_refl _) ?_⟩
   simp [packA, validG, show 80 < g.edges.length by omega]
  ·have hn1 : ¬ 40 < g.nodes.length := by omega
   have hn2 : ¬ 80 < g.edges.length := by omega
   refine sR ?_
   simp
   refine Stop.of_b (containsFunc_c g.nodes 115 [] (fun n => !withinB n 99) hn _ _ _ _ (by simp) (fun x _ box' nb' _ => valid1_c x _ _ box' nb')) ?_
   simp
   refine sC ?_
   simp
   refine ⟨fun h3 => ?_, fun h3 => ?_⟩
   ·refine sR ?_
    simp
    refine sT ?_
    try simp only [AU]
    refine ⟨by simp, sF hbox htok (fun _ h => h) (Nat.le_refl _) ?_⟩
    simp [packA, validG, hn1, hn2, h3]
   ·refine sR ?_
    simp
    refine Stop.of_b (containsFuncE_c g.edges 118 [.ptr (nb + 1) 0 0] (fun e => !fitsB e g.nodes.length) he _ _ _ _ (by simp [lb_at, lk]) (fun x _ box' nb' hx => valid2_c x g hn _ _ box' nb' (nb + 1) (hx _ _ (by simp [lb_at, lk])))) ?_
    simp
    refine sC ?_
    simp
    refine ⟨fun h4 => ?_, fun h4 => ?_⟩
    ·refine sR ?_
     simp
     refine sT ?_
     try simp only [AU]
     refine ⟨by simp, sF hbox htok (fun _ h => h) (Nat.le_refl _) ?_⟩
     simp [packA, validG, hn1, hn2, h3, h4]
    ·refine sR ?_
     simp
     refine sT ?_
     try simp only [AU]
     refine ⟨by simp, sF hbox htok (fun _ h => h) (Nat.le_refl _) ?_⟩
     simp [packA, validG, hn1, hn2, h3, h4]
end Go.AM
namespace Go.AM
open Go Go.Proofs
theorem kind_c (n : Int) (tok : Tks) (nt : Nat) : DCall Tryz.prog 102 [I n] tok nt (B (withinB n 99)) tok nt := by
 intro box nb
 refine sB Tryz.func102 Tryz.ntmps102 ?_
 intro hbox htok
 simp only at hbox htok
 apply AL.start
 refine sR ?_
 simp
 refine sR ?_
 simp
 first | refine Gd.dt (fun h => ?_) (fun h => ?_) | refine Gd.df (fun h => ?_) (fun h => ?_) | refine Gd.t (fun h => ?_) (fun h => ?_) | refine Gd.f (fun h => ?_) (fun h => ?_)
 ·simp [h]
  refine sT ?_
  try simp only [AU]
  refine ⟨by simp, sF hbox htok (fun _ h => h) (Nat.le_refl _) ?_⟩
  simp [packA, withinB, h]
 ·simp [h]
  refine sT ?_
  try simp only [AU]
  refine ⟨by simp, sF hbox htok (fun _ h => h) (Nat.le_refl _) ?_⟩
  simp [packA, withinB, h]
theorem right_c (e : E) (nodes : Int) (tok : Tks) (nt : Nat) : DCall Tryz.prog 103 [.agg [I e.ty, I e.fr, I e.to], I nodes] tok nt (B (fitsB e nodes)) tok nt := by
 intro box nb
 refine sB Tryz.func103 Tryz.ntmps103 ?_
 intro hbox htok
 simp only at hbox htok
 apply AL.start
 refine sR ?_
 simp
 refine sR ?_
 simp
 refine Stop.of_d (kind_c _ _ _) ?_
 simp
 first | refine Gd.dt (fun h1 => ?_) (fun h1 => ?_) | refine Gd.df (fun h1 => ?_) (fun h1 => ?_) | refine Gd.t (fun h1 => ?_) (fun h1 => ?_) | refine Gd.f (fun h1 => ?_) (fun h1 => ?_)
 ·simp [h1]
  first | refine Gd.dt (fun h2 => ?_) (fun h2 => ?_) | refine Gd.df (fun h2 => ?_) (fun h2 => ?_) | refine Gd.t (fun h2 => ?_) (fun h2 => ?_) | refine Gd.f (fun h2 => ?_) (fun h2 => ?_)
  ·simp [h1, h2]
   first | refine Gd.dt (fun h3 => ?_) (fun h3 => ?_) | refine Gd.df (fun h3 => ?_) (fun h3 => ?_) | refine Gd.t (fun h3 => ?_) (fun h3 => ?_) | refine Gd.f (fun h3 => ?_) (fun h3 => ?_)
   ·simp [h1, h2, h3]
    first | refine Gd.dt (fun h4 => ?_) (fun h4 => ?_) | refine Gd.df (fun h4 => ?_) (fun h4 => ?_) | refine Gd.t (fun h4 => ?_) (fun h4 => ?_) | refine Gd.f (fun h4 => ?_) (fun h4 => ?_)
    ·simp [h1, h2, h3, h4]
     have k1 : e.fr ≤ nodes - 1 := by omega
     have k2 : (e.to < nodes) ↔ (e.to ≤ nodes - 1) := by omega
     refine sT ?_
     try simp only [AU]
     refine ⟨by simp, sF hbox htok (fun _ h => h) (Nat.le_refl _) ?_⟩
     simp [packA, fitsB, h1, h2, h3, h4, withinB, k1, k2]
     simp [withinB] at h1
     simp [h1]
    ·simp [h1, h2, h3, h4]
     refine sT ?_
     try simp only [AU]
     refine ⟨by simp, sF hbox htok (fun _ h => h) (Nat.le_refl _) ?_⟩
     simp [packA, fitsB, h1, h2, h3, h4, withinB]
   ·simp [h1, h2, h3]
    have k1 : ¬ e.fr ≤ nodes - 1 := by omega
    refine sT ?_
    try simp only [AU]
    refine ⟨by simp, sF hbox htok (fun _ h => h) (Nat.le_refl _) ?_⟩
    simp [packA, fitsB, h1, h2, h3, withinB, k1]
  ·simp [h1, h2]
   refine sT ?_
   try simp only [AU]
   refine ⟨by simp, sF hbox htok (fun _ h => h) (Nat.le_refl _) ?_⟩
   simp [packA, fitsB, h1, h2, withinB]
 ·simp [h1]
  refine sT ?_
  try simp only [AU]
  refine ⟨by simp, sF hbox htok (fun _ h => h) (Nat.le_refl _) ?_⟩
  simp [packA, fitsB, h1]
def st41a (g : Gr) (nb : Nat) (box : Bxs) (tok : Tks) (nt : Nat) (i : Nat) : AState := ⟨tl [(1, .ptr (nb + 1) 0 0), (3, I i)], lb nb box [(1, [[.d (ints g.nodes), .d (AM.edges g.edges)]])], tok, nt⟩
def st41b (g : Gr) (nb : Nat) (box : Bxs) (tok : Tks) (nt : Nat) (i : Nat) : AState := ⟨tl [(1, .ptr (nb + 1) 0 0), (4, I i)], lb nb box [(1, [[.d (ints g.nodes), .d (AM.edges g.edges)]])], tok, nt⟩
theorem anyB_take {α : Type} {p : α → Bool} {xs : List α} {i : Nat} (h : i < xs.length) (h2 : p xs[i] = true) : anyB p xs = true := List.any_eq_true.2 ⟨_, List.getElem_mem h, h2⟩
theorem anyB_all {α : Type} {p : α → Bool} {xs : List α} {i : Nat} (h : xs.length ≤ i) (h2 : ∀ x ∈ xs.take i, p x = false) : anyB p xs = false := by
 rw [List.take_of_length_le h] at h2
 exact List.any_eq_false.2 fun x hx => by simp [h2 x hx]
theorem anyB_step {α : Type} {p : α → Bool} {xs : List α} {i : Nat} (h : i < xs.length) (h1 : ∀ x ∈ xs.take i, p x = false) (h2 : p xs[i] = false) : ∀ x ∈ xs.take (i + 1), p x = false := by
 intro x hx
 rw [List.take_succ_eq_append_getElem h] at hx
 rcases List.mem_append.1 hx with hx | hx
 ·exact h1 x hx
 ·simp at hx; rw [hx]; exact h2
theorem valid05_c (g : Gr) (hg : g.Fit) (tok : Tks) (nt : Nat) : DCall Tryz.prog 48 [g.av] tok nt (I (validG g)) tok nt := by
 intro box nb
 have hn := hg.n
 have he := hg.e
 refine sB Tryz.func48 Tryz.ntmps48 ?_
 intro hbox htok
 simp only at hbox htok
 apply AL.start
 refine sR ?_
 simp
 refine sR ?_
 simp
 first | refine Gd.dt (fun h1 => ?_) (fun h1 => ?_) | refine Gd.df (fun h1 => ?_) (fun h1 => ?_) | refine Gd.t (fun h1 => ?_) (fun h1 => ?_) | refine Gd.f (fun h1 => ?_) (fun h1 => ?_)
 ·simp [h1]
  refine sC ?_
  simp
  refine sR ?_
  simp
  refine sT ?_
  try simp only [AU]
  refine ⟨by simp, sF hbox htok (fun _ h => h) (Nat.le_refl _) ?_⟩
  simp [packA, validG, show 40 < g.nodes.length by omega]
 ·simp [h1]
  refine sC ?_
  simp
  refine ⟨fun h2 => ?_, fun h2 => ?_⟩
  ·refine sR ?_
   simp
   refine sT ?_
   try simp only [AU]
   refine ⟨by simp, sF hbox htok (fun _ h => h) (Nat.le_refl _) ?_⟩
   simp [packA, validG, show 80 < g.edges.length by omega]
  ·have hn1 : ¬ 40 < g.nodes.length := by omega
   have hn2 : ¬ 80 < g.edges.length := by omega
   refine sR ?_
   simp
   refine sN ?_
   refine AL.loopT (st41a g nb box tok nt) (fun i => i ≤ g.nodes.length ∧ ∀ x ∈ g.nodes.take i, (!withinB x 99) = false) (fun i => g.nodes.length - i) 0 ⟨Nat.zero_le _, by simp⟩ (Weaks.mk (Nat.le_refl _) rfl (by simp [ToL, lk]) (by simp [BoxL, lk])) ?_
   rintro i S ⟨hi, htk⟩ hS
   simp only [st41a] at hS
   subst hS
   have hw := sW (i := i) (by omega)
   refine sR ?_
   simp
   refine sC ?_
   simp
   refine ⟨fun hlt => ?_, fun hge => ?_⟩
   ·refine sR ?_
    simp [hlt]
    refine Stop.of_d (kind_c _ _ _) ?_
    simp
    refine sC ?_
    simp
    refine ⟨fun hb => ?_, fun hb => ?_⟩
    ·refine sR ?_
     simp
     have h3 : anyB (fun n => !withinB n 99) g.nodes = true := anyB_take hlt (by simp [hb])
     refine sT ?_
     try simp only [AU]
     refine ⟨by simp, sF hbox htok (fun _ h => h) (Nat.le_refl _) ?_⟩
     simp [packA, validG, hn1, hn2, h3]
    ·refine sR ?_
     simp [hw]
     refine sE ?_
     refine ⟨i + 1, ⟨hlt, ?_⟩, by omega, Weaks.mk (Nat.le_refl _) rfl (by simp [ToL, lk]) (by simp [BoxL, lk])⟩
     have := anyB_step (p := fun n => !withinB n 99) hlt (by simpa using htk) (by simp [hb])
     simpa using this
   ·refine sX ?_
    simp only [AU, ↓reduceIte]
    have h3 : anyB (fun n => !withinB n 99) g.nodes = false := anyB_all hge (by simpa using htk)
    refine sR ?_
    simp
    refine sN ?_
    refine AL.loopT (st41b g nb box tok nt) (fun i => i ≤ g.edges.length ∧ ∀ x ∈ g.edges.take i, (!fitsB x g.nodes.length) = false) (fun i => g.edges.length - i) 0 ⟨Nat.zero_le _, by simp⟩ (Weaks.mk (Nat.le_refl _) rfl (by simp [ToL, lk]) (by simp [BoxL, lk])) ?_
    rintro i S ⟨hi, htk⟩ hS
    simp only [st41b] at hS
    subst hS
    have hw := sW (i := i) (by omega)
    refine sR ?_
    simp
    refine sC ?_
    simp
    refine ⟨fun hlt => ?_, fun hge => ?_⟩
    ·refine sR ?_
     simp [hlt]
     refine Stop.of_d (right_c g.edges[i] _ _ _) ?_
     simp
     refine sC ?_
     simp
     refine ⟨fun hb => ?_, fun hb => ?_⟩
     ·refine sR ?_
      simp
      have h4 : anyB (fun e => !fitsB e g.nodes.length) g.edges = true := anyB_take hlt (by simp [hb])
      refine sT ?_
      try simp only [AU]
      refine ⟨by simp, sF hbox htok (fun _ h => h) (Nat.le_refl _) ?_⟩
      simp [packA, validG, hn1, hn2, h3, h4]
     ·refine sR ?_
      simp [hw]
      refine sE ?_
      refine ⟨i + 1, ⟨hlt, ?_⟩, by omega, Weaks.mk (Nat.le_refl _) rfl (by simp [ToL, lk]) (by simp [BoxL, lk])⟩
      have := anyB_step (p := fun e => !fitsB e g.nodes.length) hlt (by simpa using htk) (by simp [hb])
      simpa using this
    ·refine sX ?_
     simp only [AU, ↓reduceIte]
     have h4 : anyB (fun e => !fitsB e g.nodes.length) g.edges = false := anyB_all hge (by simpa using htk)
     refine sR ?_
     simp
     refine sT ?_
     try simp only [AU]
     refine ⟨by simp, sF hbox htok (fun _ h => h) (Nat.le_refl _) ?_⟩
     simp [packA, validG, hn1, hn2, h3, h4]
end Go.AM
namespace Go.AM
open Go Go.Proofs
structure Ov where
 g : Gr
 l : Mo
 r : Mo
 deriving DecidableEq, Inhabited
structure Qu where
 g : Gr
 o : Mo
 deriving DecidableEq, Inhabited
abbrev Ov.cells (o : Ov) : List D := [ints o.g.nodes, AM.edges o.g.edges, ints o.l.nodes, ints o.l.edges, ints o.r.nodes, ints o.r.edges]
abbrev Ov.av (o : Ov) : AV := .agg [.d (ints o.g.nodes), .d (AM.edges o.g.edges), .d (ints o.l.nodes), .d (ints o.l.edges), .d (ints o.r.nodes), .d (ints o.r.edges)]
abbrev Qu.cells (o : Qu) : List D := [ints o.g.nodes, AM.edges o.g.edges, ints o.o.nodes, ints o.o.edges]
abbrev Qu.av (o : Qu) : AV := .agg [.d (ints o.g.nodes), .d (AM.edges o.g.edges), .d (ints o.o.nodes), .d (ints o.o.edges)]
structure Mo.Fit (m : Mo) : Prop where
 n : m.nodes.length ≤ 1000000
 e : m.edges.length ≤ 1000000
structure Ov.Fit (o : Ov) : Prop where
 g : o.g.Fit
 l : o.l.Fit
 r : o.r.Fit
structure Qu.Fit (o : Qu) : Prop where
 g : o.g.Fit
 o : o.o.Fit
end Go.AM
namespace Go.AM
open Go Go.Proofs
end Go.AM
namespace Go.AM
open Go Go.Proofs
def iota (n : Nat) : List Int := (List.range n).map fun (i : Nat) => (i : Int)
theorem iota_succ (n : Nat) : iota (n + 1) = iota n ++ [(n : Int)] := by simp [iota, List.range_succ]
@[simp] theorem iota_length (n : Nat) : (iota n).length = n := by simp [iota]
@[simp] theorem iota_zero : iota 0 = [] := rfl
structure Acc where
 i : Nat
 own : Own
 tok : Nat → Bool
 nt : Nat
def st72 (n : Nat) (nb : Nat) (box : Bxs) (a : Acc) : AState := ⟨tl [(0, I n), (3, .osl 1 (rI (iota a.i)) a.own), (4, I a.i)], lb nb box [], a.tok, a.nt⟩
theorem finest_c (n : Nat) (hn : n ≤ 1000000) (tok : Tks) (nt : Nat) : DCall Tryz.prog 125 [I n] tok nt (.d (ints (iota n))) tok nt := by
 intro box nb
 refine sB Tryz.func125 Tryz.ntmps125 ?_
 intro hbox htok
 simp only at hbox htok
 apply AL.start
 refine sR ?_
 simp
 refine sR ?_
 simp
 refine sR ?_
 simp
 refine sN ?_
 refine AL.loopT (st72 n nb box) (fun a => a.i ≤ n ∧ TK tok nt a.tok a.nt [a.own]) (fun a => n - a.i) ⟨0, .full, tok, nt⟩ ⟨Nat.zero_le _, (TK.start htok).full⟩ (Weaks.mk (Nat.le_refl _) rfl (by simp [ToL]) trivial) ?_
 rintro ⟨i, own, tok', nt'⟩ S ⟨hi, htk⟩ hS
 simp only [st72] at hS hi htk
 subst hS
 have hw := sW (i := i) (by omega)
 refine sR ?_
 simp
 refine sC ?_
 simp
 refine ⟨fun hlt => ?_, fun hge => ?_⟩
 ·refine sR ?_
  simp
  refine ⟨⟨by omega, htk.live⟩, ?_⟩
  refine sR ?_
  simp [hw]
  refine sE ?_
  refine ⟨⟨i + 1, _, _, _⟩, ⟨hlt, htk.app⟩, by simp; omega, Weaks.mk htk.app.le rfl (by simp [ToL, iota_succ]) trivial⟩
 ·refine sX ?_
  simp only [AU, ↓reduceIte]
  refine sR ?_
  simp
  have : i = n := by omega
  subst this
  refine sT ?_
  try simp only [AU]
  refine ⟨by simp, sF hbox htok htk.old htk.le ?_⟩
  simp [packA, ]
theorem of_c (g : Gr) (hg : g.Fit) (tok : Tks) (nt : Nat) : DCall Tryz.prog 66 [g.av] tok nt (Mo.av ⟨iota g.nodes.length, iota g.edges.length⟩) tok nt := by
 intro box nb
 refine sB Tryz.func66 Tryz.ntmps66 ?_
 intro hbox htok
 simp only at hbox htok
 apply AL.start
 refine sR ?_
 simp
 refine sR ?_
 simp
 refine Stop.of_d (finest_c g.nodes.length hg.n _ _) ?_
 simp
 refine Stop.of_d (finest_c g.edges.length hg.e _ _) ?_
 simp
 refine sT ?_
 try simp only [AU]
 refine ⟨by simp, sF hbox htok (fun _ h => h) (Nat.le_refl _) ?_⟩
 simp [packA]
theorem copied_c (g : Gr) (hg : g.Fit) (tok : Tks) (nt : Nat) : DCall Tryz.prog 76 [g.av] tok nt (.agg [.osl 1 (rI g.nodes) (.tok nt), .osl 3 (rE g.edges) (.tok (nt + 1))]) (upd (upd tok nt true) (nt + 1) true) (nt + 2) := by
 intro box nb
 have h1 := hg.n
 have h2 := hg.e
 refine sB Tryz.func76 Tryz.ntmps76 ?_
 intro hbox htok
 simp only at hbox htok
 apply AL.start
 refine sR ?_
 simp
 refine sR ?_
 simp
 refine ⟨by omega, by omega, ?_⟩
 refine sN ?_
 refine AL.ret ?_
 try simp only [AU]
 refine ⟨by simp, Fin.own (by simp [resAs, resA]; rfl) hbox rfl (by simp) ?_⟩
 simp [packA]
def upto (n i : Nat) : List Int := iota i ++ List.replicate (n - i) 0
@[simp] theorem upto_length {n i : Nat} (h : i ≤ n) : (upto n i).length = n := by simp [upto]; omega
@[simp] theorem upto_zero (n : Nat) : upto n 0 = List.replicate n 0 := by simp [upto]
@[simp] theorem upto_all (n : Nat) : upto n n = iota n := by simp [upto]
def st101 (n : Nat) (nb : Nat) (box : Bxs) (tok : Tks) (nt : Nat) (i : Nat) : AState := ⟨tl [(3, .msl (nb + 6) 0 n 1), (8, I n), (9, I i)], lb nb box [(6, rowsI (upto n i))], tok, nt⟩
theorem iota_set {n i : Nat} (h : i < n) : (upto n i).set i (i : Int) = upto n (i + 1) := by
 unfold upto
 rw [List.set_append]
 simp only [iota_length, Nat.lt_irrefl, ↓reduceIte, Nat.sub_self, iota_succ, List.append_assoc]
 have : n - i = (n - (i + 1)) + 1 := by omega
 rw [this, List.replicate_succ]
 simp
theorem numbers_c (n : Nat) (hn : n ≤ 1000000) (tok : Tks) (nt : Nat) : DCall Tryz.prog 109 [I n] tok nt (.d (ints (iota n))) tok nt := by
 intro box nb
 refine sB Tryz.func109 Tryz.ntmps109 ?_
 intro hbox htok
 simp only at hbox htok
 apply AL.start
 refine sR ?_
 simp
 refine sR ?_
 simp
 refine ⟨by omega, ?_⟩
 refine sR ?_
 simp
 refine sN ?_
 refine AL.loopT (st101 n nb box tok nt) (fun i => i ≤ n) (fun i => n - i) 0 (Nat.zero_le _) (Weaks.mk (Nat.le_refl _) rfl (by simp [ToL, lk]) (by simp [BoxL, lk])) ?_
 rintro i S hi hS
 simp only [st101] at hS
 subst hS
 have hw := sW (i := i) (by omega)
 refine sR ?_
 simp
 refine sC ?_
 simp
 refine ⟨fun hlt => ?_, fun hge => ?_⟩
 ·refine sR ?_
  simp
  refine sR ?_
  simp [hlt, hi]
  refine sR ?_
  simp [hw]
  refine sE ?_
  refine ⟨i + 1, hlt, by omega, Weaks.mk (Nat.le_refl _) rfl (by simp [ToL, lk]) (by simp [BoxL, lk, iota_set hlt])⟩
 ·refine sX ?_
  simp only [AU, ↓reduceIte]
  have : i = n := by omega
  subst this
  refine AL.weak (Weaks.frz (l' := [(3, .d (ints (iota i)))]) (loc' := []) 6 1 (rI (iota i)) (Nat.le_refl _) rfl (by simp [lk, rowsI_eq]) (by simp [lk]) (by simp) (by simp [ToL]) (by simp [BoxL])) ?_
  refine sR ?_
  simp
  refine sT ?_
  try simp only [AU]
  refine ⟨by simp, sF hbox htok (fun _ h => h) (Nat.le_refl _) ?_⟩
  simp [packA]
end Go.AM
namespace Go.AM
open Go Go.Proofs
def idM (g : Gr) : Mo := ⟨iota g.nodes.length, iota g.edges.length⟩
theorem identity_c (g : Gr) (hg : g.Fit) (hv : validG g = 0) (tok : Tks) (nt : Nat) : DCall Tryz.prog 54 [g.av] tok nt (.tup [(idM g).av, I 0]) tok nt := by
 intro box nb
 refine sB Tryz.func54 Tryz.ntmps54 ?_
 intro hbox htok
 simp only at hbox htok
 apply AL.start
 refine sR ?_
 simp
 refine sR ?_
 simp
 refine Stop.of_d (graphValid_c g hg _ _) ?_
 simp
 refine sR ?_
 simp [hv]
 refine sC ?_
 simp
 refine sR ?_
 simp
 refine Stop.of_d (numbers_c g.nodes.length hg.n _ _) ?_
 simp
 refine Stop.of_d (numbers_c g.edges.length hg.e _ _) ?_
 simp
 refine sT ?_
 try simp only [AU]
 refine ⟨by simp, sF hbox htok (fun _ h => h) (Nat.le_refl _) ?_⟩
 simp [packA, idM]
def glueN (an bn l : List Int) : Nat → List Int × List Int
 | 0 => (an, [])
 | i + 1 => if l.getD i 0 < 0 then ((glueN an bn l i).1 ++ [bn.getD i 0], (glueN an bn l i).2 ++ [((glueN an bn l i).1.length : Int)]) else ((glueN an bn l i).1, (glueN an bn l i).2 ++ [l.getD i 0])
def glueE (ae be : List E) (rn l : List Int) : Nat → List E × List Int
 | 0 => (ae, [])
 | i + 1 => if l.getD i 0 < 0 then ((glueE ae be rn l i).1 ++ [⟨(be.getD i default).ty, rn.getD (be.getD i default).fr.toNat 0, rn.getD (be.getD i default).to.toNat 0⟩], (glueE ae be rn l i).2 ++ [((glueE ae be rn l i).1.length : Int)])
  else ((glueE ae be rn l i).1, (glueE ae be rn l i).2 ++ [l.getD i 0])
def glue (a b : Gr) (nodes edges : List Int) : Ov :=
 let n := glueN a.nodes b.nodes nodes nodes.length
 let e := glueE a.edges b.edges n.2 edges edges.length
 ⟨⟨n.1, e.1⟩, idM a, ⟨n.2, e.2⟩⟩
theorem glueN_len (an bn l : List Int) : ∀ i, (glueN an bn l i).1.length ≤ an.length + i ∧ (glueN an bn l i).2.length = i
 | 0 => by simp [glueN]
 | i + 1 => by
  have := glueN_len an bn l i
  simp only [glueN]
  split <;> simp <;> omega
theorem glueE_len (ae be : List E) (rn l : List Int) : ∀ i, (glueE ae be rn l i).1.length ≤ ae.length + i ∧ (glueE ae be rn l i).2.length = i
 | 0 => by simp [glueE]
 | i + 1 => by
  have := glueE_len ae be rn l i
  simp only [glueE]
  split <;> simp <;> omega
end Go.AM
namespace Go.AM
open Go Go.Proofs
end Go.AM
namespace Go.AM
open Go
variable {P : Program}
def AV.asD1 : AV → AV
 | .osl sz es _ => .d (.sl sz es)
 | x => x
def AV.asD : AV → AV
 | .osl sz es _ => .d (.sl sz es)
 | .agg cs => .agg (cs.map AV.asD1)
 | x => x
theorem RV.asD1 {G : Gh} {w : World} {x : AV} {v : Value} (h : RV G w x v) : RV G w x.asD1 v := by
 cases h with
 | osl h1 h2 => exact .d h1
 | bot => exact .bot
 | d h1 => exact .d h1
 | ptr h1 => exact .ptr h1
 | here h1 h2 => exact .here h1 h2
 | buf h1 h2 h3 h4 => exact .buf h1 h2 h3 h4
 | cptr a u hc hr => exact .cptr a u hc hr
 | msl h1 h2 h3 => exact .msl h1 h2 h3
 | fn hl h => exact .fn hl h
 | agg hl h h1 => exact .agg hl h h1
 | tup hl h => exact .tup hl h
 | ex h => exact .ex h
theorem RV.asD {G : Gh} {w : World} {x : AV} {v : Value} (h : RV G w x v) : RV G w x.asD v := by
 cases h with
 | osl h1 h2 => exact .d h1
 | bot => exact .bot
 | d h1 => exact .d h1
 | ptr h1 => exact .ptr h1
 | here h1 h2 => exact .here h1 h2
 | buf h1 h2 h3 h4 => exact .buf h1 h2 h3 h4
 | cptr a u hc hr => exact .cptr a u hc hr
 | msl h1 h2 h3 => exact .msl h1 h2 h3
 | fn hl h => exact .fn hl h
 | agg hl h h1 => exact .agg (by simp [hl]) (fun i g1 g2 => by simp only [List.getElem_map]; exact (h i (by simpa using g1) g2).asD1) h1
 | tup hl h => exact .tup hl h
 | ex h => exact .ex h
theorem RVs.asD {G : Gh} {w : World} {xs : List AV} {vs : List Value} (h : RVs G w xs vs) : RVs G w (xs.map AV.asD) vs :=
 ⟨by simp [h.1], fun i g1 g2 => by simp only [List.getElem_map]; exact (h.2 i (by simpa using g1) g2).asD⟩
theorem ACalls.asD {f : FuncId} {args : List AV} {m : AMem} {Q : AV → AMem → Prop} (h : ACalls P f (args.map AV.asD) m Q) : ACalls P f args m Q :=
 ⟨h.1, fun G w vals hm hr => h.2 G w vals hm hr.asD⟩
theorem Stop.data {cx : Cx} {dr : Bool} {fid : FuncId} {args : List AV} {S : AState} {dst : Option Tmp} {K : AState → Prop} (h : Stop P cx dr fid (args.map AV.asD) S dst K) : Stop P cx dr fid args S dst K := by
 cases dr with
 | true =>
  obtain ⟨v, tok', nt', h1, h2⟩ := h
  exact ⟨v, tok', nt', fun box nb he => (h1 box nb he).asD, h2⟩
 | false => exact ACalls.asD h
def Sub (x y : AV) : Prop := ∀ G w v, RV G w x v → RV G w y v
theorem Sub.refl (x : AV) : Sub x x := fun _ _ _ h => h
theorem Sub.data (sz : Nat) (es : List (List D)) (o : Own) : Sub (.osl sz es o) (.d (.sl sz es)) := fun _ _ _ h => h.asD
theorem Sub.nil (sz sz' : Nat) (o : Own) : Sub (.osl sz [] o) (.d (.sl sz' [])) := fun G w v h => by
 cases h with
 | osl h ho =>
  cases h with
  | sl u hcap hmax hsz hA hc hr => exact .d (.sl (es := []) (fun _ _ => default) hcap hmax (by simp) (by simp) (fun a _ i j hi _ => by simp at hi) (fun i j hi _ => by simp at hi))
def SubL : List AV → List AV → Prop
 | [], [] => True
 | x :: xs, y :: ys => Sub x y ∧ SubL xs ys
 | _, _ => False
theorem SubL.rvs {G : Gh} {w : World} : ∀ {xs ys : List AV} {vs : List Value}, SubL xs ys → RVs G w xs vs → RVs G w ys vs
 | [], [], vs, _, h => h
 | x :: xs, y :: ys, [], _, h => by have := h.1; simp at this
 | x :: xs, y :: ys, v :: vs, hs, h => RVs.cons (hs.1 _ _ _ (h.2 0 (by simp) (by simp))) (hs.2.rvs ⟨by simpa using h.1, fun i h1 h2 => h.2 (i + 1) (by simpa using h1) (by simpa using h2)⟩)
theorem ACalls.sub {f : FuncId} {args args' : List AV} {m : AMem} {Q : AV → AMem → Prop} (hs : SubL args args') (h : ACalls P f args' m Q) : ACalls P f args m Q :=
 ⟨h.1, fun G w vals hm hr => h.2 G w vals hm (hs.rvs hr)⟩
theorem Stop.sub {cx : Cx} {dr : Bool} {fid : FuncId} {args args' : List AV} {S : AState} {dst : Option Tmp} {K : AState → Prop} (hs : SubL args args') (h : Stop P cx dr fid args' S dst K) : Stop P cx dr fid args S dst K := by
 cases dr with
 | true =>
  obtain ⟨v, tok', nt', h1, h2⟩ := h
  exact ⟨v, tok', nt', fun box nb he => (h1 box nb he).sub hs, h2⟩
 | false => exact ACalls.sub hs h
theorem Stop.of_a {cx : Cx} {fid : FuncId} {args : List AV} {S : AState} {dst : Option Tmp} {K : AState → Prop} {Q : AV → AMem → Prop} (h : ACalls P fid args ⟨S.box, cx.nb, S.tok, S.nt⟩ Q)
  (hk : ∀ v m', Q v m' → K ⟨putT S.tmps dst v, m'.box, m'.tok, m'.nt⟩) : Stop P cx false fid args S dst K := h.mono hk
end Go.AM
namespace Go.AM
open Go Go.Proofs
structure Adv (tok : Tks) (nt : Nat) (own : Own) (tok' : Nat → Bool) (nt' : Nat) (own' : Own) : Prop where
 keep : ∀ t, tok t = true → own ≠ .tok t → tok' t = true
 le : nt ≤ nt'
 live : own'.liveP tok'
 new : own' = own ∨ ∃ t, own' = .tok t ∧ nt ≤ t
 lt : ∀ t, tok' t = true → t < nt'
theorem Adv.refl {tok : Nat → Bool} {nt : Nat} {own : Own} (h : own.liveP tok) (hl : ∀ t, tok t = true → t < nt) : Adv tok nt own tok nt own := ⟨fun _ h _ => h, Nat.le_refl _, h, .inl rfl, hl⟩
theorem Adv.trans {t1 t2 t3 : Nat → Bool} {n1 n2 n3 : Nat} {o1 o2 o3 : Own} (hl : ∀ t, t1 t = true → t < n1) (h : Adv t1 n1 o1 t2 n2 o2) (k : Adv t2 n2 o2 t3 n3 o3) : Adv t1 n1 o1 t3 n3 o3 := by
 refine ⟨fun t ht ho => k.keep t (h.keep t ht ho) (fun e => ?_), Nat.le_trans h.le k.le, k.live, ?_, k.lt⟩
 ·rcases h.new with e2 | ⟨s, e2, hs⟩
  ·exact ho (e2 ▸ e)
  ·rw [e2] at e
   cases e
   have := hl _ ht
   omega
 ·rcases k.new with e2 | ⟨s, e2, hs⟩
  ·rw [e2]; exact h.new
  ·exact .inr ⟨s, e2, Nat.le_trans h.le hs⟩
theorem Adv.fresh {tok : Nat → Bool} {nt : Nat} {own : Own} (h : own.liveP tok) (hl : ∀ t, tok t = true → t < nt) : Adv tok nt own (upd (upd (upd tok nt true) nt false) (nt + 1) true) (nt + 2) own := by
 have key : ∀ t, t < nt → (upd (upd (upd tok nt true) nt false) (nt + 1) true) t = tok t := fun t ht => by
  rw [upd_other _ _ (by omega), upd_other _ _ (by omega), upd_other _ _ (by omega)]
 refine ⟨fun t ht _ => by rw [key t (hl t ht)]; exact ht, by omega, ?_, .inl rfl, fun t ht => ?_⟩
 ·cases own with
  | full => trivial
  | tok t => simp only [live_tok] at h ⊢; rw [key t (hl t h)]; exact h
 ·by_cases e : t = nt + 1
  ·omega
  ·rw [upd_other _ _ e] at ht
   by_cases e2 : t = nt
   ·omega
   ·rw [upd_other _ _ e2, upd_other _ _ e2] at ht
    have := hl t ht
    omega
theorem Adv.app {tok : Nat → Bool} {nt : Nat} {own : Own} (h : own.liveP tok) (hl : ∀ t, tok t = true → t < nt) : Adv tok nt own (upd (own.kill tok) nt true) (nt + 1) (.tok nt) := by
 refine ⟨fun t ht ho => ?_, by omega, by simp [upd_same], .inr ⟨nt, rfl, Nat.le_refl _⟩, fun t ht => ?_⟩
 ·have := hl t ht
  rw [upd_other _ _ (by omega)]
  cases own with
  | full => exact ht
  | tok s => simp only [kill_tok]; rw [upd_other _ _ (fun e => ho (by rw [e]))]; exact ht
 ·by_cases e : t = nt
  ·omega
  ·rw [upd_other _ _ e] at ht
   cases own with
   | full => have := hl t ht; omega
   | tok s =>
    simp only [kill_tok] at ht
    by_cases e2 : t = s
    ·subst e2; rw [upd_same] at ht; cases ht
    ·rw [upd_other _ _ e2] at ht
     have := hl t ht
     omega
theorem upd_upd {α : Type} (f : Nat → α) (k : Nat) (x y : α) : upd (upd f k x) k y = upd f k y := by
 funext j
 simp only [upd]
 split <;> rfl
theorem E.eq_and (x y : E) : (decide (x.ty = y.ty) && (decide (x.fr = y.fr) && decide (x.to = y.to))) = decide (x = y) := by
 cases x; cases y; simp
end Go.AM
namespace Go.AM
open Go Go.Proofs
theorem beqD (x y : Int) : (x == y) = decide (x = y) := by by_cases h : x = y <;> simp [h]
end Go.AM
namespace Go.AM
open Go Go.Proofs
end Go.AM
namespace Go.AM
open Go Go.Proofs
end Go.AM
namespace Go.AM
open Go Go.Proofs
theorem Conv.sub {v v' : AV} {m : AMem} (h : Sub v v') : Conv v m v' m := ⟨rfl, rfl, fun G w u h1 h2 => ⟨G, h1, h _ _ _ h2, Le.refl G w, fun _ h => h⟩⟩
theorem Sub.tup {xs ys : List AV} (h : SubL xs ys) : Sub (.tup xs) (.tup ys) := fun G w v r => by
 cases r with
 | tup hl hh => have := h.rvs ⟨hl, hh⟩; exact .tup this.1 this.2
theorem validG_edges {g : Gr} (h : validG g = 0) : ∀ e ∈ g.edges, 0 ≤ e.fr ∧ e.fr < g.nodes.length ∧ 0 ≤ e.to ∧ e.to < g.nodes.length := by
 intro e he
 unfold validG at h
 split at h
 ·cases h
 ·split at h
  ·cases h
  ·split at h
   ·cases h
   ·rename_i h3
    have := List.any_eq_false.1 (Bool.not_eq_true _ ▸ h3) e he
    simp [fitsB, withinB] at this
    omega
end Go.AM
namespace Go.AM
open Go Go.Proofs
def mu13 (i : Nat) : Nat := 2 - i
end Go.AM
namespace Go.AM
open Go Go.Proofs
def PartL (l : List Int) : Prop := ∀ i (h : i < l.length), 0 ≤ l[i] ∧ l[i] ≤ i ∧ l.getD l[i].toNat 0 = l[i]
def st105 (l : List Int) (nb : Nat) (box : Bxs) (tok : Tks) (nt : Nat) (i : Nat) : AState := ⟨tl [(0, .d (ints l)), (5, .d (ints l)), (6, I l.length), (7, I i)], lb nb box [], tok, nt⟩
theorem right105_c (l : List Int) (hl : l.length ≤ 1000000) (hp : PartL l) (tok : Tks) (nt : Nat) : DCall Tryz.prog 290 [.d (ints l)] tok nt (B true) tok nt := by
 intro box nb
 refine sB Tryz.func290 Tryz.ntmps290 ?_
 intro hbox htok
 simp only at hbox htok
 apply AL.start
 refine sR ?_
 simp
 refine sR ?_
 simp
 refine sN ?_
 refine AL.loopT (st105 l nb box tok nt) (fun i => i ≤ l.length) (fun i => l.length - i) 0 (Nat.zero_le _) (Weaks.mk (Nat.le_refl _) rfl (by simp [ToL]) trivial) ?_
 rintro i S hi hS
 simp only [st105] at hS
 subst hS
 have hw := sW (i := i) (by omega)
 refine sR ?_
 simp
 refine sC ?_
 simp
 refine ⟨fun hlt => ?_, fun hge => ?_⟩
 ·obtain ⟨h1, h2, h3⟩ := hp i hlt
  have h4 : l[i].toNat < l.length := by omega
  have h5 : l[l[i].toNat] = l[i] := by simpa [h4] using h3
  have k1 : ¬ l[i] < 0 := by omega
  have k2 : ¬ (i : Int) < l[i] := by omega
  refine sR ?_
  simp [hlt]
  refine sR ?_
  simp [k1, k2, h1, h4, h5]
  refine ⟨by omega, ?_⟩
  refine sC ?_
  simp
  refine sR ?_
  simp [hw]
  refine sE ?_
  refine ⟨i + 1, hlt, by omega, Weaks.mk (Nat.le_refl _) rfl (by simp [ToL]) trivial⟩
 ·refine sX ?_
  simp only [AU, ↓reduceIte]
  refine sR ?_
  simp
  refine sT ?_
  try simp only [AU]
  refine ⟨by simp, sF hbox htok (fun _ h => h) (Nat.le_refl _) ?_⟩
  simp [packA]
theorem one98_c (l : List Int) (hl : l.length ≤ 80) (hp : PartL l) (tok : Tks) (nt : Nat) : DCall Tryz.prog 267 [.d (ints l)] tok nt (I 0) tok nt := by
 intro box nb
 refine sB Tryz.func267 Tryz.ntmps267 ?_
 intro hbox htok
 simp only at hbox htok
 apply AL.start
 refine sR ?_
 simp
 refine sR ?_
 simp
 have h80 : ¬ 80 < (l.length : Int) := by omega
 refine sC ?_
 simp [h80]
 refine sR ?_
 simp
 refine Stop.of_d (right105_c l (by omega) hp _ _) ?_
 simp
 refine sC ?_
 simp
 refine sR ?_
 simp
 refine sT ?_
 try simp only [AU]
 refine ⟨by simp, sF hbox htok (fun _ h => h) (Nat.le_refl _) ?_⟩
 simp [packA]
def numN (l : List Int) : Nat → List Int × Int
 | 0 => ([], 0)
 | i + 1 => if l.getD i 0 = i then ((numN l i).1 ++ [(numN l i).2], (numN l i).2 + 1) else ((numN l i).1 ++ [(numN l i).1.getD (l.getD i 0).toNat 0], (numN l i).2)
theorem numN_len (l : List Int) : ∀ i, (numN l i).1.length = i ∧ 0 ≤ (numN l i).2 ∧ (numN l i).2 ≤ i
 | 0 => by simp [numN]
 | i + 1 => by
  have := numN_len l i
  simp only [numN]
  split <;> simp <;> omega
def st86 (l : List Int) (nb : Nat) (box : Bxs) (x : Acc) : AState :=
 ⟨tl [(6, .osl 1 (rI (numN l x.i).1) x.own), (7, I (numN l x.i).2), (15, .d (ints l)), (16, I l.length), (17, I x.i)], lb nb box [], x.tok, x.nt⟩
theorem quotient86_c (l : List Int) (hl : l.length ≤ 80) (hp : PartL l) (tok : Tks) (nt : Nat) : DCall Tryz.prog 242 [.d (ints l)] tok nt (.tup [.d (ints (numN l l.length).1), I (numN l l.length).2, I 0]) tok nt := by
 intro box nb
 refine sB Tryz.func242 Tryz.ntmps242 ?_
 intro hbox htok
 simp only at hbox htok
 apply AL.start
 refine sR ?_
 simp
 refine sR ?_
 simp
 refine Stop.of_d (one98_c l hl hp _ _) ?_
 simp
 refine sR ?_
 simp
 refine sC ?_
 simp
 refine sR ?_
 simp
 refine sR ?_
 simp
 refine sR ?_
 simp
 refine sN ?_
 refine AL.loopT (st86 l nb box) (fun x => x.i ≤ l.length ∧ TK tok nt x.tok x.nt [x.own]) (fun x => l.length - x.i) ⟨0, .full, tok, nt⟩ ⟨Nat.zero_le _, (TK.start htok).full⟩ (Weaks.mk (Nat.le_refl _) rfl (by simp [ToL, numN]) trivial) ?_
 rintro ⟨i, own, tok', nt'⟩ S ⟨hi, htk⟩ hS
 simp only [st86] at hS hi htk
 subst hS
 have hw := sW (i := i) (by omega)
 obtain ⟨hn1, hn2, hn3⟩ := numN_len l i
 refine sR ?_
 simp
 refine sC ?_
 simp
 refine ⟨fun hlt => ?_, fun hge => ?_⟩
 ·obtain ⟨h1, h2, h3⟩ := hp i hlt
  have hwn : IntKind.i64.wrap ((numN l i).2 + 1) = (numN l i).2 + 1 := wrap_in (by omega) (by omega)
  refine sR ?_
  simp [hlt]
  refine sR ?_
  simp
  refine sC ?_
  simp
  refine ⟨fun he => ?_, fun hne => ?_⟩
  ·refine sR ?_
   simp
   refine ⟨⟨by omega, htk.live⟩, ?_⟩
   refine sR ?_
   simp [hwn]
   refine sR ?_
   simp [hw]
   refine sE ?_
   refine ⟨⟨i + 1, _, _, _⟩, ⟨hlt, htk.app⟩, by simp; omega, Weaks.mk htk.app.le rfl (by simp [ToL, numN, hlt, he]) trivial⟩
  ·have h4 : l[i].toNat < (numN l i).1.length := by omega
   have h5 : l[i] < ((numN l i).1.length : Int) := by omega
   refine sR ?_
   simp [h1, h4, h5]
   refine ⟨⟨by omega, htk.live⟩, ?_⟩
   refine sR ?_
   simp [hw]
   refine sE ?_
   refine ⟨⟨i + 1, _, _, _⟩, ⟨hlt, htk.app⟩, by simp; omega, Weaks.mk htk.app.le rfl (by simp [ToL, numN, hlt, hne, h4]) trivial⟩
 ·refine sX ?_
  simp only [AU, ↓reduceIte]
  have : i = l.length := by omega
  subst this
  refine sR ?_
  simp
  refine sT ?_
  try simp only [AU]
  refine ⟨by simp, sF hbox htok htk.old htk.le ?_⟩
  simp [packA, ]
end Go.AM
namespace Go.AM
open Go Go.Proofs
abbrev rL (L : List (List Int)) : List (List D) := L.map fun l => [ints l]
abbrev lists (L : List (List Int)) : D := .sl 1 (rL L)
def nextsK (l : List Int) (k : Nat) : List (List Int) := ((List.range k).filter fun x => decide (x = l.length) || decide (l.getD x 0 = x)).map fun (x : Nat) => l ++ [(x : Int)]
def partsN : Nat → List (List Int)
 | 0 => [[]]
 | n + 1 => (partsN n).flatMap fun l => nextsK l (n + 1)
theorem partsN_len : ∀ n, ∀ l ∈ partsN n, l.length = n
 | 0 => by simp [partsN]
 | n + 1 => by
  intro l hl
  simp only [partsN, List.mem_flatMap] at hl
  obtain ⟨p, hp, hl⟩ := hl
  have := partsN_len n p hp
  simp only [nextsK, List.mem_map] at hl
  obtain ⟨x, _, rfl⟩ := hl
  simp [this]
end Go.AM
namespace Go.AM
open Go Go.Proofs
def repN (an l : List Int) : Nat → List Int
 | 0 => []
 | i + 1 => if l.getD i 0 = i then repN an l i ++ [an.getD i 0] else repN an l i
def repE (ae : List E) (qn l : List Int) : Nat → List E
 | 0 => []
 | i + 1 => if l.getD i 0 = i then repE ae qn l i ++ [⟨(ae.getD i default).ty, qn.getD (ae.getD i default).fr.toNat 0, qn.getD (ae.getD i default).to.toNat 0⟩] else repE ae qn l i
def quot (a : Gr) (nodes edges : List Int) : Qu :=
 let qn := (numN nodes nodes.length).1
 ⟨⟨repN a.nodes nodes nodes.length, repE a.edges qn edges edges.length⟩, ⟨qn, (numN edges edges.length).1⟩⟩
theorem repN_len (an l : List Int) : ∀ i, (repN an l i).length ≤ i
 | 0 => by simp [repN]
 | i + 1 => by
  have := repN_len an l i
  simp only [repN]
  split <;> simp <;> omega
theorem repE_len (ae : List E) (qn l : List Int) : ∀ i, (repE ae qn l i).length ≤ i
 | 0 => by simp [repE]
 | i + 1 => by
  have := repE_len ae qn l i
  simp only [repE]
  split <;> simp <;> omega
end Go.AM
namespace Go.AM
open Go Go.Proofs
end Go.AM
namespace Go.AM
open Go Go.Proofs
end Go.AM
namespace Go.AM
open Go Go.Proofs
def alikeK (g : Nat → Int → Bool) (p : List Int) (i : Nat) : Bool := (List.range i).all fun j => g j (p.getD j 0)
def alikeB (g : Nat → Int → Bool) (p : List Int) : Bool := alikeK g p p.length
theorem alikeK_succ (g : Nat → Int → Bool) (p : List Int) (i : Nat) : alikeK g p (i + 1) = (alikeK g p i && g i (p.getD i 0)) := by
 simp [alikeK, List.range_succ]
end Go.AM
namespace Go.AM
open Go Go.Proofs
end Go.AM
