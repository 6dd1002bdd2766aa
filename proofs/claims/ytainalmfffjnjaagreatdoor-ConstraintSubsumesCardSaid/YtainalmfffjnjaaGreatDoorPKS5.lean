/-
 Parts of the proof, as merged from many texts: a machine over data, what the functions compute, plain laws.
-/
import Derived.Test.YtainalmfffjnjaaGreatDoorPKS4
import Derived.Test.YtainalmfffjnjaaGreatDoorRows
set_option linter.unusedSimpArgs false
set_option linter.unusedVariables false
namespace Go.AM
open Go Go.Proofs
theorem follows_Tryz : Tryz.prog.follows .mixedOrders = true := by kernel_rfl
@[simp] theorem szOf_2 : szOf Tryz.prog 2 = some 1 := by kernel_rfl
@[simp] theorem aggT_2 : aggT Tryz.prog 2 = some false := by kernel_rfl
@[simp] theorem strT_2 : strT Tryz.prog 2 = false := by kernel_rfl
@[simp] theorem boolT_2 : boolT Tryz.prog 2 = false := by kernel_rfl
@[simp] theorem elemT_2 : elemT Tryz.prog 2 = none := by kernel_rfl
@[simp] theorem rowT_2 : rowT Tryz.prog 2 = none := by kernel_rfl
@[simp] theorem kindT_2 : kindT Tryz.prog 2 = some .i64 := by kernel_rfl
@[simp] theorem zeroT_2 : zeroT Tryz.prog 2 = some [.int .i64 0] := by kernel_rfl
@[simp] theorem szOf_3 : szOf Tryz.prog 3 = some 1 := by kernel_rfl
@[simp] theorem aggT_3 : aggT Tryz.prog 3 = some false := by kernel_rfl
@[simp] theorem strT_3 : strT Tryz.prog 3 = false := by kernel_rfl
@[simp] theorem boolT_3 : boolT Tryz.prog 3 = false := by kernel_rfl
@[simp] theorem elemT_3 : elemT Tryz.prog 3 = none := by kernel_rfl
@[simp] theorem rowT_3 : rowT Tryz.prog 3 = none := by kernel_rfl
@[simp] theorem kindT_3 : kindT Tryz.prog 3 = some .i64 := by kernel_rfl
@[simp] theorem zeroT_3 : zeroT Tryz.prog 3 = some [.int .i64 0] := by kernel_rfl
@[simp] theorem szOf_4 : szOf Tryz.prog 4 = some 1 := by kernel_rfl
@[simp] theorem aggT_4 : aggT Tryz.prog 4 = some false := by kernel_rfl
@[simp] theorem strT_4 : strT Tryz.prog 4 = false := by kernel_rfl
@[simp] theorem boolT_4 : boolT Tryz.prog 4 = true := by kernel_rfl
@[simp] theorem elemT_4 : elemT Tryz.prog 4 = none := by kernel_rfl
@[simp] theorem rowT_4 : rowT Tryz.prog 4 = none := by kernel_rfl
@[simp] theorem zeroT_4 : zeroT Tryz.prog 4 = some [.bool false] := by kernel_rfl
@[simp] theorem szOf_5 : szOf Tryz.prog 5 = some 1 := by kernel_rfl
@[simp] theorem aggT_5 : aggT Tryz.prog 5 = some false := by kernel_rfl
@[simp] theorem strT_5 : strT Tryz.prog 5 = false := by kernel_rfl
@[simp] theorem boolT_5 : boolT Tryz.prog 5 = false := by kernel_rfl
@[simp] theorem elemT_5 : elemT Tryz.prog 5 = none := by kernel_rfl
@[simp] theorem rowT_5 : rowT Tryz.prog 5 = none := by kernel_rfl
@[simp] theorem kindT_5 : kindT Tryz.prog 5 = some .u8 := by kernel_rfl
@[simp] theorem zeroT_5 : zeroT Tryz.prog 5 = some [.int .u8 0] := by kernel_rfl
@[simp] theorem szOf_9 : szOf Tryz.prog 9 = some 1 := by kernel_rfl
@[simp] theorem aggT_9 : aggT Tryz.prog 9 = some false := by kernel_rfl
@[simp] theorem strT_9 : strT Tryz.prog 9 = true := by kernel_rfl
@[simp] theorem boolT_9 : boolT Tryz.prog 9 = false := by kernel_rfl
@[simp] theorem elemT_9 : elemT Tryz.prog 9 = none := by kernel_rfl
@[simp] theorem rowT_9 : rowT Tryz.prog 9 = none := by kernel_rfl
@[simp] theorem zeroT_9 : zeroT Tryz.prog 9 = some [.string ⟨#[]⟩] := by kernel_rfl
@[simp] theorem szOf_21 : szOf Tryz.prog 21 = some 1 := by kernel_rfl
@[simp] theorem aggT_21 : aggT Tryz.prog 21 = some false := by kernel_rfl
@[simp] theorem strT_21 : strT Tryz.prog 21 = false := by kernel_rfl
@[simp] theorem boolT_21 : boolT Tryz.prog 21 = false := by kernel_rfl
@[simp] theorem elemT_21 : elemT Tryz.prog 21 = none := by kernel_rfl
@[simp] theorem rowT_21 : rowT Tryz.prog 21 = none := by kernel_rfl
@[simp] theorem kindT_21 : kindT Tryz.prog 21 = some .i32 := by kernel_rfl
@[simp] theorem zeroT_21 : zeroT Tryz.prog 21 = some [.int .i32 0] := by kernel_rfl
@[simp] theorem szOf_22 : szOf Tryz.prog 22 = some 1 := by kernel_rfl
@[simp] theorem aggT_22 : aggT Tryz.prog 22 = some false := by kernel_rfl
@[simp] theorem strT_22 : strT Tryz.prog 22 = false := by kernel_rfl
@[simp] theorem boolT_22 : boolT Tryz.prog 22 = false := by kernel_rfl
@[simp] theorem elemT_22 : elemT Tryz.prog 22 = some 106 := by kernel_rfl
@[simp] theorem rowT_22 : rowT Tryz.prog 22 = some (106, 4, 56) := by kernel_rfl
@[simp] theorem makeT_22 : makeT Tryz.prog 22 = some (4, 56, [.string ⟨#[]⟩, .int .i64 0, .bool false, .slice none 0 0]) := by kernel_rfl
@[simp] theorem zeroT_22 : zeroT Tryz.prog 22 = some [.slice none 0 0] := by kernel_rfl
@[simp] theorem szOf_23 : szOf Tryz.prog 23 = some 1 := by kernel_rfl
@[simp] theorem aggT_23 : aggT Tryz.prog 23 = some false := by kernel_rfl
@[simp] theorem strT_23 : strT Tryz.prog 23 = false := by kernel_rfl
@[simp] theorem boolT_23 : boolT Tryz.prog 23 = false := by kernel_rfl
@[simp] theorem elemT_23 : elemT Tryz.prog 23 = some 143 := by kernel_rfl
@[simp] theorem rowT_23 : rowT Tryz.prog 23 = some (143, 7, 64) := by kernel_rfl
@[simp] theorem makeT_23 : makeT Tryz.prog 23 = some (7, 64, [.string ⟨#[]⟩, .int .i64 0, .int .i64 0, .int .i64 0, .int .i64 0, .int .i64 0, .int .i64 0]) := by kernel_rfl
@[simp] theorem zeroT_23 : zeroT Tryz.prog 23 = some [.slice none 0 0] := by kernel_rfl
@[simp] theorem szOf_25 : szOf Tryz.prog 25 = some 2 := by kernel_rfl
@[simp] theorem aggT_25 : aggT Tryz.prog 25 = some true := by kernel_rfl
@[simp] theorem strT_25 : strT Tryz.prog 25 = false := by kernel_rfl
@[simp] theorem boolT_25 : boolT Tryz.prog 25 = false := by kernel_rfl
@[simp] theorem elemT_25 : elemT Tryz.prog 25 = none := by kernel_rfl
@[simp] theorem rowT_25 : rowT Tryz.prog 25 = none := by kernel_rfl
@[simp] theorem structT_25 : structT Tryz.prog 25 = some [(0, 1), (1, 1)] := by kernel_rfl
@[simp] theorem fieldT_25_0 : fieldT Tryz.prog 25 0 = some (22, 0) := by kernel_rfl
@[simp] theorem fieldT_25_1 : fieldT Tryz.prog 25 1 = some (23, 1) := by kernel_rfl
@[simp] theorem zeroT_25 : zeroT Tryz.prog 25 = some [.slice none 0 0, .slice none 0 0] := by kernel_rfl
@[simp] theorem szOf_26 : szOf Tryz.prog 26 = some 1 := by kernel_rfl
@[simp] theorem aggT_26 : aggT Tryz.prog 26 = some false := by kernel_rfl
@[simp] theorem strT_26 : strT Tryz.prog 26 = false := by kernel_rfl
@[simp] theorem boolT_26 : boolT Tryz.prog 26 = false := by kernel_rfl
@[simp] theorem elemT_26 : elemT Tryz.prog 26 = some 3 := by kernel_rfl
@[simp] theorem rowT_26 : rowT Tryz.prog 26 = some (3, 1, 8) := by kernel_rfl
@[simp] theorem makeT_26 : makeT Tryz.prog 26 = some (1, 8, [.int .i64 0]) := by kernel_rfl
@[simp] theorem zeroT_26 : zeroT Tryz.prog 26 = some [.slice none 0 0] := by kernel_rfl
@[simp] theorem szOf_27 : szOf Tryz.prog 27 = some 1 := by kernel_rfl
@[simp] theorem aggT_27 : aggT Tryz.prog 27 = some false := by kernel_rfl
@[simp] theorem strT_27 : strT Tryz.prog 27 = false := by kernel_rfl
@[simp] theorem boolT_27 : boolT Tryz.prog 27 = false := by kernel_rfl
@[simp] theorem elemT_27 : elemT Tryz.prog 27 = some 139 := by kernel_rfl
@[simp] theorem rowT_27 : rowT Tryz.prog 27 = some (139, 3, 24) := by kernel_rfl
@[simp] theorem makeT_27 : makeT Tryz.prog 27 = some (3, 24, [.int .i64 0, .int .i64 0, .int .i64 0]) := by kernel_rfl
@[simp] theorem zeroT_27 : zeroT Tryz.prog 27 = some [.slice none 0 0] := by kernel_rfl
@[simp] theorem szOf_29 : szOf Tryz.prog 29 = some 2 := by kernel_rfl
@[simp] theorem aggT_29 : aggT Tryz.prog 29 = some true := by kernel_rfl
@[simp] theorem strT_29 : strT Tryz.prog 29 = false := by kernel_rfl
@[simp] theorem boolT_29 : boolT Tryz.prog 29 = false := by kernel_rfl
@[simp] theorem elemT_29 : elemT Tryz.prog 29 = none := by kernel_rfl
@[simp] theorem rowT_29 : rowT Tryz.prog 29 = none := by kernel_rfl
@[simp] theorem structT_29 : structT Tryz.prog 29 = some [(0, 1), (1, 1)] := by kernel_rfl
@[simp] theorem fieldT_29_0 : fieldT Tryz.prog 29 0 = some (26, 0) := by kernel_rfl
@[simp] theorem fieldT_29_1 : fieldT Tryz.prog 29 1 = some (27, 1) := by kernel_rfl
@[simp] theorem zeroT_29 : zeroT Tryz.prog 29 = some [.slice none 0 0, .slice none 0 0] := by kernel_rfl
@[simp] theorem szOf_30 : szOf Tryz.prog 30 = some 1 := by kernel_rfl
@[simp] theorem aggT_30 : aggT Tryz.prog 30 = some false := by kernel_rfl
@[simp] theorem strT_30 : strT Tryz.prog 30 = false := by kernel_rfl
@[simp] theorem boolT_30 : boolT Tryz.prog 30 = false := by kernel_rfl
@[simp] theorem elemT_30 : elemT Tryz.prog 30 = some 146 := by kernel_rfl
@[simp] theorem rowT_30 : rowT Tryz.prog 30 = some (146, 4, 96) := by kernel_rfl
@[simp] theorem makeT_30 : makeT Tryz.prog 30 = some (4, 96, [.slice none 0 0, .slice none 0 0, .slice none 0 0, .slice none 0 0]) := by kernel_rfl
@[simp] theorem zeroT_30 : zeroT Tryz.prog 30 = some [.slice none 0 0] := by kernel_rfl
@[simp] theorem szOf_32 : szOf Tryz.prog 32 = some 5 := by kernel_rfl
@[simp] theorem aggT_32 : aggT Tryz.prog 32 = some true := by kernel_rfl
@[simp] theorem strT_32 : strT Tryz.prog 32 = false := by kernel_rfl
@[simp] theorem boolT_32 : boolT Tryz.prog 32 = false := by kernel_rfl
@[simp] theorem elemT_32 : elemT Tryz.prog 32 = none := by kernel_rfl
@[simp] theorem rowT_32 : rowT Tryz.prog 32 = none := by kernel_rfl
@[simp] theorem structT_32 : structT Tryz.prog 32 = some [(0, 1), (1, 1), (2, 2), (4, 1)] := by kernel_rfl
@[simp] theorem fieldT_32_0 : fieldT Tryz.prog 32 0 = some (9, 0) := by kernel_rfl
@[simp] theorem fieldT_32_1 : fieldT Tryz.prog 32 1 = some (3, 1) := by kernel_rfl
@[simp] theorem fieldT_32_2 : fieldT Tryz.prog 32 2 = some (29, 2) := by kernel_rfl
@[simp] theorem fieldT_32_3 : fieldT Tryz.prog 32 3 = some (30, 4) := by kernel_rfl
@[simp] theorem zeroT_32 : zeroT Tryz.prog 32 = some [.string ⟨#[]⟩, .int .i64 0, .slice none 0 0, .slice none 0 0, .slice none 0 0] := by kernel_rfl
@[simp] theorem szOf_36 : szOf Tryz.prog 36 = some 1 := by kernel_rfl
@[simp] theorem aggT_36 : aggT Tryz.prog 36 = some false := by kernel_rfl
@[simp] theorem strT_36 : strT Tryz.prog 36 = false := by kernel_rfl
@[simp] theorem boolT_36 : boolT Tryz.prog 36 = false := by kernel_rfl
@[simp] theorem elemT_36 : elemT Tryz.prog 36 = some 44 := by kernel_rfl
@[simp] theorem rowT_36 : rowT Tryz.prog 36 = some (44, 9, 184) := by kernel_rfl
@[simp] theorem makeT_36 : makeT Tryz.prog 36 = some (9, 184, [.int .i64 0, .slice none 0 0, .slice none 0 0, .slice none 0 0, .slice none 0 0, .slice none 0 0, .slice none 0 0, .int .i64 0, .slice none 0 0]) := by kernel_rfl
@[simp] theorem zeroT_36 : zeroT Tryz.prog 36 = some [.slice none 0 0] := by kernel_rfl
@[simp] theorem szOf_38 : szOf Tryz.prog 38 = some 2 := by kernel_rfl
@[simp] theorem aggT_38 : aggT Tryz.prog 38 = some true := by kernel_rfl
@[simp] theorem strT_38 : strT Tryz.prog 38 = false := by kernel_rfl
@[simp] theorem boolT_38 : boolT Tryz.prog 38 = false := by kernel_rfl
@[simp] theorem elemT_38 : elemT Tryz.prog 38 = none := by kernel_rfl
@[simp] theorem rowT_38 : rowT Tryz.prog 38 = none := by kernel_rfl
@[simp] theorem structT_38 : structT Tryz.prog 38 = some [(0, 1), (1, 1)] := by kernel_rfl
@[simp] theorem fieldT_38_0 : fieldT Tryz.prog 38 0 = some (26, 0) := by kernel_rfl
@[simp] theorem fieldT_38_1 : fieldT Tryz.prog 38 1 = some (26, 1) := by kernel_rfl
@[simp] theorem zeroT_38 : zeroT Tryz.prog 38 = some [.slice none 0 0, .slice none 0 0] := by kernel_rfl
@[simp] theorem szOf_39 : szOf Tryz.prog 39 = some 1 := by kernel_rfl
@[simp] theorem aggT_39 : aggT Tryz.prog 39 = some false := by kernel_rfl
@[simp] theorem strT_39 : strT Tryz.prog 39 = false := by kernel_rfl
@[simp] theorem boolT_39 : boolT Tryz.prog 39 = false := by kernel_rfl
@[simp] theorem elemT_39 : elemT Tryz.prog 39 = some 159 := by kernel_rfl
@[simp] theorem rowT_39 : rowT Tryz.prog 39 = some (159, 4, 32) := by kernel_rfl
@[simp] theorem makeT_39 : makeT Tryz.prog 39 = some (4, 32, [.int .i64 0, .int .i64 0, .int .i64 0, .int .i64 0]) := by kernel_rfl
@[simp] theorem zeroT_39 : zeroT Tryz.prog 39 = some [.slice none 0 0] := by kernel_rfl
@[simp] theorem szOf_40 : szOf Tryz.prog 40 = some 1 := by kernel_rfl
@[simp] theorem aggT_40 : aggT Tryz.prog 40 = some false := by kernel_rfl
@[simp] theorem strT_40 : strT Tryz.prog 40 = false := by kernel_rfl
@[simp] theorem boolT_40 : boolT Tryz.prog 40 = false := by kernel_rfl
@[simp] theorem elemT_40 : elemT Tryz.prog 40 = some 161 := by kernel_rfl
@[simp] theorem rowT_40 : rowT Tryz.prog 40 = some (161, 5, 40) := by kernel_rfl
@[simp] theorem makeT_40 : makeT Tryz.prog 40 = some (5, 40, [.int .i64 0, .int .i64 0, .int .i64 0, .int .i64 0, .int .i64 0]) := by kernel_rfl
@[simp] theorem zeroT_40 : zeroT Tryz.prog 40 = some [.slice none 0 0] := by kernel_rfl
@[simp] theorem szOf_42 : szOf Tryz.prog 42 = some 5 := by kernel_rfl
@[simp] theorem aggT_42 : aggT Tryz.prog 42 = some true := by kernel_rfl
@[simp] theorem strT_42 : strT Tryz.prog 42 = false := by kernel_rfl
@[simp] theorem boolT_42 : boolT Tryz.prog 42 = false := by kernel_rfl
@[simp] theorem elemT_42 : elemT Tryz.prog 42 = none := by kernel_rfl
@[simp] theorem rowT_42 : rowT Tryz.prog 42 = none := by kernel_rfl
@[simp] theorem structT_42 : structT Tryz.prog 42 = some [(0, 2), (2, 1), (3, 1), (4, 1)] := by kernel_rfl
@[simp] theorem fieldT_42_0 : fieldT Tryz.prog 42 0 = some (29, 0) := by kernel_rfl
@[simp] theorem fieldT_42_1 : fieldT Tryz.prog 42 1 = some (39, 2) := by kernel_rfl
@[simp] theorem fieldT_42_2 : fieldT Tryz.prog 42 2 = some (3, 3) := by kernel_rfl
@[simp] theorem fieldT_42_3 : fieldT Tryz.prog 42 3 = some (40, 4) := by kernel_rfl
@[simp] theorem zeroT_42 : zeroT Tryz.prog 42 = some [.slice none 0 0, .slice none 0 0, .slice none 0 0, .int .i64 0, .slice none 0 0] := by kernel_rfl
@[simp] theorem szOf_44 : szOf Tryz.prog 44 = some 9 := by kernel_rfl
@[simp] theorem aggT_44 : aggT Tryz.prog 44 = some true := by kernel_rfl
@[simp] theorem strT_44 : strT Tryz.prog 44 = false := by kernel_rfl
@[simp] theorem boolT_44 : boolT Tryz.prog 44 = false := by kernel_rfl
@[simp] theorem elemT_44 : elemT Tryz.prog 44 = none := by kernel_rfl
@[simp] theorem rowT_44 : rowT Tryz.prog 44 = none := by kernel_rfl
@[simp] theorem structT_44 : structT Tryz.prog 44 = some [(0, 1), (1, 1), (2, 2), (4, 5)] := by kernel_rfl
@[simp] theorem fieldT_44_0 : fieldT Tryz.prog 44 0 = some (3, 0) := by kernel_rfl
@[simp] theorem fieldT_44_1 : fieldT Tryz.prog 44 1 = some (36, 1) := by kernel_rfl
@[simp] theorem fieldT_44_2 : fieldT Tryz.prog 44 2 = some (38, 2) := by kernel_rfl
@[simp] theorem fieldT_44_3 : fieldT Tryz.prog 44 3 = some (42, 4) := by kernel_rfl
@[simp] theorem zeroT_44 : zeroT Tryz.prog 44 = some [.int .i64 0, .slice none 0 0, .slice none 0 0, .slice none 0 0, .slice none 0 0, .slice none 0 0, .slice none 0 0, .int .i64 0, .slice none 0 0] := by kernel_rfl
@[simp] theorem szOf_45 : szOf Tryz.prog 45 = some 1 := by kernel_rfl
@[simp] theorem aggT_45 : aggT Tryz.prog 45 = some false := by kernel_rfl
@[simp] theorem strT_45 : strT Tryz.prog 45 = false := by kernel_rfl
@[simp] theorem boolT_45 : boolT Tryz.prog 45 = false := by kernel_rfl
@[simp] theorem elemT_45 : elemT Tryz.prog 45 = none := by kernel_rfl
@[simp] theorem rowT_45 : rowT Tryz.prog 45 = none := by kernel_rfl
@[simp] theorem kindT_45 : kindT Tryz.prog 45 = some .i64 := by kernel_rfl
@[simp] theorem zeroT_45 : zeroT Tryz.prog 45 = some [.int .i64 0] := by kernel_rfl
@[simp] theorem szOf_57 : szOf Tryz.prog 57 = some 1 := by kernel_rfl
@[simp] theorem aggT_57 : aggT Tryz.prog 57 = some false := by kernel_rfl
@[simp] theorem strT_57 : strT Tryz.prog 57 = false := by kernel_rfl
@[simp] theorem boolT_57 : boolT Tryz.prog 57 = false := by kernel_rfl
@[simp] theorem elemT_57 : elemT Tryz.prog 57 = some 59 := by kernel_rfl
@[simp] theorem rowT_57 : rowT Tryz.prog 57 = some (59, 3, 48) := by kernel_rfl
@[simp] theorem makeT_57 : makeT Tryz.prog 57 = some (3, 48, [.int .i64 0, .string ⟨#[]⟩, .slice none 0 0]) := by kernel_rfl
@[simp] theorem zeroT_57 : zeroT Tryz.prog 57 = some [.slice none 0 0] := by kernel_rfl
@[simp] theorem szOf_59 : szOf Tryz.prog 59 = some 3 := by kernel_rfl
@[simp] theorem aggT_59 : aggT Tryz.prog 59 = some true := by kernel_rfl
@[simp] theorem strT_59 : strT Tryz.prog 59 = false := by kernel_rfl
@[simp] theorem boolT_59 : boolT Tryz.prog 59 = false := by kernel_rfl
@[simp] theorem elemT_59 : elemT Tryz.prog 59 = none := by kernel_rfl
@[simp] theorem rowT_59 : rowT Tryz.prog 59 = none := by kernel_rfl
@[simp] theorem structT_59 : structT Tryz.prog 59 = some [(0, 1), (1, 1), (2, 1)] := by kernel_rfl
@[simp] theorem fieldT_59_0 : fieldT Tryz.prog 59 0 = some (3, 0) := by kernel_rfl
@[simp] theorem fieldT_59_1 : fieldT Tryz.prog 59 1 = some (9, 1) := by kernel_rfl
@[simp] theorem fieldT_59_2 : fieldT Tryz.prog 59 2 = some (57, 2) := by kernel_rfl
@[simp] theorem zeroT_59 : zeroT Tryz.prog 59 = some [.int .i64 0, .string ⟨#[]⟩, .slice none 0 0] := by kernel_rfl
@[simp] theorem szOf_60 : szOf Tryz.prog 60 = some 1 := by kernel_rfl
@[simp] theorem aggT_60 : aggT Tryz.prog 60 = some false := by kernel_rfl
@[simp] theorem strT_60 : strT Tryz.prog 60 = false := by kernel_rfl
@[simp] theorem boolT_60 : boolT Tryz.prog 60 = false := by kernel_rfl
@[simp] theorem elemT_60 : elemT Tryz.prog 60 = some 32 := by kernel_rfl
@[simp] theorem rowT_60 : rowT Tryz.prog 60 = some (32, 5, 96) := by kernel_rfl
@[simp] theorem makeT_60 : makeT Tryz.prog 60 = some (5, 96, [.string ⟨#[]⟩, .int .i64 0, .slice none 0 0, .slice none 0 0, .slice none 0 0]) := by kernel_rfl
@[simp] theorem zeroT_60 : zeroT Tryz.prog 60 = some [.slice none 0 0] := by kernel_rfl
@[simp] theorem szOf_62 : szOf Tryz.prog 62 = some 4 := by kernel_rfl
@[simp] theorem aggT_62 : aggT Tryz.prog 62 = some true := by kernel_rfl
@[simp] theorem strT_62 : strT Tryz.prog 62 = false := by kernel_rfl
@[simp] theorem boolT_62 : boolT Tryz.prog 62 = false := by kernel_rfl
@[simp] theorem elemT_62 : elemT Tryz.prog 62 = none := by kernel_rfl
@[simp] theorem rowT_62 : rowT Tryz.prog 62 = none := by kernel_rfl
@[simp] theorem structT_62 : structT Tryz.prog 62 = some [(0, 3), (3, 1)] := by kernel_rfl
@[simp] theorem fieldT_62_0 : fieldT Tryz.prog 62 0 = some (59, 0) := by kernel_rfl
@[simp] theorem fieldT_62_1 : fieldT Tryz.prog 62 1 = some (60, 3) := by kernel_rfl
@[simp] theorem zeroT_62 : zeroT Tryz.prog 62 = some [.int .i64 0, .string ⟨#[]⟩, .slice none 0 0, .slice none 0 0] := by kernel_rfl
@[simp] theorem szOf_66 : szOf Tryz.prog 66 = some 1 := by kernel_rfl
@[simp] theorem aggT_66 : aggT Tryz.prog 66 = some false := by kernel_rfl
@[simp] theorem strT_66 : strT Tryz.prog 66 = false := by kernel_rfl
@[simp] theorem boolT_66 : boolT Tryz.prog 66 = false := by kernel_rfl
@[simp] theorem elemT_66 : elemT Tryz.prog 66 = some 5 := by kernel_rfl
@[simp] theorem rowT_66 : rowT Tryz.prog 66 = some (5, 1, 1) := by kernel_rfl
@[simp] theorem makeT_66 : makeT Tryz.prog 66 = some (1, 1, [.int .u8 0]) := by kernel_rfl
@[simp] theorem zeroT_66 : zeroT Tryz.prog 66 = some [.slice none 0 0] := by kernel_rfl
@[simp] theorem szOf_67 : szOf Tryz.prog 67 = some 1 := by kernel_rfl
@[simp] theorem aggT_67 : aggT Tryz.prog 67 = some false := by kernel_rfl
@[simp] theorem strT_67 : strT Tryz.prog 67 = false := by kernel_rfl
@[simp] theorem boolT_67 : boolT Tryz.prog 67 = false := by kernel_rfl
@[simp] theorem elemT_67 : elemT Tryz.prog 67 = some 169 := by kernel_rfl
@[simp] theorem rowT_67 : rowT Tryz.prog 67 = some (169, 2, 2) := by kernel_rfl
@[simp] theorem makeT_67 : makeT Tryz.prog 67 = some (2, 2, [.int .u8 0, .int .u8 0]) := by kernel_rfl
@[simp] theorem zeroT_67 : zeroT Tryz.prog 67 = some [.slice none 0 0] := by kernel_rfl
@[simp] theorem szOf_69 : szOf Tryz.prog 69 = some 2 := by kernel_rfl
@[simp] theorem aggT_69 : aggT Tryz.prog 69 = some true := by kernel_rfl
@[simp] theorem strT_69 : strT Tryz.prog 69 = false := by kernel_rfl
@[simp] theorem boolT_69 : boolT Tryz.prog 69 = false := by kernel_rfl
@[simp] theorem elemT_69 : elemT Tryz.prog 69 = none := by kernel_rfl
@[simp] theorem rowT_69 : rowT Tryz.prog 69 = none := by kernel_rfl
@[simp] theorem structT_69 : structT Tryz.prog 69 = some [(0, 1), (1, 1)] := by kernel_rfl
@[simp] theorem fieldT_69_0 : fieldT Tryz.prog 69 0 = some (66, 0) := by kernel_rfl
@[simp] theorem fieldT_69_1 : fieldT Tryz.prog 69 1 = some (67, 1) := by kernel_rfl
@[simp] theorem zeroT_69 : zeroT Tryz.prog 69 = some [.slice none 0 0, .slice none 0 0] := by kernel_rfl
@[simp] theorem szOf_70 : szOf Tryz.prog 70 = some 1 := by kernel_rfl
@[simp] theorem aggT_70 : aggT Tryz.prog 70 = some false := by kernel_rfl
@[simp] theorem strT_70 : strT Tryz.prog 70 = false := by kernel_rfl
@[simp] theorem boolT_70 : boolT Tryz.prog 70 = false := by kernel_rfl
@[simp] theorem elemT_70 : elemT Tryz.prog 70 = some 116 := by kernel_rfl
@[simp] theorem rowT_70 : rowT Tryz.prog 70 = some (116, 3, 72) := by kernel_rfl
@[simp] theorem makeT_70 : makeT Tryz.prog 70 = some (3, 72, [.slice none 0 0, .slice none 0 0, .slice none 0 0]) := by kernel_rfl
@[simp] theorem zeroT_70 : zeroT Tryz.prog 70 = some [.slice none 0 0] := by kernel_rfl
@[simp] theorem szOf_71 : szOf Tryz.prog 71 = some 1 := by kernel_rfl
@[simp] theorem aggT_71 : aggT Tryz.prog 71 = some false := by kernel_rfl
@[simp] theorem strT_71 : strT Tryz.prog 71 = false := by kernel_rfl
@[simp] theorem boolT_71 : boolT Tryz.prog 71 = false := by kernel_rfl
@[simp] theorem elemT_71 : elemT Tryz.prog 71 = some 94 := by kernel_rfl
@[simp] theorem rowT_71 : rowT Tryz.prog 71 = some (94, 6, 96) := by kernel_rfl
@[simp] theorem makeT_71 : makeT Tryz.prog 71 = some (6, 96, [.int .i64 0, .int .i64 0, .int .i64 0, .slice none 0 0, .slice none 0 0, .slice none 0 0]) := by kernel_rfl
@[simp] theorem zeroT_71 : zeroT Tryz.prog 71 = some [.slice none 0 0] := by kernel_rfl
@[simp] theorem szOf_73 : szOf Tryz.prog 73 = some 2 := by kernel_rfl
@[simp] theorem aggT_73 : aggT Tryz.prog 73 = some true := by kernel_rfl
@[simp] theorem strT_73 : strT Tryz.prog 73 = false := by kernel_rfl
@[simp] theorem boolT_73 : boolT Tryz.prog 73 = false := by kernel_rfl
@[simp] theorem elemT_73 : elemT Tryz.prog 73 = none := by kernel_rfl
@[simp] theorem rowT_73 : rowT Tryz.prog 73 = none := by kernel_rfl
@[simp] theorem structT_73 : structT Tryz.prog 73 = some [(0, 1), (1, 1)] := by kernel_rfl
@[simp] theorem fieldT_73_0 : fieldT Tryz.prog 73 0 = some (70, 0) := by kernel_rfl
@[simp] theorem fieldT_73_1 : fieldT Tryz.prog 73 1 = some (71, 1) := by kernel_rfl
@[simp] theorem zeroT_73 : zeroT Tryz.prog 73 = some [.slice none 0 0, .slice none 0 0] := by kernel_rfl
@[simp] theorem szOf_78 : szOf Tryz.prog 78 = some 6 := by kernel_rfl
@[simp] theorem aggT_78 : aggT Tryz.prog 78 = some true := by kernel_rfl
@[simp] theorem strT_78 : strT Tryz.prog 78 = false := by kernel_rfl
@[simp] theorem boolT_78 : boolT Tryz.prog 78 = false := by kernel_rfl
@[simp] theorem elemT_78 : elemT Tryz.prog 78 = none := by kernel_rfl
@[simp] theorem rowT_78 : rowT Tryz.prog 78 = none := by kernel_rfl
@[simp] theorem arrT_78 : arrT Tryz.prog 78 = some (2, 59) := by kernel_rfl
@[simp] theorem zeroT_78 : zeroT Tryz.prog 78 = some [.int .i64 0, .string ⟨#[]⟩, .slice none 0 0, .int .i64 0, .string ⟨#[]⟩, .slice none 0 0] := by kernel_rfl
@[simp] theorem szOf_79 : szOf Tryz.prog 79 = some 1 := by kernel_rfl
@[simp] theorem aggT_79 : aggT Tryz.prog 79 = some false := by kernel_rfl
@[simp] theorem strT_79 : strT Tryz.prog 79 = false := by kernel_rfl
@[simp] theorem boolT_79 : boolT Tryz.prog 79 = false := by kernel_rfl
@[simp] theorem elemT_79 : elemT Tryz.prog 79 = some 78 := by kernel_rfl
@[simp] theorem rowT_79 : rowT Tryz.prog 79 = some (78, 6, 96) := by kernel_rfl
@[simp] theorem makeT_79 : makeT Tryz.prog 79 = some (6, 96, [.int .i64 0, .string ⟨#[]⟩, .slice none 0 0, .int .i64 0, .string ⟨#[]⟩, .slice none 0 0]) := by kernel_rfl
@[simp] theorem zeroT_79 : zeroT Tryz.prog 79 = some [.slice none 0 0] := by kernel_rfl
@[simp] theorem szOf_80 : szOf Tryz.prog 80 = some 1 := by kernel_rfl
@[simp] theorem aggT_80 : aggT Tryz.prog 80 = some false := by kernel_rfl
@[simp] theorem strT_80 : strT Tryz.prog 80 = false := by kernel_rfl
@[simp] theorem boolT_80 : boolT Tryz.prog 80 = false := by kernel_rfl
@[simp] theorem elemT_80 : elemT Tryz.prog 80 = some 4 := by kernel_rfl
@[simp] theorem rowT_80 : rowT Tryz.prog 80 = some (4, 1, 1) := by kernel_rfl
@[simp] theorem makeT_80 : makeT Tryz.prog 80 = some (1, 1, [.bool false]) := by kernel_rfl
@[simp] theorem zeroT_80 : zeroT Tryz.prog 80 = some [.slice none 0 0] := by kernel_rfl
@[simp] theorem szOf_92 : szOf Tryz.prog 92 = some 3 := by kernel_rfl
@[simp] theorem aggT_92 : aggT Tryz.prog 92 = some true := by kernel_rfl
@[simp] theorem strT_92 : strT Tryz.prog 92 = false := by kernel_rfl
@[simp] theorem boolT_92 : boolT Tryz.prog 92 = false := by kernel_rfl
@[simp] theorem elemT_92 : elemT Tryz.prog 92 = none := by kernel_rfl
@[simp] theorem rowT_92 : rowT Tryz.prog 92 = none := by kernel_rfl
@[simp] theorem structT_92 : structT Tryz.prog 92 = some [(0, 2), (2, 1)] := by kernel_rfl
@[simp] theorem fieldT_92_0 : fieldT Tryz.prog 92 0 = some (38, 0) := by kernel_rfl
@[simp] theorem fieldT_92_1 : fieldT Tryz.prog 92 1 = some (26, 2) := by kernel_rfl
@[simp] theorem zeroT_92 : zeroT Tryz.prog 92 = some [.slice none 0 0, .slice none 0 0, .slice none 0 0] := by kernel_rfl
@[simp] theorem szOf_94 : szOf Tryz.prog 94 = some 6 := by kernel_rfl
@[simp] theorem aggT_94 : aggT Tryz.prog 94 = some true := by kernel_rfl
@[simp] theorem strT_94 : strT Tryz.prog 94 = false := by kernel_rfl
@[simp] theorem boolT_94 : boolT Tryz.prog 94 = false := by kernel_rfl
@[simp] theorem elemT_94 : elemT Tryz.prog 94 = none := by kernel_rfl
@[simp] theorem rowT_94 : rowT Tryz.prog 94 = none := by kernel_rfl
@[simp] theorem structT_94 : structT Tryz.prog 94 = some [(0, 1), (1, 1), (2, 1), (3, 3)] := by kernel_rfl
@[simp] theorem fieldT_94_0 : fieldT Tryz.prog 94 0 = some (3, 0) := by kernel_rfl
@[simp] theorem fieldT_94_1 : fieldT Tryz.prog 94 1 = some (3, 1) := by kernel_rfl
@[simp] theorem fieldT_94_2 : fieldT Tryz.prog 94 2 = some (3, 2) := by kernel_rfl
@[simp] theorem fieldT_94_3 : fieldT Tryz.prog 94 3 = some (92, 3) := by kernel_rfl
@[simp] theorem zeroT_94 : zeroT Tryz.prog 94 = some [.int .i64 0, .int .i64 0, .int .i64 0, .slice none 0 0, .slice none 0 0, .slice none 0 0] := by kernel_rfl
@[simp] theorem szOf_96 : szOf Tryz.prog 96 = some 1 := by kernel_rfl
@[simp] theorem aggT_96 : aggT Tryz.prog 96 = some false := by kernel_rfl
@[simp] theorem strT_96 : strT Tryz.prog 96 = false := by kernel_rfl
@[simp] theorem boolT_96 : boolT Tryz.prog 96 = false := by kernel_rfl
@[simp] theorem elemT_96 : elemT Tryz.prog 96 = some 193 := by kernel_rfl
@[simp] theorem rowT_96 : rowT Tryz.prog 96 = some (193, 3, 3) := by kernel_rfl
@[simp] theorem makeT_96 : makeT Tryz.prog 96 = some (3, 3, [.int .u8 0, .int .u8 0, .int .u8 0]) := by kernel_rfl
@[simp] theorem zeroT_96 : zeroT Tryz.prog 96 = some [.slice none 0 0] := by kernel_rfl
@[simp] theorem szOf_97 : szOf Tryz.prog 97 = some 1 := by kernel_rfl
@[simp] theorem aggT_97 : aggT Tryz.prog 97 = some false := by kernel_rfl
@[simp] theorem strT_97 : strT Tryz.prog 97 = false := by kernel_rfl
@[simp] theorem boolT_97 : boolT Tryz.prog 97 = false := by kernel_rfl
@[simp] theorem elemT_97 : elemT Tryz.prog 97 = some 66 := by kernel_rfl
@[simp] theorem rowT_97 : rowT Tryz.prog 97 = some (66, 1, 24) := by kernel_rfl
@[simp] theorem makeT_97 : makeT Tryz.prog 97 = some (1, 24, [.slice none 0 0]) := by kernel_rfl
@[simp] theorem zeroT_97 : zeroT Tryz.prog 97 = some [.slice none 0 0] := by kernel_rfl
@[simp] theorem szOf_99 : szOf Tryz.prog 99 = some 3 := by kernel_rfl
@[simp] theorem aggT_99 : aggT Tryz.prog 99 = some true := by kernel_rfl
@[simp] theorem strT_99 : strT Tryz.prog 99 = false := by kernel_rfl
@[simp] theorem boolT_99 : boolT Tryz.prog 99 = false := by kernel_rfl
@[simp] theorem elemT_99 : elemT Tryz.prog 99 = none := by kernel_rfl
@[simp] theorem rowT_99 : rowT Tryz.prog 99 = none := by kernel_rfl
@[simp] theorem structT_99 : structT Tryz.prog 99 = some [(0, 1), (1, 1), (2, 1)] := by kernel_rfl
@[simp] theorem fieldT_99_0 : fieldT Tryz.prog 99 0 = some (66, 0) := by kernel_rfl
@[simp] theorem fieldT_99_1 : fieldT Tryz.prog 99 1 = some (96, 1) := by kernel_rfl
@[simp] theorem fieldT_99_2 : fieldT Tryz.prog 99 2 = some (97, 2) := by kernel_rfl
@[simp] theorem zeroT_99 : zeroT Tryz.prog 99 = some [.slice none 0 0, .slice none 0 0, .slice none 0 0] := by kernel_rfl
@[simp] theorem szOf_101 : szOf Tryz.prog 101 = some 7 := by kernel_rfl
@[simp] theorem aggT_101 : aggT Tryz.prog 101 = some true := by kernel_rfl
@[simp] theorem strT_101 : strT Tryz.prog 101 = false := by kernel_rfl
@[simp] theorem boolT_101 : boolT Tryz.prog 101 = false := by kernel_rfl
@[simp] theorem elemT_101 : elemT Tryz.prog 101 = none := by kernel_rfl
@[simp] theorem rowT_101 : rowT Tryz.prog 101 = none := by kernel_rfl
@[simp] theorem structT_101 : structT Tryz.prog 101 = some [(0, 1), (1, 1), (2, 3), (5, 1), (6, 1)] := by kernel_rfl
@[simp] theorem fieldT_101_0 : fieldT Tryz.prog 101 0 = some (67, 0) := by kernel_rfl
@[simp] theorem fieldT_101_1 : fieldT Tryz.prog 101 1 = some (67, 1) := by kernel_rfl
@[simp] theorem fieldT_101_2 : fieldT Tryz.prog 101 2 = some (99, 2) := by kernel_rfl
@[simp] theorem fieldT_101_3 : fieldT Tryz.prog 101 3 = some (66, 5) := by kernel_rfl
@[simp] theorem fieldT_101_4 : fieldT Tryz.prog 101 4 = some (96, 6) := by kernel_rfl
@[simp] theorem zeroT_101 : zeroT Tryz.prog 101 = some [.slice none 0 0, .slice none 0 0, .slice none 0 0, .slice none 0 0, .slice none 0 0, .slice none 0 0, .slice none 0 0] := by kernel_rfl
@[simp] theorem szOf_104 : szOf Tryz.prog 104 = some 1 := by kernel_rfl
@[simp] theorem aggT_104 : aggT Tryz.prog 104 = some false := by kernel_rfl
@[simp] theorem strT_104 : strT Tryz.prog 104 = false := by kernel_rfl
@[simp] theorem boolT_104 : boolT Tryz.prog 104 = false := by kernel_rfl
@[simp] theorem elemT_104 : elemT Tryz.prog 104 = some 141 := by kernel_rfl
@[simp] theorem rowT_104 : rowT Tryz.prog 104 = some (141, 4, 56) := by kernel_rfl
@[simp] theorem makeT_104 : makeT Tryz.prog 104 = some (4, 56, [.string ⟨#[]⟩, .int .i64 0, .int .i64 0, .slice none 0 0]) := by kernel_rfl
@[simp] theorem zeroT_104 : zeroT Tryz.prog 104 = some [.slice none 0 0] := by kernel_rfl
@[simp] theorem szOf_106 : szOf Tryz.prog 106 = some 4 := by kernel_rfl
@[simp] theorem aggT_106 : aggT Tryz.prog 106 = some true := by kernel_rfl
@[simp] theorem strT_106 : strT Tryz.prog 106 = false := by kernel_rfl
@[simp] theorem boolT_106 : boolT Tryz.prog 106 = false := by kernel_rfl
@[simp] theorem elemT_106 : elemT Tryz.prog 106 = none := by kernel_rfl
@[simp] theorem rowT_106 : rowT Tryz.prog 106 = none := by kernel_rfl
@[simp] theorem structT_106 : structT Tryz.prog 106 = some [(0, 1), (1, 1), (2, 1), (3, 1)] := by kernel_rfl
@[simp] theorem fieldT_106_0 : fieldT Tryz.prog 106 0 = some (9, 0) := by kernel_rfl
@[simp] theorem fieldT_106_1 : fieldT Tryz.prog 106 1 = some (3, 1) := by kernel_rfl
@[simp] theorem fieldT_106_2 : fieldT Tryz.prog 106 2 = some (4, 2) := by kernel_rfl
@[simp] theorem fieldT_106_3 : fieldT Tryz.prog 106 3 = some (104, 3) := by kernel_rfl
@[simp] theorem zeroT_106 : zeroT Tryz.prog 106 = some [.string ⟨#[]⟩, .int .i64 0, .bool false, .slice none 0 0] := by kernel_rfl
@[simp] theorem szOf_111 : szOf Tryz.prog 111 = some 1 := by kernel_rfl
@[simp] theorem aggT_111 : aggT Tryz.prog 111 = some false := by kernel_rfl
@[simp] theorem strT_111 : strT Tryz.prog 111 = false := by kernel_rfl
@[simp] theorem boolT_111 : boolT Tryz.prog 111 = false := by kernel_rfl
@[simp] theorem elemT_111 : elemT Tryz.prog 111 = some 265 := by kernel_rfl
@[simp] theorem rowT_111 : rowT Tryz.prog 111 = some (265, 4, 32) := by kernel_rfl
@[simp] theorem makeT_111 : makeT Tryz.prog 111 = some (4, 32, [.int .i64 0, .int .i64 0, .int .i64 0, .bool false]) := by kernel_rfl
@[simp] theorem zeroT_111 : zeroT Tryz.prog 111 = some [.slice none 0 0] := by kernel_rfl
@[simp] theorem szOf_114 : szOf Tryz.prog 114 = some 1 := by kernel_rfl
@[simp] theorem aggT_114 : aggT Tryz.prog 114 = some false := by kernel_rfl
@[simp] theorem strT_114 : strT Tryz.prog 114 = false := by kernel_rfl
@[simp] theorem boolT_114 : boolT Tryz.prog 114 = false := by kernel_rfl
@[simp] theorem elemT_114 : elemT Tryz.prog 114 = some 26 := by kernel_rfl
@[simp] theorem rowT_114 : rowT Tryz.prog 114 = some (26, 1, 24) := by kernel_rfl
@[simp] theorem makeT_114 : makeT Tryz.prog 114 = some (1, 24, [.slice none 0 0]) := by kernel_rfl
@[simp] theorem zeroT_114 : zeroT Tryz.prog 114 = some [.slice none 0 0] := by kernel_rfl
@[simp] theorem szOf_116 : szOf Tryz.prog 116 = some 3 := by kernel_rfl
@[simp] theorem aggT_116 : aggT Tryz.prog 116 = some true := by kernel_rfl
@[simp] theorem strT_116 : strT Tryz.prog 116 = false := by kernel_rfl
@[simp] theorem boolT_116 : boolT Tryz.prog 116 = false := by kernel_rfl
@[simp] theorem elemT_116 : elemT Tryz.prog 116 = none := by kernel_rfl
@[simp] theorem rowT_116 : rowT Tryz.prog 116 = none := by kernel_rfl
@[simp] theorem structT_116 : structT Tryz.prog 116 = some [(0, 2), (2, 1)] := by kernel_rfl
@[simp] theorem fieldT_116_0 : fieldT Tryz.prog 116 0 = some (29, 0) := by kernel_rfl
@[simp] theorem fieldT_116_1 : fieldT Tryz.prog 116 1 = some (114, 2) := by kernel_rfl
@[simp] theorem zeroT_116 : zeroT Tryz.prog 116 = some [.slice none 0 0, .slice none 0 0, .slice none 0 0] := by kernel_rfl
@[simp] theorem szOf_117 : szOf Tryz.prog 117 = some 1 := by kernel_rfl
@[simp] theorem aggT_117 : aggT Tryz.prog 117 = some false := by kernel_rfl
@[simp] theorem strT_117 : strT Tryz.prog 117 = false := by kernel_rfl
@[simp] theorem boolT_117 : boolT Tryz.prog 117 = false := by kernel_rfl
@[simp] theorem elemT_117 : elemT Tryz.prog 117 = some 38 := by kernel_rfl
@[simp] theorem rowT_117 : rowT Tryz.prog 117 = some (38, 2, 48) := by kernel_rfl
@[simp] theorem makeT_117 : makeT Tryz.prog 117 = some (2, 48, [.slice none 0 0, .slice none 0 0]) := by kernel_rfl
@[simp] theorem zeroT_117 : zeroT Tryz.prog 117 = some [.slice none 0 0] := by kernel_rfl
@[simp] theorem szOf_127 : szOf Tryz.prog 127 = some 1 := by kernel_rfl
@[simp] theorem aggT_127 : aggT Tryz.prog 127 = some false := by kernel_rfl
@[simp] theorem strT_127 : strT Tryz.prog 127 = false := by kernel_rfl
@[simp] theorem boolT_127 : boolT Tryz.prog 127 = false := by kernel_rfl
@[simp] theorem elemT_127 : elemT Tryz.prog 127 = none := by kernel_rfl
@[simp] theorem rowT_127 : rowT Tryz.prog 127 = none := by kernel_rfl
@[simp] theorem zeroT_127 : zeroT Tryz.prog 127 = some [.pointer none] := by kernel_rfl
@[simp] theorem szOf_129 : szOf Tryz.prog 129 = some 2 := by kernel_rfl
@[simp] theorem aggT_129 : aggT Tryz.prog 129 = some true := by kernel_rfl
@[simp] theorem strT_129 : strT Tryz.prog 129 = false := by kernel_rfl
@[simp] theorem boolT_129 : boolT Tryz.prog 129 = false := by kernel_rfl
@[simp] theorem elemT_129 : elemT Tryz.prog 129 = none := by kernel_rfl
@[simp] theorem rowT_129 : rowT Tryz.prog 129 = none := by kernel_rfl
@[simp] theorem structT_129 : structT Tryz.prog 129 = some [(0, 1), (1, 1)] := by kernel_rfl
@[simp] theorem fieldT_129_0 : fieldT Tryz.prog 129 0 = some (127, 0) := by kernel_rfl
@[simp] theorem fieldT_129_1 : fieldT Tryz.prog 129 1 = some (66, 1) := by kernel_rfl
@[simp] theorem zeroT_129 : zeroT Tryz.prog 129 = some [.pointer none, .slice none 0 0] := by kernel_rfl
@[simp] theorem szOf_130 : szOf Tryz.prog 130 = some 1 := by kernel_rfl
@[simp] theorem aggT_130 : aggT Tryz.prog 130 = some false := by kernel_rfl
@[simp] theorem strT_130 : strT Tryz.prog 130 = false := by kernel_rfl
@[simp] theorem boolT_130 : boolT Tryz.prog 130 = false := by kernel_rfl
@[simp] theorem elemT_130 : elemT Tryz.prog 130 = some 9 := by kernel_rfl
@[simp] theorem rowT_130 : rowT Tryz.prog 130 = some (9, 1, 16) := by kernel_rfl
@[simp] theorem makeT_130 : makeT Tryz.prog 130 = some (1, 16, [.string ⟨#[]⟩]) := by kernel_rfl
@[simp] theorem zeroT_130 : zeroT Tryz.prog 130 = some [.slice none 0 0] := by kernel_rfl
@[simp] theorem szOf_133 : szOf Tryz.prog 133 = some 1 := by kernel_rfl
@[simp] theorem aggT_133 : aggT Tryz.prog 133 = some false := by kernel_rfl
@[simp] theorem strT_133 : strT Tryz.prog 133 = false := by kernel_rfl
@[simp] theorem boolT_133 : boolT Tryz.prog 133 = false := by kernel_rfl
@[simp] theorem elemT_133 : elemT Tryz.prog 133 = none := by kernel_rfl
@[simp] theorem rowT_133 : rowT Tryz.prog 133 = none := by kernel_rfl
@[simp] theorem zeroT_133 : zeroT Tryz.prog 133 = some [.nilIface] := by kernel_rfl
@[simp] theorem szOf_139 : szOf Tryz.prog 139 = some 3 := by kernel_rfl
@[simp] theorem aggT_139 : aggT Tryz.prog 139 = some true := by kernel_rfl
@[simp] theorem strT_139 : strT Tryz.prog 139 = false := by kernel_rfl
@[simp] theorem boolT_139 : boolT Tryz.prog 139 = false := by kernel_rfl
@[simp] theorem elemT_139 : elemT Tryz.prog 139 = none := by kernel_rfl
@[simp] theorem rowT_139 : rowT Tryz.prog 139 = none := by kernel_rfl
@[simp] theorem eqT_139 : eqT Tryz.prog 139 = some 3 := by kernel_rfl
@[simp] theorem structT_139 : structT Tryz.prog 139 = some [(0, 1), (1, 1), (2, 1)] := by kernel_rfl
@[simp] theorem fieldT_139_0 : fieldT Tryz.prog 139 0 = some (3, 0) := by kernel_rfl
@[simp] theorem fieldT_139_1 : fieldT Tryz.prog 139 1 = some (3, 1) := by kernel_rfl
@[simp] theorem fieldT_139_2 : fieldT Tryz.prog 139 2 = some (3, 2) := by kernel_rfl
@[simp] theorem zeroT_139 : zeroT Tryz.prog 139 = some [.int .i64 0, .int .i64 0, .int .i64 0] := by kernel_rfl
@[simp] theorem szOf_141 : szOf Tryz.prog 141 = some 4 := by kernel_rfl
@[simp] theorem aggT_141 : aggT Tryz.prog 141 = some true := by kernel_rfl
@[simp] theorem strT_141 : strT Tryz.prog 141 = false := by kernel_rfl
@[simp] theorem boolT_141 : boolT Tryz.prog 141 = false := by kernel_rfl
@[simp] theorem elemT_141 : elemT Tryz.prog 141 = none := by kernel_rfl
@[simp] theorem rowT_141 : rowT Tryz.prog 141 = none := by kernel_rfl
@[simp] theorem structT_141 : structT Tryz.prog 141 = some [(0, 1), (1, 1), (2, 1), (3, 1)] := by kernel_rfl
@[simp] theorem fieldT_141_0 : fieldT Tryz.prog 141 0 = some (9, 0) := by kernel_rfl
@[simp] theorem fieldT_141_1 : fieldT Tryz.prog 141 1 = some (3, 1) := by kernel_rfl
@[simp] theorem fieldT_141_2 : fieldT Tryz.prog 141 2 = some (3, 2) := by kernel_rfl
@[simp] theorem fieldT_141_3 : fieldT Tryz.prog 141 3 = some (130, 3) := by kernel_rfl
@[simp] theorem zeroT_141 : zeroT Tryz.prog 141 = some [.string ⟨#[]⟩, .int .i64 0, .int .i64 0, .slice none 0 0] := by kernel_rfl
@[simp] theorem szOf_143 : szOf Tryz.prog 143 = some 7 := by kernel_rfl
@[simp] theorem aggT_143 : aggT Tryz.prog 143 = some true := by kernel_rfl
@[simp] theorem strT_143 : strT Tryz.prog 143 = false := by kernel_rfl
@[simp] theorem boolT_143 : boolT Tryz.prog 143 = false := by kernel_rfl
@[simp] theorem elemT_143 : elemT Tryz.prog 143 = none := by kernel_rfl
@[simp] theorem rowT_143 : rowT Tryz.prog 143 = none := by kernel_rfl
@[simp] theorem structT_143 : structT Tryz.prog 143 = some [(0, 1), (1, 1), (2, 1), (3, 1), (4, 1), (5, 1), (6, 1)] := by kernel_rfl
@[simp] theorem fieldT_143_0 : fieldT Tryz.prog 143 0 = some (9, 0) := by kernel_rfl
@[simp] theorem fieldT_143_1 : fieldT Tryz.prog 143 1 = some (3, 1) := by kernel_rfl
@[simp] theorem fieldT_143_2 : fieldT Tryz.prog 143 2 = some (3, 2) := by kernel_rfl
@[simp] theorem fieldT_143_3 : fieldT Tryz.prog 143 3 = some (3, 3) := by kernel_rfl
@[simp] theorem fieldT_143_4 : fieldT Tryz.prog 143 4 = some (3, 4) := by kernel_rfl
@[simp] theorem fieldT_143_5 : fieldT Tryz.prog 143 5 = some (3, 5) := by kernel_rfl
@[simp] theorem fieldT_143_6 : fieldT Tryz.prog 143 6 = some (3, 6) := by kernel_rfl
@[simp] theorem zeroT_143 : zeroT Tryz.prog 143 = some [.string ⟨#[]⟩, .int .i64 0, .int .i64 0, .int .i64 0, .int .i64 0, .int .i64 0, .int .i64 0] := by kernel_rfl
@[simp] theorem szOf_146 : szOf Tryz.prog 146 = some 4 := by kernel_rfl
@[simp] theorem aggT_146 : aggT Tryz.prog 146 = some true := by kernel_rfl
@[simp] theorem strT_146 : strT Tryz.prog 146 = false := by kernel_rfl
@[simp] theorem boolT_146 : boolT Tryz.prog 146 = false := by kernel_rfl
@[simp] theorem elemT_146 : elemT Tryz.prog 146 = none := by kernel_rfl
@[simp] theorem rowT_146 : rowT Tryz.prog 146 = none := by kernel_rfl
@[simp] theorem structT_146 : structT Tryz.prog 146 = some [(0, 2), (2, 2)] := by kernel_rfl
@[simp] theorem fieldT_146_0 : fieldT Tryz.prog 146 0 = some (38, 0) := by kernel_rfl
@[simp] theorem fieldT_146_1 : fieldT Tryz.prog 146 1 = some (29, 2) := by kernel_rfl
@[simp] theorem zeroT_146 : zeroT Tryz.prog 146 = some [.slice none 0 0, .slice none 0 0, .slice none 0 0, .slice none 0 0] := by kernel_rfl
@[simp] theorem szOf_157 : szOf Tryz.prog 157 = some 2 := by kernel_rfl
@[simp] theorem aggT_157 : aggT Tryz.prog 157 = some true := by kernel_rfl
@[simp] theorem strT_157 : strT Tryz.prog 157 = false := by kernel_rfl
@[simp] theorem boolT_157 : boolT Tryz.prog 157 = false := by kernel_rfl
@[simp] theorem elemT_157 : elemT Tryz.prog 157 = none := by kernel_rfl
@[simp] theorem rowT_157 : rowT Tryz.prog 157 = none := by kernel_rfl
@[simp] theorem eqT_157 : eqT Tryz.prog 157 = some 2 := by kernel_rfl
@[simp] theorem structT_157 : structT Tryz.prog 157 = some [(0, 1), (1, 1)] := by kernel_rfl
@[simp] theorem fieldT_157_0 : fieldT Tryz.prog 157 0 = some (3, 0) := by kernel_rfl
@[simp] theorem fieldT_157_1 : fieldT Tryz.prog 157 1 = some (3, 1) := by kernel_rfl
@[simp] theorem zeroT_157 : zeroT Tryz.prog 157 = some [.int .i64 0, .int .i64 0] := by kernel_rfl
@[simp] theorem szOf_159 : szOf Tryz.prog 159 = some 4 := by kernel_rfl
@[simp] theorem aggT_159 : aggT Tryz.prog 159 = some true := by kernel_rfl
@[simp] theorem strT_159 : strT Tryz.prog 159 = false := by kernel_rfl
@[simp] theorem boolT_159 : boolT Tryz.prog 159 = false := by kernel_rfl
@[simp] theorem elemT_159 : elemT Tryz.prog 159 = none := by kernel_rfl
@[simp] theorem rowT_159 : rowT Tryz.prog 159 = none := by kernel_rfl
@[simp] theorem structT_159 : structT Tryz.prog 159 = some [(0, 1), (1, 1), (2, 2)] := by kernel_rfl
@[simp] theorem fieldT_159_0 : fieldT Tryz.prog 159 0 = some (3, 0) := by kernel_rfl
@[simp] theorem fieldT_159_1 : fieldT Tryz.prog 159 1 = some (3, 1) := by kernel_rfl
@[simp] theorem fieldT_159_2 : fieldT Tryz.prog 159 2 = some (157, 2) := by kernel_rfl
@[simp] theorem zeroT_159 : zeroT Tryz.prog 159 = some [.int .i64 0, .int .i64 0, .int .i64 0, .int .i64 0] := by kernel_rfl
@[simp] theorem szOf_161 : szOf Tryz.prog 161 = some 5 := by kernel_rfl
@[simp] theorem aggT_161 : aggT Tryz.prog 161 = some true := by kernel_rfl
@[simp] theorem strT_161 : strT Tryz.prog 161 = false := by kernel_rfl
@[simp] theorem boolT_161 : boolT Tryz.prog 161 = false := by kernel_rfl
@[simp] theorem elemT_161 : elemT Tryz.prog 161 = none := by kernel_rfl
@[simp] theorem rowT_161 : rowT Tryz.prog 161 = none := by kernel_rfl
@[simp] theorem structT_161 : structT Tryz.prog 161 = some [(0, 1), (1, 2), (3, 2)] := by kernel_rfl
@[simp] theorem fieldT_161_0 : fieldT Tryz.prog 161 0 = some (3, 0) := by kernel_rfl
@[simp] theorem fieldT_161_1 : fieldT Tryz.prog 161 1 = some (157, 1) := by kernel_rfl
@[simp] theorem fieldT_161_2 : fieldT Tryz.prog 161 2 = some (157, 3) := by kernel_rfl
@[simp] theorem zeroT_161 : zeroT Tryz.prog 161 = some [.int .i64 0, .int .i64 0, .int .i64 0, .int .i64 0, .int .i64 0] := by kernel_rfl
@[simp] theorem szOf_163 : szOf Tryz.prog 163 = some 6 := by kernel_rfl
@[simp] theorem aggT_163 : aggT Tryz.prog 163 = some true := by kernel_rfl
@[simp] theorem strT_163 : strT Tryz.prog 163 = false := by kernel_rfl
@[simp] theorem boolT_163 : boolT Tryz.prog 163 = false := by kernel_rfl
@[simp] theorem elemT_163 : elemT Tryz.prog 163 = none := by kernel_rfl
@[simp] theorem rowT_163 : rowT Tryz.prog 163 = none := by kernel_rfl
@[simp] theorem structT_163 : structT Tryz.prog 163 = some [(0, 2), (2, 2), (4, 1), (5, 1)] := by kernel_rfl
@[simp] theorem fieldT_163_0 : fieldT Tryz.prog 163 0 = some (29, 0) := by kernel_rfl
@[simp] theorem fieldT_163_1 : fieldT Tryz.prog 163 1 = some (29, 2) := by kernel_rfl
@[simp] theorem fieldT_163_2 : fieldT Tryz.prog 163 2 = some (26, 4) := by kernel_rfl
@[simp] theorem fieldT_163_3 : fieldT Tryz.prog 163 3 = some (26, 5) := by kernel_rfl
@[simp] theorem zeroT_163 : zeroT Tryz.prog 163 = some [.slice none 0 0, .slice none 0 0, .slice none 0 0, .slice none 0 0, .slice none 0 0, .slice none 0 0] := by kernel_rfl
@[simp] theorem szOf_169 : szOf Tryz.prog 169 = some 2 := by kernel_rfl
@[simp] theorem aggT_169 : aggT Tryz.prog 169 = some true := by kernel_rfl
@[simp] theorem strT_169 : strT Tryz.prog 169 = false := by kernel_rfl
@[simp] theorem boolT_169 : boolT Tryz.prog 169 = false := by kernel_rfl
@[simp] theorem elemT_169 : elemT Tryz.prog 169 = none := by kernel_rfl
@[simp] theorem rowT_169 : rowT Tryz.prog 169 = none := by kernel_rfl
@[simp] theorem arrT_169 : arrT Tryz.prog 169 = some (2, 5) := by kernel_rfl
@[simp] theorem zeroT_169 : zeroT Tryz.prog 169 = some [.int .u8 0, .int .u8 0] := by kernel_rfl
@[simp] theorem szOf_178 : szOf Tryz.prog 178 = some 1 := by kernel_rfl
@[simp] theorem aggT_178 : aggT Tryz.prog 178 = some false := by kernel_rfl
@[simp] theorem strT_178 : strT Tryz.prog 178 = false := by kernel_rfl
@[simp] theorem boolT_178 : boolT Tryz.prog 178 = false := by kernel_rfl
@[simp] theorem elemT_178 : elemT Tryz.prog 178 = none := by kernel_rfl
@[simp] theorem rowT_178 : rowT Tryz.prog 178 = none := by kernel_rfl
@[simp] theorem zeroT_178 : zeroT Tryz.prog 178 = some [.map none] := by kernel_rfl
@[simp] theorem szOf_180 : szOf Tryz.prog 180 = some 3 := by kernel_rfl
@[simp] theorem aggT_180 : aggT Tryz.prog 180 = some true := by kernel_rfl
@[simp] theorem strT_180 : strT Tryz.prog 180 = false := by kernel_rfl
@[simp] theorem boolT_180 : boolT Tryz.prog 180 = false := by kernel_rfl
@[simp] theorem elemT_180 : elemT Tryz.prog 180 = none := by kernel_rfl
@[simp] theorem rowT_180 : rowT Tryz.prog 180 = none := by kernel_rfl
@[simp] theorem structT_180 : structT Tryz.prog 180 = some [(0, 1), (1, 1), (2, 1)] := by kernel_rfl
@[simp] theorem fieldT_180_0 : fieldT Tryz.prog 180 0 = some (114, 0) := by kernel_rfl
@[simp] theorem fieldT_180_1 : fieldT Tryz.prog 180 1 = some (114, 1) := by kernel_rfl
@[simp] theorem fieldT_180_2 : fieldT Tryz.prog 180 2 = some (178, 2) := by kernel_rfl
@[simp] theorem zeroT_180 : zeroT Tryz.prog 180 = some [.slice none 0 0, .slice none 0 0, .map none] := by kernel_rfl
@[simp] theorem szOf_185 : szOf Tryz.prog 185 = some 1 := by kernel_rfl
@[simp] theorem aggT_185 : aggT Tryz.prog 185 = some false := by kernel_rfl
@[simp] theorem strT_185 : strT Tryz.prog 185 = false := by kernel_rfl
@[simp] theorem boolT_185 : boolT Tryz.prog 185 = false := by kernel_rfl
@[simp] theorem elemT_185 : elemT Tryz.prog 185 = some 29 := by kernel_rfl
@[simp] theorem rowT_185 : rowT Tryz.prog 185 = some (29, 2, 48) := by kernel_rfl
@[simp] theorem makeT_185 : makeT Tryz.prog 185 = some (2, 48, [.slice none 0 0, .slice none 0 0]) := by kernel_rfl
@[simp] theorem zeroT_185 : zeroT Tryz.prog 185 = some [.slice none 0 0] := by kernel_rfl
@[simp] theorem szOf_187 : szOf Tryz.prog 187 = some 4 := by kernel_rfl
@[simp] theorem aggT_187 : aggT Tryz.prog 187 = some true := by kernel_rfl
@[simp] theorem strT_187 : strT Tryz.prog 187 = false := by kernel_rfl
@[simp] theorem boolT_187 : boolT Tryz.prog 187 = false := by kernel_rfl
@[simp] theorem elemT_187 : elemT Tryz.prog 187 = none := by kernel_rfl
@[simp] theorem rowT_187 : rowT Tryz.prog 187 = none := by kernel_rfl
@[simp] theorem structT_187 : structT Tryz.prog 187 = some [(0, 1), (1, 1), (2, 1), (3, 1)] := by kernel_rfl
@[simp] theorem fieldT_187_0 : fieldT Tryz.prog 187 0 = some (80, 0) := by kernel_rfl
@[simp] theorem fieldT_187_1 : fieldT Tryz.prog 187 1 = some (80, 1) := by kernel_rfl
@[simp] theorem fieldT_187_2 : fieldT Tryz.prog 187 2 = some (4, 2) := by kernel_rfl
@[simp] theorem fieldT_187_3 : fieldT Tryz.prog 187 3 = some (4, 3) := by kernel_rfl
@[simp] theorem zeroT_187 : zeroT Tryz.prog 187 = some [.slice none 0 0, .slice none 0 0, .bool false, .bool false] := by kernel_rfl
@[simp] theorem szOf_192 : szOf Tryz.prog 192 = some 1 := by kernel_rfl
@[simp] theorem aggT_192 : aggT Tryz.prog 192 = some false := by kernel_rfl
@[simp] theorem zeroT_192 : zeroT Tryz.prog 192 = some [.nilFunc] := by kernel_rfl
@[simp] theorem szOf_193 : szOf Tryz.prog 193 = some 3 := by kernel_rfl
@[simp] theorem aggT_193 : aggT Tryz.prog 193 = some true := by kernel_rfl
@[simp] theorem strT_193 : strT Tryz.prog 193 = false := by kernel_rfl
@[simp] theorem boolT_193 : boolT Tryz.prog 193 = false := by kernel_rfl
@[simp] theorem elemT_193 : elemT Tryz.prog 193 = none := by kernel_rfl
@[simp] theorem rowT_193 : rowT Tryz.prog 193 = none := by kernel_rfl
@[simp] theorem arrT_193 : arrT Tryz.prog 193 = some (3, 5) := by kernel_rfl
@[simp] theorem zeroT_193 : zeroT Tryz.prog 193 = some [.int .u8 0, .int .u8 0, .int .u8 0] := by kernel_rfl
@[simp] theorem szOf_196 : szOf Tryz.prog 196 = some 1 := by kernel_rfl
@[simp] theorem aggT_196 : aggT Tryz.prog 196 = some false := by kernel_rfl
@[simp] theorem strT_196 : strT Tryz.prog 196 = false := by kernel_rfl
@[simp] theorem boolT_196 : boolT Tryz.prog 196 = false := by kernel_rfl
@[simp] theorem elemT_196 : elemT Tryz.prog 196 = some 199 := by kernel_rfl
@[simp] theorem rowT_196 : rowT Tryz.prog 196 = some (199, 6, 48) := by kernel_rfl
@[simp] theorem makeT_196 : makeT Tryz.prog 196 = some (6, 48, [.int .i64 0, .bool false, .int .i64 0, .int .i64 0, .int .i64 0, .int .i64 0]) := by kernel_rfl
@[simp] theorem zeroT_196 : zeroT Tryz.prog 196 = some [.slice none 0 0] := by kernel_rfl
@[simp] theorem szOf_199 : szOf Tryz.prog 199 = some 6 := by kernel_rfl
@[simp] theorem aggT_199 : aggT Tryz.prog 199 = some true := by kernel_rfl
@[simp] theorem strT_199 : strT Tryz.prog 199 = false := by kernel_rfl
@[simp] theorem boolT_199 : boolT Tryz.prog 199 = false := by kernel_rfl
@[simp] theorem elemT_199 : elemT Tryz.prog 199 = none := by kernel_rfl
@[simp] theorem rowT_199 : rowT Tryz.prog 199 = none := by kernel_rfl
@[simp] theorem structT_199 : structT Tryz.prog 199 = some [(0, 1), (1, 1), (2, 1), (3, 1), (4, 1), (5, 1)] := by kernel_rfl
@[simp] theorem fieldT_199_0 : fieldT Tryz.prog 199 0 = some (3, 0) := by kernel_rfl
@[simp] theorem fieldT_199_1 : fieldT Tryz.prog 199 1 = some (4, 1) := by kernel_rfl
@[simp] theorem fieldT_199_2 : fieldT Tryz.prog 199 2 = some (3, 2) := by kernel_rfl
@[simp] theorem fieldT_199_3 : fieldT Tryz.prog 199 3 = some (3, 3) := by kernel_rfl
@[simp] theorem fieldT_199_4 : fieldT Tryz.prog 199 4 = some (3, 4) := by kernel_rfl
@[simp] theorem fieldT_199_5 : fieldT Tryz.prog 199 5 = some (3, 5) := by kernel_rfl
@[simp] theorem zeroT_199 : zeroT Tryz.prog 199 = some [.int .i64 0, .bool false, .int .i64 0, .int .i64 0, .int .i64 0, .int .i64 0] := by kernel_rfl
@[simp] theorem szOf_209 : szOf Tryz.prog 209 = some 1 := by kernel_rfl
@[simp] theorem aggT_209 : aggT Tryz.prog 209 = some false := by kernel_rfl
@[simp] theorem strT_209 : strT Tryz.prog 209 = false := by kernel_rfl
@[simp] theorem boolT_209 : boolT Tryz.prog 209 = false := by kernel_rfl
@[simp] theorem elemT_209 : elemT Tryz.prog 209 = some 217 := by kernel_rfl
@[simp] theorem rowT_209 : rowT Tryz.prog 209 = some (217, 3, 32) := by kernel_rfl
@[simp] theorem makeT_209 : makeT Tryz.prog 209 = some (3, 32, [.int .i64 0, .string ⟨#[]⟩, .int .i64 0]) := by kernel_rfl
@[simp] theorem zeroT_209 : zeroT Tryz.prog 209 = some [.slice none 0 0] := by kernel_rfl
@[simp] theorem szOf_212 : szOf Tryz.prog 212 = some 1 := by kernel_rfl
@[simp] theorem aggT_212 : aggT Tryz.prog 212 = some false := by kernel_rfl
@[simp] theorem strT_212 : strT Tryz.prog 212 = false := by kernel_rfl
@[simp] theorem boolT_212 : boolT Tryz.prog 212 = false := by kernel_rfl
@[simp] theorem elemT_212 : elemT Tryz.prog 212 = none := by kernel_rfl
@[simp] theorem rowT_212 : rowT Tryz.prog 212 = none := by kernel_rfl
@[simp] theorem zeroT_212 : zeroT Tryz.prog 212 = some [.pointer none] := by kernel_rfl
@[simp] theorem szOf_214 : szOf Tryz.prog 214 = some 3 := by kernel_rfl
@[simp] theorem aggT_214 : aggT Tryz.prog 214 = some true := by kernel_rfl
@[simp] theorem strT_214 : strT Tryz.prog 214 = false := by kernel_rfl
@[simp] theorem boolT_214 : boolT Tryz.prog 214 = false := by kernel_rfl
@[simp] theorem elemT_214 : elemT Tryz.prog 214 = none := by kernel_rfl
@[simp] theorem rowT_214 : rowT Tryz.prog 214 = none := by kernel_rfl
@[simp] theorem structT_214 : structT Tryz.prog 214 = some [(0, 1), (1, 1), (2, 1)] := by kernel_rfl
@[simp] theorem fieldT_214_0 : fieldT Tryz.prog 214 0 = some (209, 0) := by kernel_rfl
@[simp] theorem fieldT_214_1 : fieldT Tryz.prog 214 1 = some (3, 1) := by kernel_rfl
@[simp] theorem fieldT_214_2 : fieldT Tryz.prog 214 2 = some (3, 2) := by kernel_rfl
@[simp] theorem zeroT_214 : zeroT Tryz.prog 214 = some [.slice none 0 0, .int .i64 0, .int .i64 0] := by kernel_rfl
@[simp] theorem szOf_217 : szOf Tryz.prog 217 = some 3 := by kernel_rfl
@[simp] theorem aggT_217 : aggT Tryz.prog 217 = some true := by kernel_rfl
@[simp] theorem strT_217 : strT Tryz.prog 217 = false := by kernel_rfl
@[simp] theorem boolT_217 : boolT Tryz.prog 217 = false := by kernel_rfl
@[simp] theorem elemT_217 : elemT Tryz.prog 217 = none := by kernel_rfl
@[simp] theorem rowT_217 : rowT Tryz.prog 217 = none := by kernel_rfl
@[simp] theorem structT_217 : structT Tryz.prog 217 = some [(0, 1), (1, 1), (2, 1)] := by kernel_rfl
@[simp] theorem fieldT_217_0 : fieldT Tryz.prog 217 0 = some (3, 0) := by kernel_rfl
@[simp] theorem fieldT_217_1 : fieldT Tryz.prog 217 1 = some (9, 1) := by kernel_rfl
@[simp] theorem fieldT_217_2 : fieldT Tryz.prog 217 2 = some (3, 2) := by kernel_rfl
@[simp] theorem zeroT_217 : zeroT Tryz.prog 217 = some [.int .i64 0, .string ⟨#[]⟩, .int .i64 0] := by kernel_rfl
@[simp] theorem szOf_218 : szOf Tryz.prog 218 = some 1 := by kernel_rfl
@[simp] theorem aggT_218 : aggT Tryz.prog 218 = some false := by kernel_rfl
@[simp] theorem strT_218 : strT Tryz.prog 218 = false := by kernel_rfl
@[simp] theorem boolT_218 : boolT Tryz.prog 218 = false := by kernel_rfl
@[simp] theorem elemT_218 : elemT Tryz.prog 218 = none := by kernel_rfl
@[simp] theorem rowT_218 : rowT Tryz.prog 218 = none := by kernel_rfl
@[simp] theorem zeroT_218 : zeroT Tryz.prog 218 = some [.pointer none] := by kernel_rfl
@[simp] theorem szOf_220 : szOf Tryz.prog 220 = some 3 := by kernel_rfl
@[simp] theorem aggT_220 : aggT Tryz.prog 220 = some true := by kernel_rfl
@[simp] theorem strT_220 : strT Tryz.prog 220 = false := by kernel_rfl
@[simp] theorem boolT_220 : boolT Tryz.prog 220 = false := by kernel_rfl
@[simp] theorem elemT_220 : elemT Tryz.prog 220 = none := by kernel_rfl
@[simp] theorem rowT_220 : rowT Tryz.prog 220 = none := by kernel_rfl
@[simp] theorem structT_220 : structT Tryz.prog 220 = some [(0, 1), (1, 1), (2, 1)] := by kernel_rfl
@[simp] theorem fieldT_220_0 : fieldT Tryz.prog 220 0 = some (209, 0) := by kernel_rfl
@[simp] theorem fieldT_220_1 : fieldT Tryz.prog 220 1 = some (3, 1) := by kernel_rfl
@[simp] theorem fieldT_220_2 : fieldT Tryz.prog 220 2 = some (4, 2) := by kernel_rfl
@[simp] theorem zeroT_220 : zeroT Tryz.prog 220 = some [.slice none 0 0, .int .i64 0, .bool false] := by kernel_rfl
@[simp] theorem szOf_223 : szOf Tryz.prog 223 = some 256 := by kernel_rfl
@[simp] theorem aggT_223 : aggT Tryz.prog 223 = some true := by kernel_rfl
@[simp] theorem strT_223 : strT Tryz.prog 223 = false := by kernel_rfl
@[simp] theorem boolT_223 : boolT Tryz.prog 223 = false := by kernel_rfl
@[simp] theorem elemT_223 : elemT Tryz.prog 223 = none := by kernel_rfl
@[simp] theorem rowT_223 : rowT Tryz.prog 223 = none := by kernel_rfl
@[simp] theorem arrT_223 : arrT Tryz.prog 223 = some (256, 5) := by kernel_rfl
@[simp] theorem zeroT_223 : zeroT Tryz.prog 223 = some [.int .u8 0, .int .u8 0, .int .u8 0, .int .u8 0, .int .u8 0, .int .u8 0, .int .u8 0, .int .u8 0, .int .u8 0, .int .u8 0, .int .u8 0, .int .u8 0, .int .u8 0, .int .u8 0, .int .u8 0, .int .u8 0, .int .u8 0, .int .u8 0, .int .u8 0, .int .u8 0, .int .u8 0, .int .u8 0, .int .u8 0, .int .u8 0, .int .u8 0, .int .u8 0, .int .u8 0, .int .u8 0, .int .u8 0, .int .u8 0, .int .u8 0, .int .u8 0, .int .u8 0, .int .u8 0, .int .u8 0, .int .u8 0, .int .u8 0, .int .u8 0, .int .u8 0, .int .u8 0, .int .u8 0, .int .u8 0, .int .u8 0, .int .u8 0, .int .u8 0, .int .u8 0, .int .u8 0, .int .u8 0, .int .u8 0, .int .u8 0, .int .u8 0, .int .u8 0, .int .u8 0, .int .u8 0, .int .u8 0, .int .u8 0, .int .u8 0, .int .u8 0, .int .u8 0, .int .u8 0, .int .u8 0, .int .u8 0, .int .u8 0, .int .u8 0, .int .u8 0, .int .u8 0, .int .u8 0, .int .u8 0, .int .u8 0, .int .u8 0, .int .u8 0, .int .u8 0, .int .u8 0, .int .u8 0, .int .u8 0, .int .u8 0, .int .u8 0, .int .u8 0, .int .u8 0, .int .u8 0, .int .u8 0, .int .u8 0, .int .u8 0, .int .u8 0, .int .u8 0, .int .u8 0, .int .u8 0, .int .u8 0, .int .u8 0, .int .u8 0, .int .u8 0, .int .u8 0, .int .u8 0, .int .u8 0, .int .u8 0, .int .u8 0, .int .u8 0, .int .u8 0, .int .u8 0, .int .u8 0, .int .u8 0, .int .u8 0, .int .u8 0, .int .u8 0, .int .u8 0, .int .u8 0, .int .u8 0, .int .u8 0, .int .u8 0, .int .u8 0, .int .u8 0, .int .u8 0, .int .u8 0, .int .u8 0, .int .u8 0, .int .u8 0, .int .u8 0, .int .u8 0, .int .u8 0, .int .u8 0, .int .u8 0, .int .u8 0, .int .u8 0, .int .u8 0, .int .u8 0, .int .u8 0, .int .u8 0, .int .u8 0, .int .u8 0, .int .u8 0, .int .u8 0, .int .u8 0, .int .u8 0, .int .u8 0, .int .u8 0, .int .u8 0, .int .u8 0, .int .u8 0, .int .u8 0, .int .u8 0, .int .u8 0, .int .u8 0, .int .u8 0, .int .u8 0, .int .u8 0, .int .u8 0, .int .u8 0, .int .u8 0, .int .u8 0, .int .u8 0, .int .u8 0, .int .u8 0, .int .u8 0, .int .u8 0, .int .u8 0, .int .u8 0, .int .u8 0, .int .u8 0, .int .u8 0, .int .u8 0, .int .u8 0, .int .u8 0, .int .u8 0, .int .u8 0, .int .u8 0, .int .u8 0, .int .u8 0, .int .u8 0, .int .u8 0, .int .u8 0, .int .u8 0, .int .u8 0, .int .u8 0, .int .u8 0, .int .u8 0, .int .u8 0, .int .u8 0, .int .u8 0, .int .u8 0, .int .u8 0, .int .u8 0, .int .u8 0, .int .u8 0, .int .u8 0, .int .u8 0, .int .u8 0, .int .u8 0, .int .u8 0, .int .u8 0, .int .u8 0, .int .u8 0, .int .u8 0, .int .u8 0, .int .u8 0, .int .u8 0, .int .u8 0, .int .u8 0, .int .u8 0, .int .u8 0, .int .u8 0, .int .u8 0, .int .u8 0, .int .u8 0, .int .u8 0, .int .u8 0, .int .u8 0, .int .u8 0, .int .u8 0, .int .u8 0, .int .u8 0, .int .u8 0, .int .u8 0, .int .u8 0, .int .u8 0, .int .u8 0, .int .u8 0, .int .u8 0, .int .u8 0, .int .u8 0, .int .u8 0, .int .u8 0, .int .u8 0, .int .u8 0, .int .u8 0, .int .u8 0, .int .u8 0, .int .u8 0, .int .u8 0, .int .u8 0, .int .u8 0, .int .u8 0, .int .u8 0, .int .u8 0, .int .u8 0, .int .u8 0, .int .u8 0, .int .u8 0, .int .u8 0, .int .u8 0, .int .u8 0, .int .u8 0, .int .u8 0, .int .u8 0, .int .u8 0, .int .u8 0, .int .u8 0, .int .u8 0, .int .u8 0, .int .u8 0, .int .u8 0, .int .u8 0, .int .u8 0, .int .u8 0, .int .u8 0, .int .u8 0, .int .u8 0] := by kernel_rfl
@[simp] theorem szOf_236 : szOf Tryz.prog 236 = some 1 := by kernel_rfl
@[simp] theorem aggT_236 : aggT Tryz.prog 236 = some false := by kernel_rfl
@[simp] theorem strT_236 : strT Tryz.prog 236 = false := by kernel_rfl
@[simp] theorem boolT_236 : boolT Tryz.prog 236 = false := by kernel_rfl
@[simp] theorem elemT_236 : elemT Tryz.prog 236 = none := by kernel_rfl
@[simp] theorem rowT_236 : rowT Tryz.prog 236 = none := by kernel_rfl
@[simp] theorem zeroT_236 : zeroT Tryz.prog 236 = some [.pointer none] := by kernel_rfl
@[simp] theorem szOf_238 : szOf Tryz.prog 238 = some 1 := by kernel_rfl
@[simp] theorem aggT_238 : aggT Tryz.prog 238 = some false := by kernel_rfl
@[simp] theorem strT_238 : strT Tryz.prog 238 = false := by kernel_rfl
@[simp] theorem boolT_238 : boolT Tryz.prog 238 = false := by kernel_rfl
@[simp] theorem elemT_238 : elemT Tryz.prog 238 = none := by kernel_rfl
@[simp] theorem rowT_238 : rowT Tryz.prog 238 = none := by kernel_rfl
@[simp] theorem zeroT_238 : zeroT Tryz.prog 238 = some [.pointer none] := by kernel_rfl
@[simp] theorem szOf_240 : szOf Tryz.prog 240 = some 9 := by kernel_rfl
@[simp] theorem aggT_240 : aggT Tryz.prog 240 = some true := by kernel_rfl
@[simp] theorem strT_240 : strT Tryz.prog 240 = false := by kernel_rfl
@[simp] theorem boolT_240 : boolT Tryz.prog 240 = false := by kernel_rfl
@[simp] theorem elemT_240 : elemT Tryz.prog 240 = none := by kernel_rfl
@[simp] theorem rowT_240 : rowT Tryz.prog 240 = none := by kernel_rfl
@[simp] theorem structT_240 : structT Tryz.prog 240 = some [(0, 2), (2, 2), (4, 2), (6, 2), (8, 1)] := by kernel_rfl
@[simp] theorem fieldT_240_0 : fieldT Tryz.prog 240 0 = some (29, 0) := by kernel_rfl
@[simp] theorem fieldT_240_1 : fieldT Tryz.prog 240 1 = some (29, 2) := by kernel_rfl
@[simp] theorem fieldT_240_2 : fieldT Tryz.prog 240 2 = some (38, 4) := by kernel_rfl
@[simp] theorem fieldT_240_3 : fieldT Tryz.prog 240 3 = some (38, 6) := by kernel_rfl
@[simp] theorem fieldT_240_4 : fieldT Tryz.prog 240 4 = some (117, 8) := by kernel_rfl
@[simp] theorem zeroT_240 : zeroT Tryz.prog 240 = some [.slice none 0 0, .slice none 0 0, .slice none 0 0, .slice none 0 0, .slice none 0 0, .slice none 0 0, .slice none 0 0, .slice none 0 0, .slice none 0 0] := by kernel_rfl
@[simp] theorem szOf_249 : szOf Tryz.prog 249 = some 1 := by kernel_rfl
@[simp] theorem aggT_249 : aggT Tryz.prog 249 = some false := by kernel_rfl
@[simp] theorem strT_249 : strT Tryz.prog 249 = false := by kernel_rfl
@[simp] theorem boolT_249 : boolT Tryz.prog 249 = false := by kernel_rfl
@[simp] theorem elemT_249 : elemT Tryz.prog 249 = some 80 := by kernel_rfl
@[simp] theorem rowT_249 : rowT Tryz.prog 249 = some (80, 1, 24) := by kernel_rfl
@[simp] theorem makeT_249 : makeT Tryz.prog 249 = some (1, 24, [.slice none 0 0]) := by kernel_rfl
@[simp] theorem zeroT_249 : zeroT Tryz.prog 249 = some [.slice none 0 0] := by kernel_rfl
@[simp] theorem szOf_265 : szOf Tryz.prog 265 = some 4 := by kernel_rfl
@[simp] theorem aggT_265 : aggT Tryz.prog 265 = some true := by kernel_rfl
@[simp] theorem strT_265 : strT Tryz.prog 265 = false := by kernel_rfl
@[simp] theorem boolT_265 : boolT Tryz.prog 265 = false := by kernel_rfl
@[simp] theorem elemT_265 : elemT Tryz.prog 265 = none := by kernel_rfl
@[simp] theorem rowT_265 : rowT Tryz.prog 265 = none := by kernel_rfl
@[simp] theorem structT_265 : structT Tryz.prog 265 = some [(0, 1), (1, 1), (2, 1), (3, 1)] := by kernel_rfl
@[simp] theorem fieldT_265_0 : fieldT Tryz.prog 265 0 = some (3, 0) := by kernel_rfl
@[simp] theorem fieldT_265_1 : fieldT Tryz.prog 265 1 = some (3, 1) := by kernel_rfl
@[simp] theorem fieldT_265_2 : fieldT Tryz.prog 265 2 = some (3, 2) := by kernel_rfl
@[simp] theorem fieldT_265_3 : fieldT Tryz.prog 265 3 = some (4, 3) := by kernel_rfl
@[simp] theorem zeroT_265 : zeroT Tryz.prog 265 = some [.int .i64 0, .int .i64 0, .int .i64 0, .bool false] := by kernel_rfl
@[simp] theorem szOf_270 : szOf Tryz.prog 270 = some 1 := by kernel_rfl
@[simp] theorem aggT_270 : aggT Tryz.prog 270 = some false := by kernel_rfl
@[simp] theorem zeroT_270 : zeroT Tryz.prog 270 = some [.nilFunc] := by kernel_rfl
@[simp] theorem szOf_280 : szOf Tryz.prog 280 = some 1 := by kernel_rfl
@[simp] theorem aggT_280 : aggT Tryz.prog 280 = some false := by kernel_rfl
@[simp] theorem strT_280 : strT Tryz.prog 280 = false := by kernel_rfl
@[simp] theorem boolT_280 : boolT Tryz.prog 280 = false := by kernel_rfl
@[simp] theorem elemT_280 : elemT Tryz.prog 280 = some 282 := by kernel_rfl
@[simp] theorem rowT_280 : rowT Tryz.prog 280 = some (282, 2, 16) := by kernel_rfl
@[simp] theorem makeT_280 : makeT Tryz.prog 280 = some (2, 16, [.int .i64 0, .int .i64 0]) := by kernel_rfl
@[simp] theorem zeroT_280 : zeroT Tryz.prog 280 = some [.slice none 0 0] := by kernel_rfl
@[simp] theorem szOf_282 : szOf Tryz.prog 282 = some 2 := by kernel_rfl
@[simp] theorem aggT_282 : aggT Tryz.prog 282 = some true := by kernel_rfl
@[simp] theorem strT_282 : strT Tryz.prog 282 = false := by kernel_rfl
@[simp] theorem boolT_282 : boolT Tryz.prog 282 = false := by kernel_rfl
@[simp] theorem elemT_282 : elemT Tryz.prog 282 = none := by kernel_rfl
@[simp] theorem rowT_282 : rowT Tryz.prog 282 = none := by kernel_rfl
@[simp] theorem eqT_282 : eqT Tryz.prog 282 = some 2 := by kernel_rfl
@[simp] theorem structT_282 : structT Tryz.prog 282 = some [(0, 1), (1, 1)] := by kernel_rfl
@[simp] theorem fieldT_282_0 : fieldT Tryz.prog 282 0 = some (3, 0) := by kernel_rfl
@[simp] theorem fieldT_282_1 : fieldT Tryz.prog 282 1 = some (3, 1) := by kernel_rfl
@[simp] theorem zeroT_282 : zeroT Tryz.prog 282 = some [.int .i64 0, .int .i64 0] := by kernel_rfl
@[simp] theorem szOf_283 : szOf Tryz.prog 283 = some 1 := by kernel_rfl
@[simp] theorem aggT_283 : aggT Tryz.prog 283 = some false := by kernel_rfl
@[simp] theorem strT_283 : strT Tryz.prog 283 = false := by kernel_rfl
@[simp] theorem boolT_283 : boolT Tryz.prog 283 = false := by kernel_rfl
@[simp] theorem elemT_283 : elemT Tryz.prog 283 = none := by kernel_rfl
@[simp] theorem rowT_283 : rowT Tryz.prog 283 = none := by kernel_rfl
@[simp] theorem kindT_283 : kindT Tryz.prog 283 = some .u32 := by kernel_rfl
@[simp] theorem zeroT_283 : zeroT Tryz.prog 283 = some [.int .u32 0] := by kernel_rfl
@[simp] theorem szOf_285 : szOf Tryz.prog 285 = some 1 := by kernel_rfl
@[simp] theorem aggT_285 : aggT Tryz.prog 285 = some false := by kernel_rfl
@[simp] theorem strT_285 : strT Tryz.prog 285 = false := by kernel_rfl
@[simp] theorem boolT_285 : boolT Tryz.prog 285 = false := by kernel_rfl
@[simp] theorem elemT_285 : elemT Tryz.prog 285 = none := by kernel_rfl
@[simp] theorem rowT_285 : rowT Tryz.prog 285 = none := by kernel_rfl
@[simp] theorem zeroT_285 : zeroT Tryz.prog 285 = some [.pointer none] := by kernel_rfl
@[simp] theorem szOf_324 : szOf Tryz.prog 324 = some 1 := by kernel_rfl
@[simp] theorem aggT_324 : aggT Tryz.prog 324 = some false := by kernel_rfl
@[simp] theorem strT_324 : strT Tryz.prog 324 = false := by kernel_rfl
@[simp] theorem boolT_324 : boolT Tryz.prog 324 = false := by kernel_rfl
@[simp] theorem elemT_324 : elemT Tryz.prog 324 = some 330 := by kernel_rfl
@[simp] theorem rowT_324 : rowT Tryz.prog 324 = some (330, 3, 6) := by kernel_rfl
@[simp] theorem makeT_324 : makeT Tryz.prog 324 = some (3, 6, [.int .u16 0, .int .u16 0, .int .u16 0]) := by kernel_rfl
@[simp] theorem zeroT_324 : zeroT Tryz.prog 324 = some [.slice none 0 0] := by kernel_rfl
@[simp] theorem szOf_325 : szOf Tryz.prog 325 = some 1 := by kernel_rfl
@[simp] theorem aggT_325 : aggT Tryz.prog 325 = some false := by kernel_rfl
@[simp] theorem strT_325 : strT Tryz.prog 325 = false := by kernel_rfl
@[simp] theorem boolT_325 : boolT Tryz.prog 325 = false := by kernel_rfl
@[simp] theorem elemT_325 : elemT Tryz.prog 325 = some 333 := by kernel_rfl
@[simp] theorem rowT_325 : rowT Tryz.prog 325 = some (333, 3, 12) := by kernel_rfl
@[simp] theorem makeT_325 : makeT Tryz.prog 325 = some (3, 12, [.int .u32 0, .int .u32 0, .int .u32 0]) := by kernel_rfl
@[simp] theorem zeroT_325 : zeroT Tryz.prog 325 = some [.slice none 0 0] := by kernel_rfl
@[simp] theorem szOf_327 : szOf Tryz.prog 327 = some 3 := by kernel_rfl
@[simp] theorem aggT_327 : aggT Tryz.prog 327 = some true := by kernel_rfl
@[simp] theorem strT_327 : strT Tryz.prog 327 = false := by kernel_rfl
@[simp] theorem boolT_327 : boolT Tryz.prog 327 = false := by kernel_rfl
@[simp] theorem elemT_327 : elemT Tryz.prog 327 = none := by kernel_rfl
@[simp] theorem rowT_327 : rowT Tryz.prog 327 = none := by kernel_rfl
@[simp] theorem structT_327 : structT Tryz.prog 327 = some [(0, 1), (1, 1), (2, 1)] := by kernel_rfl
@[simp] theorem fieldT_327_0 : fieldT Tryz.prog 327 0 = some (324, 0) := by kernel_rfl
@[simp] theorem fieldT_327_1 : fieldT Tryz.prog 327 1 = some (325, 1) := by kernel_rfl
@[simp] theorem fieldT_327_2 : fieldT Tryz.prog 327 2 = some (3, 2) := by kernel_rfl
@[simp] theorem zeroT_327 : zeroT Tryz.prog 327 = some [.slice none 0 0, .slice none 0 0, .int .i64 0] := by kernel_rfl
@[simp] theorem szOf_328 : szOf Tryz.prog 328 = some 1 := by kernel_rfl
@[simp] theorem aggT_328 : aggT Tryz.prog 328 = some false := by kernel_rfl
@[simp] theorem strT_328 : strT Tryz.prog 328 = false := by kernel_rfl
@[simp] theorem boolT_328 : boolT Tryz.prog 328 = false := by kernel_rfl
@[simp] theorem elemT_328 : elemT Tryz.prog 328 = none := by kernel_rfl
@[simp] theorem rowT_328 : rowT Tryz.prog 328 = none := by kernel_rfl
@[simp] theorem kindT_328 : kindT Tryz.prog 328 = some .u16 := by kernel_rfl
@[simp] theorem zeroT_328 : zeroT Tryz.prog 328 = some [.int .u16 0] := by kernel_rfl
@[simp] theorem szOf_330 : szOf Tryz.prog 330 = some 3 := by kernel_rfl
@[simp] theorem aggT_330 : aggT Tryz.prog 330 = some true := by kernel_rfl
@[simp] theorem strT_330 : strT Tryz.prog 330 = false := by kernel_rfl
@[simp] theorem boolT_330 : boolT Tryz.prog 330 = false := by kernel_rfl
@[simp] theorem elemT_330 : elemT Tryz.prog 330 = none := by kernel_rfl
@[simp] theorem rowT_330 : rowT Tryz.prog 330 = none := by kernel_rfl
@[simp] theorem eqT_330 : eqT Tryz.prog 330 = some 3 := by kernel_rfl
@[simp] theorem structT_330 : structT Tryz.prog 330 = some [(0, 1), (1, 1), (2, 1)] := by kernel_rfl
@[simp] theorem fieldT_330_0 : fieldT Tryz.prog 330 0 = some (328, 0) := by kernel_rfl
@[simp] theorem fieldT_330_1 : fieldT Tryz.prog 330 1 = some (328, 1) := by kernel_rfl
@[simp] theorem fieldT_330_2 : fieldT Tryz.prog 330 2 = some (328, 2) := by kernel_rfl
@[simp] theorem zeroT_330 : zeroT Tryz.prog 330 = some [.int .u16 0, .int .u16 0, .int .u16 0] := by kernel_rfl
@[simp] theorem szOf_333 : szOf Tryz.prog 333 = some 3 := by kernel_rfl
@[simp] theorem aggT_333 : aggT Tryz.prog 333 = some true := by kernel_rfl
@[simp] theorem strT_333 : strT Tryz.prog 333 = false := by kernel_rfl
@[simp] theorem boolT_333 : boolT Tryz.prog 333 = false := by kernel_rfl
@[simp] theorem elemT_333 : elemT Tryz.prog 333 = none := by kernel_rfl
@[simp] theorem rowT_333 : rowT Tryz.prog 333 = none := by kernel_rfl
@[simp] theorem eqT_333 : eqT Tryz.prog 333 = some 3 := by kernel_rfl
@[simp] theorem structT_333 : structT Tryz.prog 333 = some [(0, 1), (1, 1), (2, 1)] := by kernel_rfl
@[simp] theorem fieldT_333_0 : fieldT Tryz.prog 333 0 = some (283, 0) := by kernel_rfl
@[simp] theorem fieldT_333_1 : fieldT Tryz.prog 333 1 = some (283, 1) := by kernel_rfl
@[simp] theorem fieldT_333_2 : fieldT Tryz.prog 333 2 = some (283, 2) := by kernel_rfl
@[simp] theorem zeroT_333 : zeroT Tryz.prog 333 = some [.int .u32 0, .int .u32 0, .int .u32 0] := by kernel_rfl
@[simp] theorem szOf_352 : szOf Tryz.prog 352 = some 1 := by kernel_rfl
@[simp] theorem aggT_352 : aggT Tryz.prog 352 = some false := by kernel_rfl
@[simp] theorem strT_352 : strT Tryz.prog 352 = false := by kernel_rfl
@[simp] theorem boolT_352 : boolT Tryz.prog 352 = false := by kernel_rfl
@[simp] theorem elemT_352 : elemT Tryz.prog 352 = none := by kernel_rfl
@[simp] theorem rowT_352 : rowT Tryz.prog 352 = none := by kernel_rfl
@[simp] theorem kindT_352 : kindT Tryz.prog 352 = some .u64 := by kernel_rfl
@[simp] theorem zeroT_352 : zeroT Tryz.prog 352 = some [.int .u64 0] := by kernel_rfl
@[simp] theorem szOf_353 : szOf Tryz.prog 353 = some 24 := by kernel_rfl
@[simp] theorem aggT_353 : aggT Tryz.prog 353 = some true := by kernel_rfl
@[simp] theorem strT_353 : strT Tryz.prog 353 = false := by kernel_rfl
@[simp] theorem boolT_353 : boolT Tryz.prog 353 = false := by kernel_rfl
@[simp] theorem elemT_353 : elemT Tryz.prog 353 = none := by kernel_rfl
@[simp] theorem rowT_353 : rowT Tryz.prog 353 = none := by kernel_rfl
@[simp] theorem arrT_353 : arrT Tryz.prog 353 = some (24, 5) := by kernel_rfl
@[simp] theorem zeroT_353 : zeroT Tryz.prog 353 = some [.int .u8 0, .int .u8 0, .int .u8 0, .int .u8 0, .int .u8 0, .int .u8 0, .int .u8 0, .int .u8 0, .int .u8 0, .int .u8 0, .int .u8 0, .int .u8 0, .int .u8 0, .int .u8 0, .int .u8 0, .int .u8 0, .int .u8 0, .int .u8 0, .int .u8 0, .int .u8 0, .int .u8 0, .int .u8 0, .int .u8 0, .int .u8 0] := by kernel_rfl
@[simp] theorem szOf_357 : szOf Tryz.prog 357 = some 1 := by kernel_rfl
@[simp] theorem aggT_357 : aggT Tryz.prog 357 = some false := by kernel_rfl
@[simp] theorem strT_357 : strT Tryz.prog 357 = false := by kernel_rfl
@[simp] theorem boolT_357 : boolT Tryz.prog 357 = false := by kernel_rfl
@[simp] theorem elemT_357 : elemT Tryz.prog 357 = none := by kernel_rfl
@[simp] theorem rowT_357 : rowT Tryz.prog 357 = none := by kernel_rfl
@[simp] theorem zeroT_357 : zeroT Tryz.prog 357 = some [.pointer none] := by kernel_rfl
@[simp] theorem szOf_360 : szOf Tryz.prog 360 = some 12 := by kernel_rfl
@[simp] theorem aggT_360 : aggT Tryz.prog 360 = some true := by kernel_rfl
@[simp] theorem strT_360 : strT Tryz.prog 360 = false := by kernel_rfl
@[simp] theorem boolT_360 : boolT Tryz.prog 360 = false := by kernel_rfl
@[simp] theorem elemT_360 : elemT Tryz.prog 360 = none := by kernel_rfl
@[simp] theorem rowT_360 : rowT Tryz.prog 360 = none := by kernel_rfl
@[simp] theorem structT_360 : structT Tryz.prog 360 = some [(0, 2), (2, 2), (4, 1), (5, 2), (7, 1), (8, 1), (9, 1), (10, 1), (11, 1)] := by kernel_rfl
@[simp] theorem fieldT_360_0 : fieldT Tryz.prog 360 0 = some (29, 0) := by kernel_rfl
@[simp] theorem fieldT_360_1 : fieldT Tryz.prog 360 1 = some (29, 2) := by kernel_rfl
@[simp] theorem fieldT_360_2 : fieldT Tryz.prog 360 2 = some (249, 4) := by kernel_rfl
@[simp] theorem fieldT_360_3 : fieldT Tryz.prog 360 3 = some (38, 5) := by kernel_rfl
@[simp] theorem fieldT_360_4 : fieldT Tryz.prog 360 4 = some (4, 7) := by kernel_rfl
@[simp] theorem fieldT_360_5 : fieldT Tryz.prog 360 5 = some (3, 8) := by kernel_rfl
@[simp] theorem fieldT_360_6 : fieldT Tryz.prog 360 6 = some (26, 9) := by kernel_rfl
@[simp] theorem fieldT_360_7 : fieldT Tryz.prog 360 7 = some (26, 10) := by kernel_rfl
@[simp] theorem fieldT_360_8 : fieldT Tryz.prog 360 8 = some (117, 11) := by kernel_rfl
@[simp] theorem zeroT_360 : zeroT Tryz.prog 360 = some [.slice none 0 0, .slice none 0 0, .slice none 0 0, .slice none 0 0, .slice none 0 0, .slice none 0 0, .slice none 0 0, .bool false, .int .i64 0, .slice none 0 0, .slice none 0 0, .slice none 0 0] := by kernel_rfl
@[simp] theorem szOf_371 : szOf Tryz.prog 371 = some 1 := by kernel_rfl
@[simp] theorem aggT_371 : aggT Tryz.prog 371 = some false := by kernel_rfl
@[simp] theorem strT_371 : strT Tryz.prog 371 = false := by kernel_rfl
@[simp] theorem boolT_371 : boolT Tryz.prog 371 = false := by kernel_rfl
@[simp] theorem elemT_371 : elemT Tryz.prog 371 = none := by kernel_rfl
@[simp] theorem rowT_371 : rowT Tryz.prog 371 = none := by kernel_rfl
@[simp] theorem zeroT_371 : zeroT Tryz.prog 371 = some [.pointer none] := by kernel_rfl
@[simp] theorem szOf_375 : szOf Tryz.prog 375 = some 20 := by kernel_rfl
@[simp] theorem aggT_375 : aggT Tryz.prog 375 = some true := by kernel_rfl
@[simp] theorem strT_375 : strT Tryz.prog 375 = false := by kernel_rfl
@[simp] theorem boolT_375 : boolT Tryz.prog 375 = false := by kernel_rfl
@[simp] theorem elemT_375 : elemT Tryz.prog 375 = none := by kernel_rfl
@[simp] theorem rowT_375 : rowT Tryz.prog 375 = none := by kernel_rfl
@[simp] theorem arrT_375 : arrT Tryz.prog 375 = some (20, 352) := by kernel_rfl
@[simp] theorem zeroT_375 : zeroT Tryz.prog 375 = some [.int .u64 0, .int .u64 0, .int .u64 0, .int .u64 0, .int .u64 0, .int .u64 0, .int .u64 0, .int .u64 0, .int .u64 0, .int .u64 0, .int .u64 0, .int .u64 0, .int .u64 0, .int .u64 0, .int .u64 0, .int .u64 0, .int .u64 0, .int .u64 0, .int .u64 0, .int .u64 0] := by kernel_rfl
@[simp] theorem szOf_376 : szOf Tryz.prog 376 = some 65 := by kernel_rfl
@[simp] theorem aggT_376 : aggT Tryz.prog 376 = some true := by kernel_rfl
@[simp] theorem strT_376 : strT Tryz.prog 376 = false := by kernel_rfl
@[simp] theorem boolT_376 : boolT Tryz.prog 376 = false := by kernel_rfl
@[simp] theorem elemT_376 : elemT Tryz.prog 376 = none := by kernel_rfl
@[simp] theorem rowT_376 : rowT Tryz.prog 376 = none := by kernel_rfl
@[simp] theorem arrT_376 : arrT Tryz.prog 376 = some (65, 5) := by kernel_rfl
@[simp] theorem zeroT_376 : zeroT Tryz.prog 376 = some [.int .u8 0, .int .u8 0, .int .u8 0, .int .u8 0, .int .u8 0, .int .u8 0, .int .u8 0, .int .u8 0, .int .u8 0, .int .u8 0, .int .u8 0, .int .u8 0, .int .u8 0, .int .u8 0, .int .u8 0, .int .u8 0, .int .u8 0, .int .u8 0, .int .u8 0, .int .u8 0, .int .u8 0, .int .u8 0, .int .u8 0, .int .u8 0, .int .u8 0, .int .u8 0, .int .u8 0, .int .u8 0, .int .u8 0, .int .u8 0, .int .u8 0, .int .u8 0, .int .u8 0, .int .u8 0, .int .u8 0, .int .u8 0, .int .u8 0, .int .u8 0, .int .u8 0, .int .u8 0, .int .u8 0, .int .u8 0, .int .u8 0, .int .u8 0, .int .u8 0, .int .u8 0, .int .u8 0, .int .u8 0, .int .u8 0, .int .u8 0, .int .u8 0, .int .u8 0, .int .u8 0, .int .u8 0, .int .u8 0, .int .u8 0, .int .u8 0, .int .u8 0, .int .u8 0, .int .u8 0, .int .u8 0, .int .u8 0, .int .u8 0, .int .u8 0, .int .u8 0] := by kernel_rfl
@[simp] theorem szOf_385 : szOf Tryz.prog 385 = some 32 := by kernel_rfl
@[simp] theorem aggT_385 : aggT Tryz.prog 385 = some true := by kernel_rfl
@[simp] theorem strT_385 : strT Tryz.prog 385 = false := by kernel_rfl
@[simp] theorem boolT_385 : boolT Tryz.prog 385 = false := by kernel_rfl
@[simp] theorem elemT_385 : elemT Tryz.prog 385 = none := by kernel_rfl
@[simp] theorem rowT_385 : rowT Tryz.prog 385 = none := by kernel_rfl
@[simp] theorem arrT_385 : arrT Tryz.prog 385 = some (32, 5) := by kernel_rfl
@[simp] theorem zeroT_385 : zeroT Tryz.prog 385 = some [.int .u8 0, .int .u8 0, .int .u8 0, .int .u8 0, .int .u8 0, .int .u8 0, .int .u8 0, .int .u8 0, .int .u8 0, .int .u8 0, .int .u8 0, .int .u8 0, .int .u8 0, .int .u8 0, .int .u8 0, .int .u8 0, .int .u8 0, .int .u8 0, .int .u8 0, .int .u8 0, .int .u8 0, .int .u8 0, .int .u8 0, .int .u8 0, .int .u8 0, .int .u8 0, .int .u8 0, .int .u8 0, .int .u8 0, .int .u8 0, .int .u8 0, .int .u8 0] := by kernel_rfl
@[simp] theorem szOf_386 : szOf Tryz.prog 386 = some 64 := by kernel_rfl
@[simp] theorem aggT_386 : aggT Tryz.prog 386 = some true := by kernel_rfl
@[simp] theorem strT_386 : strT Tryz.prog 386 = false := by kernel_rfl
@[simp] theorem boolT_386 : boolT Tryz.prog 386 = false := by kernel_rfl
@[simp] theorem elemT_386 : elemT Tryz.prog 386 = none := by kernel_rfl
@[simp] theorem rowT_386 : rowT Tryz.prog 386 = none := by kernel_rfl
@[simp] theorem arrT_386 : arrT Tryz.prog 386 = some (64, 5) := by kernel_rfl
@[simp] theorem zeroT_386 : zeroT Tryz.prog 386 = some [.int .u8 0, .int .u8 0, .int .u8 0, .int .u8 0, .int .u8 0, .int .u8 0, .int .u8 0, .int .u8 0, .int .u8 0, .int .u8 0, .int .u8 0, .int .u8 0, .int .u8 0, .int .u8 0, .int .u8 0, .int .u8 0, .int .u8 0, .int .u8 0, .int .u8 0, .int .u8 0, .int .u8 0, .int .u8 0, .int .u8 0, .int .u8 0, .int .u8 0, .int .u8 0, .int .u8 0, .int .u8 0, .int .u8 0, .int .u8 0, .int .u8 0, .int .u8 0, .int .u8 0, .int .u8 0, .int .u8 0, .int .u8 0, .int .u8 0, .int .u8 0, .int .u8 0, .int .u8 0, .int .u8 0, .int .u8 0, .int .u8 0, .int .u8 0, .int .u8 0, .int .u8 0, .int .u8 0, .int .u8 0, .int .u8 0, .int .u8 0, .int .u8 0, .int .u8 0, .int .u8 0, .int .u8 0, .int .u8 0, .int .u8 0, .int .u8 0, .int .u8 0, .int .u8 0, .int .u8 0, .int .u8 0, .int .u8 0, .int .u8 0, .int .u8 0] := by kernel_rfl
end Go.AM
namespace Go.AM
open Go Go.Proofs
class Nrm (l : List CI) (l' : outParam (List CI)) : Prop where
 h : ∀ {P : Program} {cx : Cx} {nt0 : Nat} {K : Exit → AState → Prop} {S : AState}, AL P cx nt0 K l' S → AL P cx nt0 K l S
instance (priority := low) Nrm.base {l : List CI} : Nrm l l := ⟨id⟩
instance Nrm.seq {a b : Code} {r l' : List CI} [h : Nrm (.c a :: .c b :: r) l'] : Nrm (.c (.seq a b) :: r) l' := ⟨fun x => AL.seq (h.h x)⟩
instance Nrm.block {id : Nat} {c : Code} {r l' : List CI} [h : Nrm (.c c :: .blk id :: r) l'] : Nrm (.c (.block id c) :: r) l' := ⟨fun x => AL.block (h.h x)⟩
instance Nrm.skip {r l' : List CI} [h : Nrm r l'] : Nrm (.c .skip :: r) l' := ⟨fun x => AL.skip (h.h x)⟩
instance Nrm.blk {id : Nat} {r l' : List CI} [h : Nrm r l'] : Nrm (.blk id :: r) l' := ⟨fun x => AL.blk (h.h x)⟩
section
variable {P : Program} {cx : Cx} {nt0 : Nat} {K : Exit → AState → Prop} {S : AState} {l l' r : List CI}
theorem sN [h : Nrm l l'] (k : AL P cx nt0 K l' S) : AL P cx nt0 K l S := h.h k
theorem sR {id : Nat} {ops : Array Oper} {draw : Bool} [h : Nrm l (.c (.region id ops draw) :: r)] (k : FReg Tryz.prog cx ops draw (AL Tryz.prog cx nt0 K r) S) (hnb : cx.base + cx.n ≤ cx.nb := by exact Nat.le_refl _) (hok : regionOk cx.n ops draw = true := by kernel_rfl) : AL Tryz.prog cx nt0 K l S :=
 h.h (AL.region follows_Tryz hnb hok k)
theorem sC {x : Operand} {a b : Code} [h : Nrm l (.c (.cond x a b) :: r)] (k : FCond P cx nt0 K r a b S (S.ev x)) : AL P cx nt0 K l S := h.h (AL.cond k)
theorem sT [h : Nrm l (.c .ret :: r)] (k : K .ret S) : AL P cx nt0 K l S := h.h (AL.ret k)
theorem sE [h : Nrm l []] (k : K .normal S) : AL P cx nt0 K l S := h.h (AL.nil k)
theorem sX {id : Nat} [h : Nrm l (.c (.exit id) :: r)] (k : AU P cx nt0 K r (.exit id) S) : AL P cx nt0 K l S := h.h (AL.exit k)
theorem sF {nt : Nat} {rs : List ResultVar} {l : List (Nat × AV)} {out : Bxs} {loc : List (Nat × List (List AV))} {tok mtok : Nat → Bool} {vs : List AV} {av : AV}
  (hbox : lb cx.base out [] = out) (hm : ∀ t, mtok t = true → t < nt0) (htok : ∀ t, mtok t = true → tok t = true) (hnt : nt0 ≤ nt)
  (hto : To (fun k => lb cx.base out [] k ≠ none) (fun t => nt0 = nt ∨ t < nt0) none (packA vs) av) (hres : resAs P ⟨tl l, lb cx.base out loc, tok, nt⟩ rs = some vs := by (simp [resAs, resA]; rfl)) (ho : out = cx.B0 := by rfl) : Fin P cx nt0 rs (fun v' m' => v' = av ∧ m' = ⟨out, cx.base, mtok, nt0⟩) ⟨tl l, lb cx.base out loc, tok, nt⟩ :=
 Fin.data hres hbox ho hm htok hnt hto
end
theorem sW {i : Nat} (h : i < 9223372036854775807) : IntKind.i64.wrap (↑i + 1) = ((i + 1 : Nat) : Int) := by rw [wrap_in (by omega) (by omega)]; rfl
theorem sB {f : FuncId} {fn : Func} {c : Code} {args : List AV} {m : AMem} {Q : AV → AMem → Prop} {k : Nat} (hfn : Tryz.prog.funcs[f]? = some fn) (hk : fn.ntmps = k)
  (h : lb m.nb m.box [] = m.box → (∀ t, m.tok t = true → t < m.nt) → AT Tryz.prog ⟨m.nb, m.nb + fn.ntmps, fn.ntmps, m.box⟩ m.nt c ⟨tl (tlArgs 0 args), lb m.nb m.box [], m.tok, m.nt⟩
   fun e S => (e = .normal ∨ e = .ret) ∧ Fin Tryz.prog ⟨m.nb, m.nb + fn.ntmps, fn.ntmps, m.box⟩ m.nt fn.results.toList Q S)
  (hb : fn.body = some c := by rfl) (hname : (fn.name == "runtime.NumGoroutine") = false := by kernel_rfl) (hl : args.length ≤ k := by simp) : ACalls Tryz.prog f args m Q :=
 ACalls.of_body hfn hb hname follows_Tryz rfl (hk ▸ hl) h
end Go.AM
namespace Go.AM
open Go Go.Proofs
def withinB (n most : Int) : Bool := decide (0 ≤ n) && decide (n ≤ most)
def fitsB (e : E) (nodes : Int) : Bool := withinB e.ty 99 && (withinB e.fr (nodes - 1) && withinB e.to (nodes - 1))
theorem within_c (n most : Int) (tok : Tks) (nt : Nat) : DCall Tryz.prog 202 [I n, I most] tok nt (B (withinB n most)) tok nt := by
 intro box nb
 refine sB Tryz.func202 Tryz.ntmps202 ?_
 intro hbox htok
 simp only at hbox htok
 apply AL.start
 refine sR ?_
 simp
 refine sR ?_
 simp
 first | refine Gd.dt (fun h => ?_) (fun h => ?_) | refine Gd.df (fun h => ?_) (fun h => ?_) | refine Gd.t (fun h => ?_) (fun h => ?_) | refine Gd.f (fun h => ?_) (fun h => ?_)
 ·simp [h]
  refine sT ?_
  try simp only [AU]
  refine ⟨by simp, sF hbox htok (fun _ h => h) (Nat.le_refl _) ?_⟩
  simp [packA, withinB, h]
 ·simp [h]
  refine sT ?_
  try simp only [AU]
  refine ⟨by simp, sF hbox htok (fun _ h => h) (Nat.le_refl _) ?_⟩
  simp [packA, withinB, h]
theorem fits_c (e : E) (nodes : Int) (h0 : 0 ≤ nodes) (h1 : nodes ≤ 1000000) (tok : Tks) (nt : Nat) : DCall Tryz.prog 204 [.agg [I e.ty, I e.fr, I e.to], I nodes] tok nt (B (fitsB e nodes)) tok nt := by
 intro box nb
 have hw : IntKind.i64.wrap (nodes - 1) = nodes - 1 := wrap_in (by omega) (by omega)
 refine sB Tryz.func204 Tryz.ntmps204 ?_
 intro hbox htok
 simp only at hbox htok
 apply AL.start
 refine sR ?_
 simp
 refine sR ?_
 simp [hw]
 refine Stop.of_d (within_c _ _ _ _) ?_
 simp [hw]
 first | refine Gd.dt (fun h2 => ?_) (fun h2 => ?_) | refine Gd.df (fun h2 => ?_) (fun h2 => ?_) | refine Gd.t (fun h2 => ?_) (fun h2 => ?_) | refine Gd.f (fun h2 => ?_) (fun h2 => ?_)
 ·simp [hw, h2]
  refine Stop.of_d (within_c _ _ _ _) ?_
  simp [hw, h2]
  first | refine Gd.dt (fun h3 => ?_) (fun h3 => ?_) | refine Gd.df (fun h3 => ?_) (fun h3 => ?_) | refine Gd.t (fun h3 => ?_) (fun h3 => ?_) | refine Gd.f (fun h3 => ?_) (fun h3 => ?_)
  ·simp [hw, h3]
   refine Stop.of_d (within_c _ _ _ _) ?_
   simp [hw, h2, h3]
   refine sT ?_
   try simp only [AU]
   refine ⟨by simp, sF hbox htok (fun _ h => h) (Nat.le_refl _) ?_⟩
   simp [packA, fitsB, h2, h3]
  ·simp [h3]
   refine sT ?_
   try simp only [AU]
   refine ⟨by simp, sF hbox htok (fun _ h => h) (Nat.le_refl _) ?_⟩
   simp [packA, fitsB, h2, h3]
 ·simp [h2]
  refine sT ?_
  try simp only [AU]
  refine ⟨by simp, sF hbox htok (fun _ h => h) (Nat.le_refl _) ?_⟩
  simp [packA, fitsB, h2]
theorem valid1_c (n : Int) (tok : Tks) (nt : Nat) : DCall Tryz.prog 201 [I n] tok nt (B (!withinB n 99)) tok nt := by
 intro box nb
 refine sB Tryz.func201 Tryz.ntmps201 ?_
 intro hbox htok
 simp only at hbox htok
 apply AL.start
 refine sR ?_
 simp
 refine sR ?_
 simp
 refine Stop.of_d (within_c _ _ _ _) ?_
 simp
 refine sT ?_
 try simp only [AU]
 refine ⟨by simp, sF hbox htok (fun _ h => h) (Nat.le_refl _) ?_⟩
 simp [packA]
theorem valid2_c (e : E) (g : Gr) (hg : g.nodes.length ≤ 1000000) (tok : Tks) (nt : Nat) (box : Bxs) (nb k : Nat) (hk : box k = some [[.d (ints g.nodes), .d (AM.edges g.edges)]]) :
  ACalls Tryz.prog 203 [.agg [I e.ty, I e.fr, I e.to], .ptr k 0 0] ⟨box, nb, tok, nt⟩ fun v m => v = B (!fitsB e g.nodes.length) ∧ m = ⟨box, nb, tok, nt⟩ := by
 refine sB Tryz.func203 Tryz.ntmps203 ?_
 intro hbox htok
 simp only at hbox htok
 apply AL.start
 have hkn := key_lt hbox hk
 refine sR ?_
 simp
 refine sR ?_
 simp [lb_out hkn, hk]
 refine Stop.of_d (fits_c e g.nodes.length (by omega) (by omega) _ _) ?_
 simp
 refine sT ?_
 try simp only [AU]
 refine ⟨by simp, sF hbox htok (fun _ h => h) (Nat.le_refl _) ?_⟩
 simp [packA]
end Go.AM
namespace Go.AM
open Go Go.Proofs
theorem clone_c (xs : List Int) (hx : xs.length ≤ 1000000) (tok : Tks) (nt : Nat) : DCall Tryz.prog 126 [.d (ints xs)] tok nt (.osl 1 (rI xs) (.tok nt)) (upd tok nt true) (nt + 1) := by
 intro box nb
 have main : ACalls Tryz.prog 126 [.d (ints xs)] ⟨box, nb, tok, nt⟩ fun v m => (v = .osl 1 (rI xs) (.tok nt) ∧ m = ⟨box, nb, upd tok nt true, nt + 1⟩) ∨ (xs = [] ∧ v = .osl 0 [] .full ∧ m = ⟨box, nb, tok, nt⟩) := by
  refine sB Tryz.func126 Tryz.ntmps126 ?_
  intro hbox htok
  simp only at hbox htok
  apply AL.start
  refine sR ?_
  simp
  refine sR ?_
  simp
  refine ⟨?_, fun h => ?_⟩
  ·refine sC ?_
   simp
   refine sR ?_
   simp
   refine ⟨by omega, ?_⟩
   refine sN ?_
   refine AL.ret ?_
   try simp only [AU]
   refine ⟨by simp, (Fin.own (by simp [resAs, resA]; rfl) hbox rfl (by simp) ?_).mono fun v m hq => .inl hq⟩
   simp [packA]
  ·refine sC ?_
   simp
   refine sR ?_
   simp
   refine sN ?_
   refine AL.ret ?_
   try simp only [AU]
   refine ⟨by simp, (Fin.own (by simp [resAs, resA]; rfl) hbox rfl (Nat.le_refl _) ?_).mono fun v m hq => .inr ⟨h, hq.1, hq.2⟩⟩
   simp [packA]
 refine main.conv fun v m h => ?_
 rcases h with ⟨rfl, rfl⟩ | ⟨rfl, rfl, rfl⟩
 ·exact ⟨_, _, Conv.refl _ _, rfl, rfl⟩
 ·exact ⟨_, _, Conv.newtok 0 1 box nb tok nt, rfl, rfl⟩
def indexI (xs : List Int) (v : Int) : Int := if v ∈ xs then (xs.idxOf v : Int) else -1
def st66 (xs : List Int) (v : Int) (nb : Nat) (box : Bxs) (tok : Tks) (nt : Nat) (i : Nat) : AState := ⟨tl [(0, .d (ints xs)), (1, I v), (7, I xs.length), (8, I i)], lb nb box [], tok, nt⟩
theorem index_c (xs : List Int) (v : Int) (hx : xs.length ≤ 1000000) (tok : Tks) (nt : Nat) : DCall Tryz.prog 222 [.d (ints xs), I v] tok nt (I (indexI xs v)) tok nt := by
 intro box nb
 refine sB Tryz.func222 Tryz.ntmps222 ?_
 intro hbox htok
 simp only at hbox htok
 apply AL.start
 refine sR ?_
 simp
 refine sR ?_
 simp
 refine sN ?_
 refine AL.loopT (st66 xs v nb box tok nt) (fun i => i ≤ xs.length ∧ v ∉ xs.take i) (fun i => xs.length - i) 0 ⟨Nat.zero_le _, by simp⟩ (Weaks.mk (Nat.le_refl _) rfl (by simp [ToL]) trivial) ?_
 rintro i S ⟨hi, htk⟩ hS
 simp only [st66] at hS
 subst hS
 have hw := sW (i := i) (by omega)
 refine sR ?_
 simp
 refine sC ?_
 simp
 refine ⟨fun hlt => ?_, fun hge => ?_⟩
 ·have hsp : xs = xs.take i ++ xs[i] :: xs.drop (i + 1) := by simp
  refine sR ?_
  simp
  refine sR ?_
  simp [hlt]
  refine sC ?_
  simp
  refine ⟨fun he => ?_, fun hne => ?_⟩
  ·refine sR ?_
   simp
   have hmem : v ∈ xs := by rw [he]; exact List.getElem_mem _
   have hid : xs.idxOf v = i := by
    unfold List.idxOf
    rw [List.findIdx_eq hlt]
    refine ⟨by simp [he], fun j hj => ?_⟩
    have : xs[j] ≠ v := fun e => htk (by rw [← e, List.mem_take_iff_getElem]; exact ⟨j, by omega, rfl⟩)
    simpa using this
   refine sT ?_
   try simp only [AU]
   refine ⟨by simp, sF hbox htok (fun _ h => h) (Nat.le_refl _) ?_⟩
   simp [packA, indexI, hmem, hid]
  ·refine sR ?_
   simp [hw]
   refine sE ?_
   refine ⟨i + 1, ⟨hlt, ?_⟩, by omega, Weaks.mk (Nat.le_refl _) rfl (by simp [ToL]) trivial⟩
   rw [List.take_succ_eq_append_getElem hlt]
   simp only [List.mem_append, List.mem_singleton, not_or]
   exact ⟨htk, hne⟩
 ·refine sX ?_
  simp only [AU, ↓reduceIte]
  refine sR ?_
  simp
  have hn : v ∉ xs := by rwa [List.take_of_length_le hge] at htk
  refine sT ?_
  try simp only [AU]
  refine ⟨by simp, sF hbox htok (fun _ h => h) (Nat.le_refl _) ?_⟩
  simp [packA, indexI, hn]
theorem indexI_nonneg (xs : List Int) (v : Int) : (0 ≤ indexI xs v) ↔ v ∈ xs := by
 unfold indexI
 split <;> simp [*]
theorem contains_c (xs : List Int) (v : Int) (hx : xs.length ≤ 1000000) (tok : Tks) (nt : Nat) : DCall Tryz.prog 143 [.d (ints xs), I v] tok nt (B (decide (v ∈ xs))) tok nt := by
 intro box nb
 refine sB Tryz.func143 Tryz.ntmps143 ?_
 intro hbox htok
 simp only at hbox htok
 apply AL.start
 refine sR ?_
 simp
 refine sR ?_
 simp
 refine Stop.of_d (index_c xs v hx _ _) ?_
 simp
 refine sT ?_
 try simp only [AU]
 refine ⟨by simp, sF hbox htok (fun _ h => h) (Nat.le_refl _) ?_⟩
 simp [packA, indexI_nonneg]
def findI {α : Type} (p : α → Bool) (xs : List α) : Int := if xs.any p then (xs.findIdx p : Int) else -1
def anyB {α : Type} (p : α → Bool) (xs : List α) : Bool := xs.any p
theorem findI_nonneg {α : Type} (p : α → Bool) (xs : List α) : (0 ≤ findI p xs) ↔ xs.any p = true := by
 unfold findI
 split <;> simp [*]
theorem any_take {α : Type} {p : α → Bool} {xs : List α} {i : Nat} (h : i < xs.length) (h1 : ∀ x ∈ xs.take i, p x = false) (h2 : p xs[i] = true) : xs.any p = true ∧ xs.findIdx p = i := by
 have hany : xs.any p = true := List.any_eq_true.2 ⟨_, List.getElem_mem h, h2⟩
 refine ⟨hany, ?_⟩
 rw [List.findIdx_eq h]
 refine ⟨h2, fun j hj => ?_⟩
 have := h1 xs[j] (by
  rw [List.mem_take_iff_getElem]
  exact ⟨j, by omega, rfl⟩)
 simpa using this
def st96 (xs : List Int) (f : FuncId) (caps : List AV) (nb : Nat) (box : Bxs) (tok : Tks) (nt : Nat) (i : Nat) : AState := ⟨tl [(0, .d (ints xs)), (1, .fn (.func f) caps), (7, I xs.length), (8, I i)], lb nb box [], tok, nt⟩
theorem indexFunc_c (xs : List Int) (f : FuncId) (caps : List AV) (p : Int → Bool) (hx : xs.length ≤ 1000000) (box : Bxs) (nb : Nat) (tok : Tks) (nt : Nat) (hc : ∀ c ∈ caps, OkIn (fun k => box k ≠ none) (fun _ => True) c)
  (hf : ∀ x ∈ xs, ∀ box' nb', Ext box box' → ACalls Tryz.prog f (I x :: caps) ⟨box', nb', tok, nt⟩ fun v m => v = B (p x) ∧ m = ⟨box', nb', tok, nt⟩) :
  ACalls Tryz.prog 163 [.d (ints xs), .fn (.func f) caps] ⟨box, nb, tok, nt⟩ fun v m => v = I (findI p xs) ∧ m = ⟨box, nb, tok, nt⟩ := by
 refine sB Tryz.func163 Tryz.ntmps163 ?_
 intro hbox htok
 simp only at hbox htok
 apply AL.start
 refine sR ?_
 simp
 refine sR ?_
 simp
 refine sN ?_
 refine AL.loopT (st96 xs f caps nb box tok nt) (fun i => i ≤ xs.length ∧ ∀ x ∈ xs.take i, p x = false) (fun i => xs.length - i) 0 ⟨Nat.zero_le _, by simp⟩ (Weaks.mk (Nat.le_refl _) rfl (by simp [ToL]; exact .same (okFn hc hbox [] (by simp) rfl _)) trivial) ?_
 rintro i S ⟨hi, htk⟩ hS
 simp only [st96] at hS
 subst hS
 have hw := sW (i := i) (by omega)
 refine sR ?_
 simp
 refine sC ?_
 simp
 refine ⟨fun hlt => ?_, fun hge => ?_⟩
 ·refine sR ?_
  simp
  refine sR ?_
  simp [hlt]
  refine Stop.of_b (hf xs[i] (List.getElem_mem _) _ _ ((Ext.refl box).lb hbox [])) ?_
  simp
  refine sC ?_
  simp
  refine ⟨fun he => ?_, fun hne => ?_⟩
  ·refine sR ?_
   simp
   obtain ⟨h1, h2⟩ := any_take hlt htk he
   refine sT ?_
   try simp only [AU]
   refine ⟨by simp, sF hbox htok (fun _ h => h) (Nat.le_refl _) ?_⟩
   simp [packA, findI, h1, h2]
  ·refine sR ?_
   simp [hw]
   refine sE ?_
   refine ⟨i + 1, ⟨hlt, ?_⟩, by omega, Weaks.mk (Nat.le_refl _) rfl (by simp [ToL]; exact .same (okFn hc hbox [] (by simp) rfl _)) trivial⟩
   rw [List.take_succ_eq_append_getElem hlt]
   intro x hx
   rcases List.mem_append.1 hx with hx | hx
   ·exact htk x hx
   ·simp at hx; rw [hx]; exact hne
 ·refine sX ?_
  simp only [AU, ↓reduceIte]
  refine sR ?_
  simp
  have hn : xs.any p = false := by
   rw [List.take_of_length_le hge] at htk
   simpa using htk
  refine sT ?_
  try simp only [AU]
  refine ⟨by simp, sF hbox htok (fun _ h => h) (Nat.le_refl _) ?_⟩
  simp [packA, findI, hn]
theorem containsFunc_c (xs : List Int) (f : FuncId) (caps : List AV) (p : Int → Bool) (hx : xs.length ≤ 1000000) (box : Bxs) (nb : Nat) (tok : Tks) (nt : Nat) (hc : ∀ c ∈ caps, OkIn (fun k => box k ≠ none) (fun _ => True) c)
  (hf : ∀ x ∈ xs, ∀ box' nb', Ext box box' → ACalls Tryz.prog f (I x :: caps) ⟨box', nb', tok, nt⟩ fun v m => v = B (p x) ∧ m = ⟨box', nb', tok, nt⟩) :
  ACalls Tryz.prog 96 [.d (ints xs), .fn (.func f) caps] ⟨box, nb, tok, nt⟩ fun v m => v = B (anyB p xs) ∧ m = ⟨box, nb, tok, nt⟩ := by
 refine sB Tryz.func96 Tryz.ntmps96 ?_
 intro hbox htok
 simp only at hbox htok
 apply AL.start
 refine sR ?_
 simp
 refine sR ?_
 simp
 refine Stop.of_b (indexFunc_c xs f caps p hx (lb nb box []) _ _ _ (fun c h => (hc c h).mono (fun k hk => by rw [hbox]; exact hk) fun _ h => h) (fun x hx' box' nb' he => hf x hx' box' nb' (by rw [hbox] at he; exact he))) ?_
 simp
 have hany : decide (∃ x, x ∈ xs ∧ p x = true) = anyB p xs := by rw [Bool.eq_iff_iff]; simp [anyB]
 refine sT ?_
 try simp only [AU]
 refine ⟨by simp, sF hbox htok (fun _ h => h) (Nat.le_refl _) ?_⟩
 simp [packA, findI_nonneg, hany]
def st97 (xs : List E) (f : FuncId) (caps : List AV) (nb : Nat) (box : Bxs) (tok : Tks) (nt : Nat) (i : Nat) : AState := ⟨tl [(0, .d (AM.edges xs)), (1, .fn (.func f) caps), (7, I xs.length), (8, I i)], lb nb box [], tok, nt⟩
theorem indexFuncE_c (xs : List E) (f : FuncId) (caps : List AV) (p : E → Bool) (hx : xs.length ≤ 1000000) (box : Bxs) (nb : Nat) (tok : Tks) (nt : Nat) (hc : ∀ c ∈ caps, OkIn (fun k => box k ≠ none) (fun _ => True) c)
  (hf : ∀ x ∈ xs, ∀ box' nb', Ext box box' → ACalls Tryz.prog f (.agg [I x.ty, I x.fr, I x.to] :: caps) ⟨box', nb', tok, nt⟩ fun v m => v = B (p x) ∧ m = ⟨box', nb', tok, nt⟩) :
  ACalls Tryz.prog 218 [.d (AM.edges xs), .fn (.func f) caps] ⟨box, nb, tok, nt⟩ fun v m => v = I (findI p xs) ∧ m = ⟨box, nb, tok, nt⟩ := by
 refine sB Tryz.func218 Tryz.ntmps218 ?_
 intro hbox htok
 simp only at hbox htok
 apply AL.start
 refine sR ?_
 simp
 refine sR ?_
 simp
 refine sN ?_
 refine AL.loopT (st97 xs f caps nb box tok nt) (fun i => i ≤ xs.length ∧ ∀ x ∈ xs.take i, p x = false) (fun i => xs.length - i) 0 ⟨Nat.zero_le _, by simp⟩ (Weaks.mk (Nat.le_refl _) rfl (by simp [ToL]; exact .same (okFn hc hbox [] (by simp) rfl _)) trivial) ?_
 rintro i S ⟨hi, htk⟩ hS
 simp only [st97] at hS
 subst hS
 have hw := sW (i := i) (by omega)
 refine sR ?_
 simp
 refine sC ?_
 simp
 refine ⟨fun hlt => ?_, fun hge => ?_⟩
 ·refine sR ?_
  simp
  refine sR ?_
  simp [hlt]
  refine Stop.of_b (hf xs[i] (List.getElem_mem _) _ _ ((Ext.refl box).lb hbox [])) ?_
  simp
  refine sC ?_
  simp
  refine ⟨fun he => ?_, fun hne => ?_⟩
  ·refine sR ?_
   simp
   obtain ⟨h1, h2⟩ := any_take hlt htk he
   refine sT ?_
   try simp only [AU]
   refine ⟨by simp, sF hbox htok (fun _ h => h) (Nat.le_refl _) ?_⟩
   simp [packA, findI, h1, h2]
  ·refine sR ?_
   simp [hw]
   refine sE ?_
   refine ⟨i + 1, ⟨hlt, ?_⟩, by omega, Weaks.mk (Nat.le_refl _) rfl (by simp [ToL]; exact .same (okFn hc hbox [] (by simp) rfl _)) trivial⟩
   rw [List.take_succ_eq_append_getElem hlt]
   intro x hx
   rcases List.mem_append.1 hx with hx | hx
   ·exact htk x hx
   ·simp at hx; rw [hx]; exact hne
 ·refine sX ?_
  simp only [AU, ↓reduceIte]
  refine sR ?_
  simp
  have hn : xs.any p = false := by
   rw [List.take_of_length_le hge] at htk
   simpa using htk
  refine sT ?_
  try simp only [AU]
  refine ⟨by simp, sF hbox htok (fun _ h => h) (Nat.le_refl _) ?_⟩
  simp [packA, findI, hn]
theorem containsFuncE_c (xs : List E) (f : FuncId) (caps : List AV) (p : E → Bool) (hx : xs.length ≤ 1000000) (box : Bxs) (nb : Nat) (tok : Tks) (nt : Nat) (hc : ∀ c ∈ caps, OkIn (fun k => box k ≠ none) (fun _ => True) c)
  (hf : ∀ x ∈ xs, ∀ box' nb', Ext box box' → ACalls Tryz.prog f (.agg [I x.ty, I x.fr, I x.to] :: caps) ⟨box', nb', tok, nt⟩ fun v m => v = B (p x) ∧ m = ⟨box', nb', tok, nt⟩) :
  ACalls Tryz.prog 135 [.d (AM.edges xs), .fn (.func f) caps] ⟨box, nb, tok, nt⟩ fun v m => v = B (anyB p xs) ∧ m = ⟨box, nb, tok, nt⟩ := by
 refine sB Tryz.func135 Tryz.ntmps135 ?_
 intro hbox htok
 simp only at hbox htok
 apply AL.start
 refine sR ?_
 simp
 refine sR ?_
 simp
 refine Stop.of_b (indexFuncE_c xs f caps p hx (lb nb box []) _ _ _ (fun c h => (hc c h).mono (fun k hk => by rw [hbox]; exact hk) fun _ h => h) (fun x hx' box' nb' he => hf x hx' box' nb' (by rw [hbox] at he; exact he))) ?_
 simp
 have hany : decide (∃ x, x ∈ xs ∧ p x = true) = anyB p xs := by rw [Bool.eq_iff_iff]; simp [anyB]
 refine sT ?_
 try simp only [AU]
 refine ⟨by simp, sF hbox htok (fun _ h => h) (Nat.le_refl _) ?_⟩
 simp [packA, findI_nonneg, hany]
end Go.AM
namespace Go.AM
open Go Go.Proofs
def validG (g : Gr) : Int := if 40 < g.nodes.length ∨ 80 < g.edges.length then 3 else if anyB (fun n => !withinB n 99) g.nodes then 6 else if anyB (fun e => !fitsB e g.nodes.length) g.edges then 6 else 0
structure Gr.Fit (g : Gr) : Prop where
 n : g.nodes.length ≤ 1000000
 e : g.edges.length ≤ 1000000
theorem graphValid_c (g : Gr) (hg : g.Fit) (tok : Tks) (nt : Nat) : DCall Tryz.prog 122 [g.av] tok nt (I (validG g)) tok nt := by
 intro box nb
 have hn := hg.n
 have he := hg.e
 refine sB Tryz.func122 Tryz.ntmps122 ?_
 intro hbox htok
 simp only at hbox htok
 apply AL.start
 refine sR ?_
 simp
 refine sR ?_
 simp
 first | refine Gd.dt (fun h1 => ?_) (fun h1 => ?_) | refine Gd.df (fun h1 => ?_) (fun h1 => ?_) | refine Gd.t (fun h1 => ?_) (fun h1 => ?_) | refine Gd.f (fun h1 => ?_) (fun h1 => ?_)
 ·simp [h1]
  refine sC ?_
  simp
  refine sR ?_
  simp
  refine sT ?_
  try simp only [AU]
  refine ⟨by simp, sF hbox htok (fun _ h => h) (Nat.le_refl _) ?_⟩
  simp [packA, validG, show 40 < g.nodes.length by omega]
 ·simp [h1]
  refine sC ?_
  simp
  refine ⟨fun h2 => ?_, fun h2 => ?_⟩
  ·refine sR ?_
   simp
   refine sT ?_
   try simp only [AU]
   refine ⟨by simp, sF hbox htok (fun _ h => h) (Nat.le_refl _) ?_⟩
   simp [packA, validG, show 80 < g.edges.length by omega]
  ·have hn1 : ¬ 40 < g.nodes.length := by omega
   have hn2 : ¬ 80 < g.edges.length := by omega
   refine sR ?_
   simp
   refine Stop.of_b (containsFunc_c g.nodes 201 [] (fun n => !withinB n 99) hn _ _ _ _ (by simp) (fun x _ box' nb' _ => valid1_c x _ _ box' nb')) ?_
   simp
   refine sC ?_
   simp
   refine ⟨fun h3 => ?_, fun h3 => ?_⟩
   ·refine sR ?_
    simp
    refine sT ?_
    try simp only [AU]
    refine ⟨by simp, sF hbox htok (fun _ h => h) (Nat.le_refl _) ?_⟩
    simp [packA, validG, hn1, hn2, h3]
   ·refine sR ?_
    simp
    refine Stop.of_b (containsFuncE_c g.edges 203 [.ptr (nb + 1) 0 0] (fun e => !fitsB e g.nodes.length) he _ _ _ _ (by simp [lb_at, lk]) (fun x _ box' nb' hx => valid2_c x g hn _ _ box' nb' (nb + 1) (hx _ _ (by simp [lb_at, lk])))) ?_
    simp
    refine sC ?_
    simp
    refine ⟨fun h4 => ?_, fun h4 => ?_⟩
    ·refine sR ?_
     simp
     refine sT ?_
     try simp only [AU]
     refine ⟨by simp, sF hbox htok (fun _ h => h) (Nat.le_refl _) ?_⟩
     simp [packA, validG, hn1, hn2, h3, h4]
    ·refine sR ?_
     simp
     refine sT ?_
     try simp only [AU]
     refine ⟨by simp, sF hbox htok (fun _ h => h) (Nat.le_refl _) ?_⟩
     simp [packA, validG, hn1, hn2, h3, h4]
end Go.AM
namespace Go.AM
open Go Go.Proofs
theorem kind_c (n : Int) (tok : Tks) (nt : Nat) : DCall Tryz.prog 208 [I n] tok nt (B (withinB n 99)) tok nt := by
 intro box nb
 refine sB Tryz.func208 Tryz.ntmps208 ?_
 intro hbox htok
 simp only at hbox htok
 apply AL.start
 refine sR ?_
 simp
 refine sR ?_
 simp
 first | refine Gd.dt (fun h => ?_) (fun h => ?_) | refine Gd.df (fun h => ?_) (fun h => ?_) | refine Gd.t (fun h => ?_) (fun h => ?_) | refine Gd.f (fun h => ?_) (fun h => ?_)
 ·simp [h]
  refine sT ?_
  try simp only [AU]
  refine ⟨by simp, sF hbox htok (fun _ h => h) (Nat.le_refl _) ?_⟩
  simp [packA, withinB, h]
 ·simp [h]
  refine sT ?_
  try simp only [AU]
  refine ⟨by simp, sF hbox htok (fun _ h => h) (Nat.le_refl _) ?_⟩
  simp [packA, withinB, h]
theorem right_c (e : E) (nodes : Int) (tok : Tks) (nt : Nat) : DCall Tryz.prog 209 [.agg [I e.ty, I e.fr, I e.to], I nodes] tok nt (B (fitsB e nodes)) tok nt := by
 intro box nb
 refine sB Tryz.func209 Tryz.ntmps209 ?_
 intro hbox htok
 simp only at hbox htok
 apply AL.start
 refine sR ?_
 simp
 refine sR ?_
 simp
 refine Stop.of_d (kind_c _ _ _) ?_
 simp
 first | refine Gd.dt (fun h1 => ?_) (fun h1 => ?_) | refine Gd.df (fun h1 => ?_) (fun h1 => ?_) | refine Gd.t (fun h1 => ?_) (fun h1 => ?_) | refine Gd.f (fun h1 => ?_) (fun h1 => ?_)
 ·simp [h1]
  first | refine Gd.dt (fun h2 => ?_) (fun h2 => ?_) | refine Gd.df (fun h2 => ?_) (fun h2 => ?_) | refine Gd.t (fun h2 => ?_) (fun h2 => ?_) | refine Gd.f (fun h2 => ?_) (fun h2 => ?_)
  ·simp [h1, h2]
   first | refine Gd.dt (fun h3 => ?_) (fun h3 => ?_) | refine Gd.df (fun h3 => ?_) (fun h3 => ?_) | refine Gd.t (fun h3 => ?_) (fun h3 => ?_) | refine Gd.f (fun h3 => ?_) (fun h3 => ?_)
   ·simp [h1, h2, h3]
    first | refine Gd.dt (fun h4 => ?_) (fun h4 => ?_) | refine Gd.df (fun h4 => ?_) (fun h4 => ?_) | refine Gd.t (fun h4 => ?_) (fun h4 => ?_) | refine Gd.f (fun h4 => ?_) (fun h4 => ?_)
    ·simp [h1, h2, h3, h4]
     have k1 : e.fr ≤ nodes - 1 := by omega
     have k2 : (e.to < nodes) ↔ (e.to ≤ nodes - 1) := by omega
     refine sT ?_
     try simp only [AU]
     refine ⟨by simp, sF hbox htok (fun _ h => h) (Nat.le_refl _) ?_⟩
     simp [packA, fitsB, h1, h2, h3, h4, withinB, k1, k2]
     simp [withinB] at h1
     simp [h1]
    ·simp [h1, h2, h3, h4]
     refine sT ?_
     try simp only [AU]
     refine ⟨by simp, sF hbox htok (fun _ h => h) (Nat.le_refl _) ?_⟩
     simp [packA, fitsB, h1, h2, h3, h4, withinB]
   ·simp [h1, h2, h3]
    have k1 : ¬ e.fr ≤ nodes - 1 := by omega
    refine sT ?_
    try simp only [AU]
    refine ⟨by simp, sF hbox htok (fun _ h => h) (Nat.le_refl _) ?_⟩
    simp [packA, fitsB, h1, h2, h3, withinB, k1]
  ·simp [h1, h2]
   refine sT ?_
   try simp only [AU]
   refine ⟨by simp, sF hbox htok (fun _ h => h) (Nat.le_refl _) ?_⟩
   simp [packA, fitsB, h1, h2, withinB]
 ·simp [h1]
  refine sT ?_
  try simp only [AU]
  refine ⟨by simp, sF hbox htok (fun _ h => h) (Nat.le_refl _) ?_⟩
  simp [packA, fitsB, h1]
def st41a (g : Gr) (nb : Nat) (box : Bxs) (tok : Tks) (nt : Nat) (i : Nat) : AState := ⟨tl [(1, .ptr (nb + 1) 0 0), (3, I i)], lb nb box [(1, [[.d (ints g.nodes), .d (AM.edges g.edges)]])], tok, nt⟩
def st41b (g : Gr) (nb : Nat) (box : Bxs) (tok : Tks) (nt : Nat) (i : Nat) : AState := ⟨tl [(1, .ptr (nb + 1) 0 0), (4, I i)], lb nb box [(1, [[.d (ints g.nodes), .d (AM.edges g.edges)]])], tok, nt⟩
theorem anyB_take {α : Type} {p : α → Bool} {xs : List α} {i : Nat} (h : i < xs.length) (h2 : p xs[i] = true) : anyB p xs = true := List.any_eq_true.2 ⟨_, List.getElem_mem h, h2⟩
theorem anyB_all {α : Type} {p : α → Bool} {xs : List α} {i : Nat} (h : xs.length ≤ i) (h2 : ∀ x ∈ xs.take i, p x = false) : anyB p xs = false := by
 rw [List.take_of_length_le h] at h2
 exact List.any_eq_false.2 fun x hx => by simp [h2 x hx]
theorem anyB_step {α : Type} {p : α → Bool} {xs : List α} {i : Nat} (h : i < xs.length) (h1 : ∀ x ∈ xs.take i, p x = false) (h2 : p xs[i] = false) : ∀ x ∈ xs.take (i + 1), p x = false := by
 intro x hx
 rw [List.take_succ_eq_append_getElem h] at hx
 rcases List.mem_append.1 hx with hx | hx
 ·exact h1 x hx
 ·simp at hx; rw [hx]; exact h2
theorem valid05_c (g : Gr) (hg : g.Fit) (tok : Tks) (nt : Nat) : DCall Tryz.prog 129 [g.av] tok nt (I (validG g)) tok nt := by
 intro box nb
 have hn := hg.n
 have he := hg.e
 refine sB Tryz.func129 Tryz.ntmps129 ?_
 intro hbox htok
 simp only at hbox htok
 apply AL.start
 refine sR ?_
 simp
 refine sR ?_
 simp
 first | refine Gd.dt (fun h1 => ?_) (fun h1 => ?_) | refine Gd.df (fun h1 => ?_) (fun h1 => ?_) | refine Gd.t (fun h1 => ?_) (fun h1 => ?_) | refine Gd.f (fun h1 => ?_) (fun h1 => ?_)
 ·simp [h1]
  refine sC ?_
  simp
  refine sR ?_
  simp
  refine sT ?_
  try simp only [AU]
  refine ⟨by simp, sF hbox htok (fun _ h => h) (Nat.le_refl _) ?_⟩
  simp [packA, validG, show 40 < g.nodes.length by omega]
 ·simp [h1]
  refine sC ?_
  simp
  refine ⟨fun h2 => ?_, fun h2 => ?_⟩
  ·refine sR ?_
   simp
   refine sT ?_
   try simp only [AU]
   refine ⟨by simp, sF hbox htok (fun _ h => h) (Nat.le_refl _) ?_⟩
   simp [packA, validG, show 80 < g.edges.length by omega]
  ·have hn1 : ¬ 40 < g.nodes.length := by omega
   have hn2 : ¬ 80 < g.edges.length := by omega
   refine sR ?_
   simp
   refine sN ?_
   refine AL.loopT (st41a g nb box tok nt) (fun i => i ≤ g.nodes.length ∧ ∀ x ∈ g.nodes.take i, (!withinB x 99) = false) (fun i => g.nodes.length - i) 0 ⟨Nat.zero_le _, by simp⟩ (Weaks.mk (Nat.le_refl _) rfl (by simp [ToL, lk]) (by simp [BoxL, lk])) ?_
   rintro i S ⟨hi, htk⟩ hS
   simp only [st41a] at hS
   subst hS
   have hw := sW (i := i) (by omega)
   refine sR ?_
   simp
   refine sC ?_
   simp
   refine ⟨fun hlt => ?_, fun hge => ?_⟩
   ·refine sR ?_
    simp [hlt]
    refine Stop.of_d (kind_c _ _ _) ?_
    simp
    refine sC ?_
    simp
    refine ⟨fun hb => ?_, fun hb => ?_⟩
    ·refine sR ?_
     simp
     have h3 : anyB (fun n => !withinB n 99) g.nodes = true := anyB_take hlt (by simp [hb])
     refine sT ?_
     try simp only [AU]
     refine ⟨by simp, sF hbox htok (fun _ h => h) (Nat.le_refl _) ?_⟩
     simp [packA, validG, hn1, hn2, h3]
    ·refine sR ?_
     simp [hw]
     refine sE ?_
     refine ⟨i + 1, ⟨hlt, ?_⟩, by omega, Weaks.mk (Nat.le_refl _) rfl (by simp [ToL, lk]) (by simp [BoxL, lk])⟩
     have := anyB_step (p := fun n => !withinB n 99) hlt (by simpa using htk) (by simp [hb])
     simpa using this
   ·refine sX ?_
    simp only [AU, ↓reduceIte]
    have h3 : anyB (fun n => !withinB n 99) g.nodes = false := anyB_all hge (by simpa using htk)
    refine sR ?_
    simp
    refine sN ?_
    refine AL.loopT (st41b g nb box tok nt) (fun i => i ≤ g.edges.length ∧ ∀ x ∈ g.edges.take i, (!fitsB x g.nodes.length) = false) (fun i => g.edges.length - i) 0 ⟨Nat.zero_le _, by simp⟩ (Weaks.mk (Nat.le_refl _) rfl (by simp [ToL, lk]) (by simp [BoxL, lk])) ?_
    rintro i S ⟨hi, htk⟩ hS
    simp only [st41b] at hS
    subst hS
    have hw := sW (i := i) (by omega)
    refine sR ?_
    simp
    refine sC ?_
    simp
    refine ⟨fun hlt => ?_, fun hge => ?_⟩
    ·refine sR ?_
     simp [hlt]
     refine Stop.of_d (right_c g.edges[i] _ _ _) ?_
     simp
     refine sC ?_
     simp
     refine ⟨fun hb => ?_, fun hb => ?_⟩
     ·refine sR ?_
      simp
      have h4 : anyB (fun e => !fitsB e g.nodes.length) g.edges = true := anyB_take hlt (by simp [hb])
      refine sT ?_
      try simp only [AU]
      refine ⟨by simp, sF hbox htok (fun _ h => h) (Nat.le_refl _) ?_⟩
      simp [packA, validG, hn1, hn2, h3, h4]
     ·refine sR ?_
      simp [hw]
      refine sE ?_
      refine ⟨i + 1, ⟨hlt, ?_⟩, by omega, Weaks.mk (Nat.le_refl _) rfl (by simp [ToL, lk]) (by simp [BoxL, lk])⟩
      have := anyB_step (p := fun e => !fitsB e g.nodes.length) hlt (by simpa using htk) (by simp [hb])
      simpa using this
    ·refine sX ?_
     simp only [AU, ↓reduceIte]
     have h4 : anyB (fun e => !fitsB e g.nodes.length) g.edges = false := anyB_all hge (by simpa using htk)
     refine sR ?_
     simp
     refine sT ?_
     try simp only [AU]
     refine ⟨by simp, sF hbox htok (fun _ h => h) (Nat.le_refl _) ?_⟩
     simp [packA, validG, hn1, hn2, h3, h4]
def fewG (g : Gr) : Bool := decide ((g.nodes.length : Int) ≤ 45) && decide ((g.edges.length : Int) ≤ 90)
theorem few05_c (g : Gr) (tok : Tks) (nt : Nat) : DCall Tryz.prog 58 [g.av] tok nt (B (fewG g)) tok nt := by
 intro box nb
 refine sB Tryz.func58 Tryz.ntmps58 ?_
 intro hbox htok
 simp only at hbox htok
 apply AL.start
 refine sR ?_
 simp
 refine sR ?_
 simp
 first | refine Gd.dt (fun h1 => ?_) (fun h1 => ?_) | refine Gd.df (fun h1 => ?_) (fun h1 => ?_) | refine Gd.t (fun h1 => ?_) (fun h1 => ?_) | refine Gd.f (fun h1 => ?_) (fun h1 => ?_)
 ·simp [h1]
  refine sT ?_
  try simp only [AU]
  refine ⟨by simp, sF hbox htok (fun _ h => h) (Nat.le_refl _) ?_⟩
  simp [packA, fewG, h1]
 ·simp [h1]
  refine sT ?_
  try simp only [AU]
  refine ⟨by simp, sF hbox htok (fun _ h => h) (Nat.le_refl _) ?_⟩
  simp [packA, fewG, h1]
theorem fewG_fit {g : Gr} (h : fewG g = true) : g.Fit := by
 simp [fewG] at h
 exact ⟨by omega, by omega⟩
end Go.AM
namespace Go.AM
open Go Go.Proofs
structure Ov where
 g : Gr
 l : Mo
 r : Mo
 deriving DecidableEq, Inhabited
structure Qu where
 g : Gr
 o : Mo
 deriving DecidableEq, Inhabited
abbrev Ov.cells (o : Ov) : List D := [ints o.g.nodes, AM.edges o.g.edges, ints o.l.nodes, ints o.l.edges, ints o.r.nodes, ints o.r.edges]
abbrev Ov.av (o : Ov) : AV := .agg [.d (ints o.g.nodes), .d (AM.edges o.g.edges), .d (ints o.l.nodes), .d (ints o.l.edges), .d (ints o.r.nodes), .d (ints o.r.edges)]
abbrev Qu.cells (o : Qu) : List D := [ints o.g.nodes, AM.edges o.g.edges, ints o.o.nodes, ints o.o.edges]
abbrev Qu.av (o : Qu) : AV := .agg [.d (ints o.g.nodes), .d (AM.edges o.g.edges), .d (ints o.o.nodes), .d (ints o.o.edges)]
structure Mo.Fit (m : Mo) : Prop where
 n : m.nodes.length ≤ 1000000
 e : m.edges.length ≤ 1000000
def st62 (xs ys : List Int) (nb : Nat) (box : Bxs) (tok : Tks) (nt : Nat) (i : Nat) : AState := ⟨tl [(0, .d (ints xs)), (1, .d (ints ys)), (5, I i)], lb nb box [], tok, nt⟩
theorem sameInts02_c (xs ys : List Int) (hx : xs.length ≤ 1000000) (tok : Tks) (nt : Nat) : DCall Tryz.prog 75 [.d (ints xs), .d (ints ys)] tok nt (B (decide (xs = ys))) tok nt := by
 intro box nb
 refine sB Tryz.func75 Tryz.ntmps75 ?_
 intro hbox htok
 simp only at hbox htok
 apply AL.start
 refine sR ?_
 simp
 refine sR ?_
 simp
 refine sC ?_
 simp
 refine ⟨fun hne => ?_, fun he => ?_⟩
 ·refine sR ?_
  simp
  have : ¬ xs = ys := fun e => hne (by rw [e])
  refine sT ?_
  try simp only [AU]
  refine ⟨by simp, sF hbox htok (fun _ h => h) (Nat.le_refl _) ?_⟩
  simp [packA, this]
 ·refine sR ?_
  simp
  refine sN ?_
  refine AL.loopT (st62 xs ys nb box tok nt) (fun i => i ≤ xs.length ∧ xs.take i = ys.take i) (fun i => xs.length - i) 0 ⟨Nat.zero_le _, rfl⟩ (Weaks.mk (Nat.le_refl _) rfl (by simp [ToL]) trivial) ?_
  rintro i S ⟨hi, htk⟩ hS
  simp only [st62] at hS
  subst hS
  refine sR ?_
  simp
  refine sC ?_
  simp
  have hw := sW (i := i) (by omega)
  refine ⟨fun hlt => ?_, fun hge => ?_⟩
  ·have hly : i < ys.length := by omega
   refine sR ?_
   simp [hlt, hly]
   refine sC ?_
   simp
   refine ⟨fun hne => ?_, fun heq => ?_⟩
   ·refine sR ?_
    simp
    have : ¬ xs = ys := fun e => hne (by simp [e])
    refine sT ?_
    try simp only [AU]
    refine ⟨by simp, sF hbox htok (fun _ h => h) (Nat.le_refl _) ?_⟩
    simp [packA, this]
   ·refine sR ?_
    simp [hw]
    refine sE ?_
    refine ⟨i + 1, ⟨hlt, ?_⟩, by omega, Weaks.mk (Nat.le_refl _) rfl (by simp [ToL]) trivial⟩
    rw [List.take_succ_eq_append_getElem hlt, List.take_succ_eq_append_getElem hly, htk, heq]
  ·refine sX ?_
   simp only [AU, ↓reduceIte]
   refine sR ?_
   simp
   have : xs = ys := by
    rw [List.take_of_length_le hge, List.take_of_length_le (by omega)] at htk
    exact htk
   refine sT ?_
   try simp only [AU]
   refine ⟨by simp, sF hbox htok (fun _ h => h) (Nat.le_refl _) ?_⟩
   simp [packA, this]
theorem same06_c (a b : Mo) (ha : a.Fit) (tok : Tks) (nt : Nat) : DCall Tryz.prog 23 [a.av, b.av] tok nt (B (decide (a = b))) tok nt := by
 intro box nb
 refine sB Tryz.func23 Tryz.ntmps23 ?_
 intro hbox htok
 simp only at hbox htok
 apply AL.start
 refine sR ?_
 simp
 refine sR ?_
 simp
 refine Stop.of_d (sameInts02_c a.nodes b.nodes ha.n _ _) ?_
 simp
 have hab : a = b ↔ a.nodes = b.nodes ∧ a.edges = b.edges := by cases a; cases b; simp
 first | refine Gd.dt (fun h1 => ?_) (fun h1 => ?_) | refine Gd.df (fun h1 => ?_) (fun h1 => ?_) | refine Gd.t (fun h1 => ?_) (fun h1 => ?_) | refine Gd.f (fun h1 => ?_) (fun h1 => ?_)
 ·simp [h1]
  refine Stop.of_d (sameInts02_c a.edges b.edges ha.e _ _) ?_
  simp [h1]
  refine sT ?_
  try simp only [AU]
  refine ⟨by simp, sF hbox htok (fun _ h => h) (Nat.le_refl _) ?_⟩
  simp [packA, hab, h1]
 ·simp [h1]
  refine sT ?_
  try simp only [AU]
  refine ⟨by simp, sF hbox htok (fun _ h => h) (Nat.le_refl _) ?_⟩
  simp [packA, hab, h1]
structure Ov.Fit (o : Ov) : Prop where
 g : o.g.Fit
 l : o.l.Fit
 r : o.r.Fit
structure Qu.Fit (o : Qu) : Prop where
 g : o.g.Fit
 o : o.o.Fit
end Go.AM
namespace Go.AM
open Go Go.Proofs
end Go.AM
namespace Go.AM
open Go Go.Proofs
def iota (n : Nat) : List Int := (List.range n).map fun (i : Nat) => (i : Int)
@[simp] theorem iota_length (n : Nat) : (iota n).length = n := by simp [iota]
@[simp] theorem iota_zero : iota 0 = [] := rfl
structure Acc where
 i : Nat
 own : Own
 tok : Nat → Bool
 nt : Nat
def upto (n i : Nat) : List Int := iota i ++ List.replicate (n - i) 0
@[simp] theorem upto_length {n i : Nat} (h : i ≤ n) : (upto n i).length = n := by simp [upto]; omega
@[simp] theorem upto_zero (n : Nat) : upto n 0 = List.replicate n 0 := by simp [upto]
@[simp] theorem upto_all (n : Nat) : upto n n = iota n := by simp [upto]
end Go.AM
namespace Go.AM
open Go Go.Proofs
def idM (g : Gr) : Mo := ⟨iota g.nodes.length, iota g.edges.length⟩
end Go.AM
namespace Go.AM
open Go Go.Proofs
end Go.AM
namespace Go.AM
open Go Go.Proofs
structure Adv (tok : Tks) (nt : Nat) (own : Own) (tok' : Nat → Bool) (nt' : Nat) (own' : Own) : Prop where
 keep : ∀ t, tok t = true → own ≠ .tok t → tok' t = true
 le : nt ≤ nt'
 live : own'.liveP tok'
 new : own' = own ∨ ∃ t, own' = .tok t ∧ nt ≤ t
 lt : ∀ t, tok' t = true → t < nt'
theorem Adv.refl {tok : Nat → Bool} {nt : Nat} {own : Own} (h : own.liveP tok) (hl : ∀ t, tok t = true → t < nt) : Adv tok nt own tok nt own := ⟨fun _ h _ => h, Nat.le_refl _, h, .inl rfl, hl⟩
theorem Adv.trans {t1 t2 t3 : Nat → Bool} {n1 n2 n3 : Nat} {o1 o2 o3 : Own} (hl : ∀ t, t1 t = true → t < n1) (h : Adv t1 n1 o1 t2 n2 o2) (k : Adv t2 n2 o2 t3 n3 o3) : Adv t1 n1 o1 t3 n3 o3 := by
 refine ⟨fun t ht ho => k.keep t (h.keep t ht ho) (fun e => ?_), Nat.le_trans h.le k.le, k.live, ?_, k.lt⟩
 ·rcases h.new with e2 | ⟨s, e2, hs⟩
  ·exact ho (e2 ▸ e)
  ·rw [e2] at e
   cases e
   have := hl _ ht
   omega
 ·rcases k.new with e2 | ⟨s, e2, hs⟩
  ·rw [e2]; exact h.new
  ·exact .inr ⟨s, e2, Nat.le_trans h.le hs⟩
theorem Adv.fresh {tok : Nat → Bool} {nt : Nat} {own : Own} (h : own.liveP tok) (hl : ∀ t, tok t = true → t < nt) : Adv tok nt own (upd (upd (upd tok nt true) nt false) (nt + 1) true) (nt + 2) own := by
 have key : ∀ t, t < nt → (upd (upd (upd tok nt true) nt false) (nt + 1) true) t = tok t := fun t ht => by
  rw [upd_other _ _ (by omega), upd_other _ _ (by omega), upd_other _ _ (by omega)]
 refine ⟨fun t ht _ => by rw [key t (hl t ht)]; exact ht, by omega, ?_, .inl rfl, fun t ht => ?_⟩
 ·cases own with
  | full => trivial
  | tok t => simp only [live_tok] at h ⊢; rw [key t (hl t h)]; exact h
 ·by_cases e : t = nt + 1
  ·omega
  ·rw [upd_other _ _ e] at ht
   by_cases e2 : t = nt
   ·omega
   ·rw [upd_other _ _ e2, upd_other _ _ e2] at ht
    have := hl t ht
    omega
theorem Adv.app {tok : Nat → Bool} {nt : Nat} {own : Own} (h : own.liveP tok) (hl : ∀ t, tok t = true → t < nt) : Adv tok nt own (upd (own.kill tok) nt true) (nt + 1) (.tok nt) := by
 refine ⟨fun t ht ho => ?_, by omega, by simp [upd_same], .inr ⟨nt, rfl, Nat.le_refl _⟩, fun t ht => ?_⟩
 ·have := hl t ht
  rw [upd_other _ _ (by omega)]
  cases own with
  | full => exact ht
  | tok s => simp only [kill_tok]; rw [upd_other _ _ (fun e => ho (by rw [e]))]; exact ht
 ·by_cases e : t = nt
  ·omega
  ·rw [upd_other _ _ e] at ht
   cases own with
   | full => have := hl t ht; omega
   | tok s =>
    simp only [kill_tok] at ht
    by_cases e2 : t = s
    ·subst e2; rw [upd_same] at ht; cases ht
    ·rw [upd_other _ _ e2] at ht
     have := hl t ht
     omega
theorem upd_upd {α : Type} (f : Nat → α) (k : Nat) (x y : α) : upd (upd f k x) k y = upd f k y := by
 funext j
 simp only [upd]
 split <;> rfl
theorem E.eq_and (x y : E) : (decide (x.ty = y.ty) && (decide (x.fr = y.fr) && decide (x.to = y.to))) = decide (x = y) := by
 cases x; cases y; simp
end Go.AM
namespace Go.AM
open Go Go.Proofs
theorem beqD (x y : Int) : (x == y) = decide (x = y) := by by_cases h : x = y <;> simp [h]
end Go.AM
namespace Go.AM
open Go Go.Proofs
theorem E.eq_and3 (x : E) (p q r : Int) : (decide (x.ty = p) && (decide (x.fr = q) && decide (x.to = r))) = decide (x = ⟨p, q, r⟩) := E.eq_and x ⟨p, q, r⟩
end Go.AM
namespace Go.AM
open Go Go.Proofs
end Go.AM
namespace Go.AM
open Go Go.Proofs
theorem Conv.sub {v v' : AV} {m : AMem} (h : Sub v v') : Conv v m v' m := ⟨rfl, rfl, fun G w u h1 h2 => ⟨G, h1, h _ _ _ h2, Le.refl G w, fun _ h => h⟩⟩
theorem Sub.tup {xs ys : List AV} (h : SubL xs ys) : Sub (.tup xs) (.tup ys) := fun G w v r => by
 cases r with
 | tup hl hh => have := h.rvs ⟨hl, hh⟩; exact .tup this.1 this.2
theorem validG_edges {g : Gr} (h : validG g = 0) : ∀ e ∈ g.edges, 0 ≤ e.fr ∧ e.fr < g.nodes.length ∧ 0 ≤ e.to ∧ e.to < g.nodes.length := by
 intro e he
 unfold validG at h
 split at h
 ·cases h
 ·split at h
  ·cases h
  ·split at h
   ·cases h
   ·rename_i h3
    have := List.any_eq_false.1 (Bool.not_eq_true _ ▸ h3) e he
    simp [fitsB, withinB] at this
    omega
end Go.AM
namespace Go.AM
open Go Go.Proofs
end Go.AM
namespace Go.AM
open Go Go.Proofs
def PartL (l : List Int) : Prop := ∀ i (h : i < l.length), 0 ≤ l[i] ∧ l[i] ≤ i ∧ l.getD l[i].toNat 0 = l[i]
def st105 (l : List Int) (nb : Nat) (box : Bxs) (tok : Tks) (nt : Nat) (i : Nat) : AState := ⟨tl [(0, .d (ints l)), (5, .d (ints l)), (6, I l.length), (7, I i)], lb nb box [], tok, nt⟩
theorem right105_c (l : List Int) (hl : l.length ≤ 1000000) (hp : PartL l) (tok : Tks) (nt : Nat) : DCall Tryz.prog 278 [.d (ints l)] tok nt (B true) tok nt := by
 intro box nb
 refine sB Tryz.func278 Tryz.ntmps278 ?_
 intro hbox htok
 simp only at hbox htok
 apply AL.start
 refine sR ?_
 simp
 refine sR ?_
 simp
 refine sN ?_
 refine AL.loopT (st105 l nb box tok nt) (fun i => i ≤ l.length) (fun i => l.length - i) 0 (Nat.zero_le _) (Weaks.mk (Nat.le_refl _) rfl (by simp [ToL]) trivial) ?_
 rintro i S hi hS
 simp only [st105] at hS
 subst hS
 have hw := sW (i := i) (by omega)
 refine sR ?_
 simp
 refine sC ?_
 simp
 refine ⟨fun hlt => ?_, fun hge => ?_⟩
 ·obtain ⟨h1, h2, h3⟩ := hp i hlt
  have h4 : l[i].toNat < l.length := by omega
  have h5 : l[l[i].toNat] = l[i] := by simpa [h4] using h3
  have k1 : ¬ l[i] < 0 := by omega
  have k2 : ¬ (i : Int) < l[i] := by omega
  refine sR ?_
  simp [hlt]
  refine sR ?_
  simp [k1, k2, h1, h4, h5]
  refine ⟨by omega, ?_⟩
  refine sC ?_
  simp
  refine sR ?_
  simp [hw]
  refine sE ?_
  refine ⟨i + 1, hlt, by omega, Weaks.mk (Nat.le_refl _) rfl (by simp [ToL]) trivial⟩
 ·refine sX ?_
  simp only [AU, ↓reduceIte]
  refine sR ?_
  simp
  refine sT ?_
  try simp only [AU]
  refine ⟨by simp, sF hbox htok (fun _ h => h) (Nat.le_refl _) ?_⟩
  simp [packA]
theorem one98_c (l : List Int) (hl : l.length ≤ 80) (hp : PartL l) (tok : Tks) (nt : Nat) : DCall Tryz.prog 237 [.d (ints l)] tok nt (I 0) tok nt := by
 intro box nb
 refine sB Tryz.func237 Tryz.ntmps237 ?_
 intro hbox htok
 simp only at hbox htok
 apply AL.start
 refine sR ?_
 simp
 refine sR ?_
 simp
 have h80 : ¬ 80 < (l.length : Int) := by omega
 refine sC ?_
 simp [h80]
 refine sR ?_
 simp
 refine Stop.of_d (right105_c l (by omega) hp _ _) ?_
 simp
 refine sC ?_
 simp
 refine sR ?_
 simp
 refine sT ?_
 try simp only [AU]
 refine ⟨by simp, sF hbox htok (fun _ h => h) (Nat.le_refl _) ?_⟩
 simp [packA]
def numN (l : List Int) : Nat → List Int × Int
 | 0 => ([], 0)
 | i + 1 => if l.getD i 0 = i then ((numN l i).1 ++ [(numN l i).2], (numN l i).2 + 1) else ((numN l i).1 ++ [(numN l i).1.getD (l.getD i 0).toNat 0], (numN l i).2)
theorem numN_len (l : List Int) : ∀ i, (numN l i).1.length = i ∧ 0 ≤ (numN l i).2 ∧ (numN l i).2 ≤ i
 | 0 => by simp [numN]
 | i + 1 => by
  have := numN_len l i
  simp only [numN]
  split <;> simp <;> omega
def st86 (l : List Int) (nb : Nat) (box : Bxs) (x : Acc) : AState :=
 ⟨tl [(6, .osl 1 (rI (numN l x.i).1) x.own), (7, I (numN l x.i).2), (15, .d (ints l)), (16, I l.length), (17, I x.i)], lb nb box [], x.tok, x.nt⟩
theorem quotient86_c (l : List Int) (hl : l.length ≤ 80) (hp : PartL l) (tok : Tks) (nt : Nat) : DCall Tryz.prog 175 [.d (ints l)] tok nt (.tup [.d (ints (numN l l.length).1), I (numN l l.length).2, I 0]) tok nt := by
 intro box nb
 refine sB Tryz.func175 Tryz.ntmps175 ?_
 intro hbox htok
 simp only at hbox htok
 apply AL.start
 refine sR ?_
 simp
 refine sR ?_
 simp
 refine Stop.of_d (one98_c l hl hp _ _) ?_
 simp
 refine sR ?_
 simp
 refine sC ?_
 simp
 refine sR ?_
 simp
 refine sR ?_
 simp
 refine sR ?_
 simp
 refine sN ?_
 refine AL.loopT (st86 l nb box) (fun x => x.i ≤ l.length ∧ TK tok nt x.tok x.nt [x.own]) (fun x => l.length - x.i) ⟨0, .full, tok, nt⟩ ⟨Nat.zero_le _, (TK.start htok).full⟩ (Weaks.mk (Nat.le_refl _) rfl (by simp [ToL, numN]) trivial) ?_
 rintro ⟨i, own, tok', nt'⟩ S ⟨hi, htk⟩ hS
 simp only [st86] at hS hi htk
 subst hS
 have hw := sW (i := i) (by omega)
 obtain ⟨hn1, hn2, hn3⟩ := numN_len l i
 refine sR ?_
 simp
 refine sC ?_
 simp
 refine ⟨fun hlt => ?_, fun hge => ?_⟩
 ·obtain ⟨h1, h2, h3⟩ := hp i hlt
  have hwn : IntKind.i64.wrap ((numN l i).2 + 1) = (numN l i).2 + 1 := wrap_in (by omega) (by omega)
  refine sR ?_
  simp [hlt]
  refine sR ?_
  simp
  refine sC ?_
  simp
  refine ⟨fun he => ?_, fun hne => ?_⟩
  ·refine sR ?_
   simp
   refine ⟨⟨by omega, htk.live⟩, ?_⟩
   refine sR ?_
   simp [hwn]
   refine sR ?_
   simp [hw]
   refine sE ?_
   refine ⟨⟨i + 1, _, _, _⟩, ⟨hlt, htk.app⟩, by simp; omega, Weaks.mk htk.app.le rfl (by simp [ToL, numN, hlt, he]) trivial⟩
  ·have h4 : l[i].toNat < (numN l i).1.length := by omega
   have h5 : l[i] < ((numN l i).1.length : Int) := by omega
   refine sR ?_
   simp [h1, h4, h5]
   refine ⟨⟨by omega, htk.live⟩, ?_⟩
   refine sR ?_
   simp [hw]
   refine sE ?_
   refine ⟨⟨i + 1, _, _, _⟩, ⟨hlt, htk.app⟩, by simp; omega, Weaks.mk htk.app.le rfl (by simp [ToL, numN, hlt, hne, h4]) trivial⟩
 ·refine sX ?_
  simp only [AU, ↓reduceIte]
  have : i = l.length := by omega
  subst this
  refine sR ?_
  simp
  refine sT ?_
  try simp only [AU]
  refine ⟨by simp, sF hbox htok htk.old htk.le ?_⟩
  simp [packA, ]
end Go.AM
namespace Go.AM
open Go Go.Proofs
abbrev rL (L : List (List Int)) : List (List D) := L.map fun l => [ints l]
abbrev lists (L : List (List Int)) : D := .sl 1 (rL L)
def nextsK (l : List Int) (k : Nat) : List (List Int) := ((List.range k).filter fun x => decide (x = l.length) || decide (l.getD x 0 = x)).map fun (x : Nat) => l ++ [(x : Int)]
def partsN : Nat → List (List Int)
 | 0 => [[]]
 | n + 1 => (partsN n).flatMap fun l => nextsK l (n + 1)
theorem nextsK_succ (l : List Int) (k : Nat) : nextsK l (k + 1) = nextsK l k ++ (if k = l.length ∨ l.getD k 0 = k then [l ++ [(k : Int)]] else []) := by
 unfold nextsK
 rw [List.range_succ, List.filter_append, List.map_append]
 congr 1
 by_cases h : k = l.length ∨ l.getD k 0 = k <;> simp [h] <;> simp at h <;> simp [h]
theorem partsN_len : ∀ n, ∀ l ∈ partsN n, l.length = n
 | 0 => by simp [partsN]
 | n + 1 => by
  intro l hl
  simp only [partsN, List.mem_flatMap] at hl
  obtain ⟨p, hp, hl⟩ := hl
  have := partsN_len n p hp
  simp only [nextsK, List.mem_map] at hl
  obtain ⟨x, _, rfl⟩ := hl
  simp [this]
theorem partsN_partL : ∀ n, ∀ l ∈ partsN n, PartL l
 | 0 => by intro l hl; simp [partsN] at hl; subst hl; intro i h; simp at h
 | n + 1 => by
  intro l hl
  simp only [partsN, List.mem_flatMap] at hl
  obtain ⟨p, hp, hl⟩ := hl
  have hlen := partsN_len n p hp
  have ih := partsN_partL n p hp
  simp only [nextsK, List.mem_map, List.mem_filter, List.mem_range, Bool.or_eq_true, decide_eq_true_eq] at hl
  obtain ⟨x, ⟨hx, hx2⟩, rfl⟩ := hl
  intro i h
  simp only [List.length_append, List.length_cons, List.length_nil] at h
  by_cases hi : i < p.length
  ·rw [List.getElem_append_left hi]
   obtain ⟨h1, h2, h3⟩ := ih i hi
   refine ⟨h1, h2, ?_⟩
   have : p[i].toNat < p.length := by omega
   rw [List.getD_eq_getElem?_getD, List.getElem?_append_left this, ← List.getD_eq_getElem?_getD]
   exact h3
  ·have hi2 : i = p.length := by omega
   subst hi2
   simp only [List.getElem_concat_length]
   refine ⟨by omega, by omega, ?_⟩
   rcases hx2 with rfl | hx2
   ·simp
   ·by_cases hxl : x < p.length
    ·simp only [Int.toNat_natCast]
     rw [List.getD_eq_getElem?_getD, List.getElem?_append_left hxl, ← List.getD_eq_getElem?_getD]
     exact hx2
    ·have : x = p.length := by omega
     subst this
     simp
theorem nextsK_length (l : List Int) (k : Nat) : (nextsK l k).length ≤ k := by
 unfold nextsK
 simp only [List.length_map]
 exact Nat.le_trans (List.length_filter_le _ _) (by simp)
theorem flatMap_le {α β : Type} (f : α → List β) (k : Nat) (h : ∀ x, (f x).length ≤ k) : ∀ l : List α, (l.flatMap f).length ≤ l.length * k
 | [] => by simp
 | x :: l => by
  have := flatMap_le f k h l
  have := h x
  simp only [List.flatMap_cons, List.length_append, List.length_cons, Nat.succ_mul]
  omega
theorem partsN_few : ∀ n, n ≤ 7 → (partsN n).length ≤ 5040 := by
 have h : ∀ n, (partsN (n + 1)).length ≤ (partsN n).length * (n + 1) := fun n => flatMap_le _ _ (fun l => nextsK_length l _) _
 intro n hn
 have h0 : (partsN 0).length = 1 := rfl
 have h1 : (partsN 1).length ≤ (partsN 0).length * 1 := by simpa using h 0
 have h2 : (partsN 2).length ≤ (partsN 1).length * 2 := by simpa using h 1
 have h3 : (partsN 3).length ≤ (partsN 2).length * 3 := by simpa using h 2
 have h4 : (partsN 4).length ≤ (partsN 3).length * 4 := by simpa using h 3
 have h5 : (partsN 5).length ≤ (partsN 4).length * 5 := by simpa using h 4
 have h6 : (partsN 6).length ≤ (partsN 5).length * 6 := by simpa using h 5
 have h7 : (partsN 7).length ≤ (partsN 6).length * 7 := by simpa using h 6
 have : n = 0 ∨ n = 1 ∨ n = 2 ∨ n = 3 ∨ n = 4 ∨ n = 5 ∨ n = 6 ∨ n = 7 := by omega
 rcases this with rfl | rfl | rfl | rfl | rfl | rfl | rfl | rfl <;> omega
def st45a (n : Nat) (nb : Nat) (box : Bxs) (tok : Tks) (nt : Nat) (i : Nat) : AState :=
 ⟨tl [(4, .d (lists (partsN i))), (15, I n), (16, I i)], lb nb box [], tok, nt⟩
def gone (i j : Nat) : List (List Int) := ((partsN i).take j).flatMap fun l => nextsK l (i + 1)
theorem gone_all (i : Nat) : gone i (partsN i).length = partsN (i + 1) := by simp [gone, partsN]
theorem gone_succ (i j : Nat) (h : j < (partsN i).length) : gone i (j + 1) = gone i j ++ nextsK (partsN i)[j] (i + 1) := by
 simp only [gone]
 rw [List.take_succ_eq_append_getElem h, List.flatMap_append]
 simp
theorem gone_le (i j : Nat) (hi : i ≤ 6) : (gone i j).length ≤ 40000 := by
 have h1 := flatMap_le (fun l => nextsK l (i + 1)) (i + 1) (fun l => nextsK_length l _) ((partsN i).take j)
 have h2 := partsN_few i (by omega)
 have h3 : ((partsN i).take j).length ≤ 5040 := by simp; omega
 have h4 : ((partsN i).take j).length * (i + 1) ≤ 5040 * 7 := Nat.mul_le_mul h3 (by omega)
 unfold gone
 omega
structure AccJ where
 i : Nat
 own : Own
 tok : Nat → Bool
 nt : Nat
def st45b (n : Nat) (nb : Nat) (box : Bxs) (i : Nat) (x : AccJ) : AState :=
 ⟨tl [(5, I i), (6, .osl 1 (rL (gone i x.i)) x.own), (15, I n), (16, I i), (19, .d (lists (partsN i))), (20, I (partsN i).length), (21, I x.i)], lb nb box [], x.tok, x.nt⟩
def st45c (n : Nat) (nb : Nat) (box : Bxs) (i j : Nat) (l : List Int) (x : AccJ) : AState :=
 ⟨tl [(5, I i), (6, .osl 1 (rL (gone i j ++ nextsK l x.i)) x.own), (15, I n), (16, I i), (19, .d (lists (partsN i))), (20, I (partsN i).length), (21, I j), (8, .d (ints l)), (26, I (i + 1)), (27, I x.i)], lb nb box [], x.tok, x.nt⟩
structure AccL where
 i : Nat
 out : List (List Int)
 own : Own
 tok : Nat → Bool
 nt : Nat
theorem all45_c (n : Nat) (hn : n ≤ 7) (tok : Tks) (nt : Nat) : DCall Tryz.prog 174 [I n] tok nt (.tup [.d (lists (partsN n)), I 0]) tok nt := by
 intro box nb
 refine sB Tryz.func174 Tryz.ntmps174 ?_
 intro hbox htok
 simp only at hbox htok
 apply AL.start
 refine sR ?_
 simp
 refine sR ?_
 simp
 have k1 : ¬ 7 < (n : Int) := by omega
 have k2 : ¬ (n : Int) < 0 := by omega
 refine sC ?_
 simp [k1]
 refine sR ?_
 simp
 refine sC ?_
 simp [k2]
 refine sR ?_
 simp
 refine sR ?_
 simp
 refine sN ?_
 refine AL.loopT (fun x : AccL => st45a n nb box x.tok x.nt x.i) (fun x => x.i ≤ n ∧ TK tok nt x.tok x.nt []) (fun x => n - x.i) ⟨0, [], .full, tok, nt⟩ ⟨Nat.zero_le _, TK.start htok⟩ (Weaks.mk (Nat.le_refl _) rfl (by simp [ToL, st45a, partsN]; exact to_emp3 _ _ _) trivial) ?_
 rintro ⟨i, _, _, tok', nt'⟩ S ⟨hi, htk⟩ hS
 simp only [st45a] at hS hi htk
 subst hS
 have hw := sW (i := i) (by omega)
 refine sR ?_
 simp
 refine sC ?_
 simp
 refine ⟨fun hlt => ?_, fun hge => ?_⟩
 ·refine sR ?_
  simp
  refine sR ?_
  simp
  refine sR ?_
  simp
  refine sN ?_
  refine AL.loopT (st45b n nb box i) (fun x => x.i ≤ (partsN i).length ∧ TK tok nt x.tok x.nt [x.own]) (fun x => (partsN i).length - x.i) ⟨0, .full, tok', nt'⟩ ⟨Nat.zero_le _, htk.full⟩ (Weaks.mk htk.le rfl (by simp [ToL, gone]) trivial) ?_
  rintro ⟨j, own, tok2, nt2⟩ S ⟨hj, htk⟩ hS
  simp only [st45b] at hS hj htk
  subst hS
  have hfew := partsN_few i (by omega)
  have hw2 := sW (i := j) (by omega)
  have hwi : IntKind.i64.wrap (↑i + 1) = (i : Int) + 1 := by rw [wrap_in (by omega) (by omega)]
  refine sR ?_
  simp
  refine sC ?_
  simp
  refine ⟨fun hlt2 => ?_, fun hge2 => ?_⟩
  ·have hlen := partsN_len i _ (List.getElem_mem hlt2)
   refine sR ?_
   simp [hlt2]
   refine sR ?_
   simp [hwi]
   refine sN ?_
   have hgle := gone_le i j (by omega)
   generalize hl : (partsN i)[j] = l at *
   refine AL.loopT (st45c n nb box i j l) (fun x => x.i ≤ i + 1 ∧ TK tok nt x.tok x.nt [x.own]) (fun x => i + 1 - x.i) ⟨0, own, tok2, nt2⟩ ⟨Nat.zero_le _, htk⟩ (Weaks.mk htk.le rfl (by simp [ToL, nextsK]) trivial) ?_
   rintro ⟨x, own, tok3, nt3⟩ S ⟨hx, htk⟩ hS
   simp only [st45c] at hS hx htk
   subst hS
   have hw3 := sW (i := x) (by omega)
   have hnl := nextsK_length l x
   refine sR ?_
   simp
   refine sC ?_
   simp
   refine ⟨fun hlt3 => ?_, fun hge3 => ?_⟩
   ·refine sR ?_
    simp
    refine sR ?_
    simp
    by_cases hxi : x = i
    ·subst hxi
     simp
     have hstep : nextsK l (x + 1) = nextsK l x ++ [l ++ [(x : Int)]] := by
      rw [nextsK_succ, if_pos (.inl hlen.symm)]
     have hsn : D.sl 1 (rI l ++ [[D.raw (.int .i64 x)]]) = ints (l ++ [(x : Int)]) := by rw [rI_snoc]
     have htk1 := htk.full.app
     have htk2 := htk1.app
     have htk3 := htk2.tail.app
     refine sC ?_
     simp
     refine sR ?_
     simp
     refine Stop.of_d (clone_c l (by omega) _ _) ?_
     simp
     refine ⟨⟨by omega, by simp [upd_same]⟩, ⟨by omega, htk2.tail.live⟩, ?_⟩
     refine sR ?_
     simp [hw3]
     refine sE ?_
     refine ⟨⟨x + 1, _, _, _⟩, ⟨by simp <;> omega, htk3⟩, by simp <;> omega, Weaks.mk htk3.le rfl (by simp [ToL, hstep, hsn]) trivial⟩
    ·have hxl : x < l.length := by omega
     have hb : ((x : Int) == (i : Int)) = false := by simp; omega
     simp only [hb]
     simp [hxl]
     by_cases hpx : l[x] = (x : Int)
     ·simp [hpx]
      have hstep : nextsK l (x + 1) = nextsK l x ++ [l ++ [(x : Int)]] := by
       rw [nextsK_succ, if_pos (.inr (by simp [hxl, hpx]))]
      have hsn : D.sl 1 (rI l ++ [[D.raw (.int .i64 x)]]) = ints (l ++ [(x : Int)]) := by rw [rI_snoc]
      have htk1 := htk.full.app
      have htk2 := htk1.app
      have htk3 := htk2.tail.app
      refine sC ?_
      simp
      refine sR ?_
      simp
      refine Stop.of_d (clone_c l (by omega) _ _) ?_
      simp
      refine ⟨⟨by omega, by simp [upd_same]⟩, ⟨by omega, htk2.tail.live⟩, ?_⟩
      refine sR ?_
      simp [hw3]
      refine sE ?_
      refine ⟨⟨x + 1, _, _, _⟩, ⟨by simp <;> omega, htk3⟩, by simp <;> omega, Weaks.mk htk3.le rfl (by simp [ToL, hstep, hsn]) trivial⟩
     ·have hb2 : (l[x] == (x : Int)) = false := by simp [hpx]
      simp only [hb2]
      refine sC ?_
      simp
      refine sR ?_
      simp [hw3]
      refine sE ?_
      refine ⟨⟨x + 1, own, tok3, nt3⟩, ⟨by simp; omega, htk⟩, by simp; omega, Weaks.mk htk.le rfl ?_ trivial⟩
      have hstep : nextsK l (x + 1) = nextsK l x := by
       rw [nextsK_succ, if_neg]
       ·simp
       ·simp [hxl, hpx]; omega
      simp [ToL, hstep]
   ·refine sX ?_
    simp only [AU, ↓reduceIte]
    have : x = i + 1 := by omega
    subst this
    refine sR ?_
    simp [hw2]
    refine sE ?_
    refine ⟨⟨j + 1, own, tok3, nt3⟩, ⟨hlt2, htk⟩, by simp; omega, Weaks.mk htk.le rfl (by simp [ToL, gone_succ i j hlt2, hl]) trivial⟩
  ·refine sX ?_
   simp only [AU, ↓reduceIte]
   have : j = (partsN i).length := by omega
   subst this
   refine sR ?_
   simp
   refine sR ?_
   simp [hw]
   refine sE ?_
   refine ⟨⟨i + 1, [], own, tok2, nt2⟩, ⟨hlt, htk.tail⟩, by simp; omega, Weaks.mk htk.le rfl (by simp [ToL, st45a, gone_all]) trivial⟩
 ·refine sX ?_
  simp only [AU, ↓reduceIte]
  have : i = n := by omega
  subst this
  refine sR ?_
  simp
  refine sT ?_
  try simp only [AU]
  refine ⟨by simp, sF hbox htok htk.old htk.le ?_⟩
  simp [packA, ]
end Go.AM
namespace Go.AM
open Go Go.Proofs
end Go.AM
namespace Go.AM
open Go Go.Proofs
end Go.AM
namespace Go.AM
open Go Go.Proofs
end Go.AM
namespace Go.AM
open Go Go.Proofs
end Go.AM
namespace Go.AM
open Go Go.Proofs
theorem numN_range {l : List Int} (hp : PartL l) : ∀ i, i ≤ l.length → ∀ j (h : j < (numN l i).1.length), 0 ≤ (numN l i).1[j] ∧ (numN l i).1[j] < (numN l i).2
 | 0, _ => by intro j h; simp [numN] at h
 | i + 1, hi => by
  intro j h
  have ih := numN_range hp i (by omega)
  have hlen := numN_len l i
  have hil : i < l.length := by omega
  have hg : l.getD i 0 = l[i] := by simp [hil]
  obtain ⟨p1, p2, p3⟩ := hp i hil
  simp only [numN, hg] at h ⊢
  split
  ·rename_i he
   simp only [he, ↓reduceIte] at h
   by_cases hj : j < (numN l i).1.length
   ·rw [List.getElem_append_left hj]
    have := ih j hj
    exact ⟨this.1, by omega⟩
   ·have hj2 : j = (numN l i).1.length := by simp at h; omega
    subst hj2
    rw [List.getElem_concat_length (by simp)]
    exact ⟨hlen.2.1, by omega⟩
  ·rename_i he
   simp only [he, ↓reduceIte] at h
   by_cases hj : j < (numN l i).1.length
   ·rw [List.getElem_append_left hj]
    exact ih j hj
   ·have hj2 : j = (numN l i).1.length := by simp at h; omega
    subst hj2
    rw [List.getElem_concat_length (by simp)]
    have h4 : l[i].toNat < (numN l i).1.length := by omega
    rw [List.getD_eq_getElem?_getD, List.getElem?_eq_getElem h4]
    exact ih _ h4
end Go.AM
namespace Go.AM
open Go
section
variable {α : Type}
end
end Go.AM
namespace Go.AM
open Go Go.Proofs
end Go.AM
namespace Go.AM
open Go Go.Proofs
theorem Sub.agg {xs ys : List AV} (h : SubL xs ys) : Sub (.agg xs) (.agg ys) := fun G w v r => by
 cases r with
 | agg hl hh h1 => have := h.rvs ⟨hl, hh⟩; exact .agg this.1 this.2 h1
end Go.AM
namespace Go.AM
open Go Go.Proofs
end Go.AM
namespace Go.AM
open Go Go.Proofs
def firstE (f : Nat → Int) : Nat → Int
 | 0 => 0
 | n + 1 => if firstE f n = 0 then f n else firstE f n
theorem firstE_stop {f : Nat → Int} {i : Nat} (h0 : firstE f i = 0) (h : f i ≠ 0) : ∀ n, i < n → firstE f n = f i
 | 0, hn => by omega
 | n + 1, hn => by
  simp only [firstE]
  by_cases e : i = n
  ·subst e; rw [if_pos h0]
  ·rw [firstE_stop h0 h n (by omega), if_neg h]
def nodeE (a b : Gr) (m : Mo) (i : Nat) : Int :=
 if m.nodes.getD i 0 < 0 ∨ (b.nodes.length : Int) ≤ m.nodes.getD i 0 then 6 else if b.nodes.getD (m.nodes.getD i 0).toNat 0 = a.nodes.getD i 0 then 0 else 13
def edgeE (a b : Gr) (m : Mo) (i : Nat) : Int :=
 if m.edges.getD i 0 < 0 ∨ (b.edges.length : Int) ≤ m.edges.getD i 0 then 6 else
  let x := a.edges.getD i default
  let y := b.edges.getD (m.edges.getD i 0).toNat default
  if x.ty ≠ y.ty then 13 else if m.nodes.getD x.fr.toNat 0 ≠ y.fr ∨ m.nodes.getD x.to.toNat 0 ≠ y.to then 11 else 0
def validM (a b : Gr) (m : Mo) : Int :=
 if validG a ≠ 0 then validG a else if validG b ≠ 0 then validG b else if m.nodes.length ≠ a.nodes.length ∨ m.edges.length ≠ a.edges.length then 20
 else if firstE (nodeE a b m) a.nodes.length ≠ 0 then firstE (nodeE a b m) a.nodes.length else firstE (edgeE a b m) a.edges.length
def st51a (a b : Gr) (m : Mo) (nb : Nat) (box : Bxs) (tok : Tks) (nt : Nat) (i : Nat) : AState :=
 ⟨tl [(3, .ptr (nb + 3) 0 0), (4, .ptr (nb + 4) 0 0), (5, .ptr (nb + 5) 0 0), (42, .d (ints m.nodes)), (43, I m.nodes.length), (44, I i)],
  lb nb box [(3, [[.d (ints a.nodes), .d (AM.edges a.edges)]]), (4, [[.d (ints b.nodes), .d (AM.edges b.edges)]]), (5, [[.d (ints m.nodes), .d (ints m.edges)]])], tok, nt⟩
def st51b (a b : Gr) (m : Mo) (nb : Nat) (box : Bxs) (tok : Tks) (nt : Nat) (i : Nat) : AState :=
 ⟨tl [(3, .ptr (nb + 3) 0 0), (4, .ptr (nb + 4) 0 0), (5, .ptr (nb + 5) 0 0), (71, .d (ints m.edges)), (72, I m.edges.length), (73, I i)],
  lb nb box [(3, [[.d (ints a.nodes), .d (AM.edges a.edges)]]), (4, [[.d (ints b.nodes), .d (AM.edges b.edges)]]), (5, [[.d (ints m.nodes), .d (ints m.edges)]])], tok, nt⟩
theorem valid51_c (a b : Gr) (m : Mo) (ha : a.Fit) (hb : b.Fit) (tok : Tks) (nt : Nat) : DCall Tryz.prog 124 [a.av, b.av, m.av] tok nt (I (validM a b m)) tok nt := by
 intro box nb
 have han := ha.n
 have hae := ha.e
 have hbn := hb.n
 have hbe := hb.e
 refine sB Tryz.func124 Tryz.ntmps124 ?_
 intro hbox htok
 simp only at hbox htok
 apply AL.start
 refine sR ?_
 simp
 refine sR ?_
 simp
 refine Stop.of_d (graphValid_c a ha _ _) ?_
 simp
 by_cases hva : validG a = 0
 ·refine sR ?_
  simp [hva]
  refine sC ?_
  simp
  refine sR ?_
  simp
  refine Stop.of_d (graphValid_c b hb _ _) ?_
  simp
  by_cases hvb : validG b = 0
  ·refine sR ?_
   simp [hvb]
   refine sC ?_
   simp
   have hxa := validG_edges hva
   have hxb := validG_edges hvb
   refine sR ?_
   simp
   by_cases hl1 : m.nodes.length = a.nodes.length
   ·simp [hl1]
    refine sC ?_
    simp
    refine ⟨fun hl2 => ?_, fun hl2 => ?_⟩
    ·refine sR ?_
     simp
     have hR : validM a b m = 20 := by
      have : ¬ m.edges.length = a.edges.length := by omega
      simp [validM, hva, hvb, this]
     refine sT ?_
     try simp only [AU]
     refine ⟨by simp, sF hbox htok (fun _ h => h) (Nat.le_refl _) ?_⟩
     simp [packA, hR]
    ·refine sR ?_
     simp
     refine sN ?_
     have hl2' : m.edges.length = a.edges.length := by omega
     have hRn : ∀ i, i < a.nodes.length → firstE (nodeE a b m) i = 0 → nodeE a b m i ≠ 0 → validM a b m = nodeE a b m i := fun i hi h0 hne => by
      have := firstE_stop h0 hne a.nodes.length hi
      simp [validM, hva, hvb, hl1, hl2', this, hne]
     refine AL.loopT (st51a a b m nb box tok nt) (fun i => i ≤ m.nodes.length ∧ firstE (nodeE a b m) i = 0) (fun i => m.nodes.length - i) 0 ⟨Nat.zero_le _, rfl⟩ (Weaks.mk (Nat.le_refl _) rfl (by simp [ToL, lk]) (by simp [BoxL, lk])) ?_
     rintro i S ⟨hi, hok⟩ hS
     simp only [st51a] at hS
     subst hS
     have hw := sW (i := i) (by omega)
     refine sR ?_
     simp
     refine sC ?_
     simp
     refine ⟨fun hlt => ?_, fun hge => ?_⟩
     ·have hia : i < a.nodes.length := by omega
      have hgm : m.nodes.getD i 0 = m.nodes[i] := by simp [hlt]
      have hga : a.nodes.getD i 0 = a.nodes[i] := by simp [hia]
      refine sR ?_
      simp [hlt]
      by_cases hneg : m.nodes[i] < 0
      ·refine sR ?_
       simp [hneg]
       refine sC ?_
       simp
       refine sR ?_
       simp
       have hN : nodeE a b m i = 6 := by simp only [nodeE, hgm]; rw [if_pos (.inl hneg)]
       have hR := hRn i hia hok (by rw [hN]; decide)
       refine sT ?_
       try simp only [AU]
       refine ⟨by simp, sF hbox htok (fun _ h => h) (Nat.le_refl _) ?_⟩
       simp [packA, hR, hN]
      ·refine sR ?_
       simp [hneg]
       refine sC ?_
       simp
       refine ⟨fun hbig => ?_, fun hsm => ?_⟩
       ·refine sR ?_
        simp
        have hN : nodeE a b m i = 6 := by simp only [nodeE, hgm]; rw [if_pos (.inr (by omega))]
        have hR := hRn i hia hok (by rw [hN]; decide)
        refine sT ?_
        try simp only [AU]
        refine ⟨by simp, sF hbox htok (fun _ h => h) (Nat.le_refl _) ?_⟩
        simp [packA, hR, hN]
       ·have hkb : m.nodes[i].toNat < b.nodes.length := by omega
        have h0 : 0 ≤ m.nodes[i] := by omega
        have hgb : b.nodes.getD m.nodes[i].toNat 0 = b.nodes[m.nodes[i].toNat] := by simp [hkb]
        have hnb : ¬ (b.nodes.length : Int) ≤ m.nodes[i] := by omega
        refine sR ?_
        simp [hkb, h0, hsm, hia]
        refine sC ?_
        simp
        refine ⟨fun hne => ?_, fun heq => ?_⟩
        ·refine sR ?_
         simp
         have hN : nodeE a b m i = 13 := by simp only [nodeE, hgm, hga, hgb]; rw [if_neg (by omega), if_neg hne]
         have hR := hRn i hia hok (by rw [hN]; decide)
         refine sT ?_
         try simp only [AU]
         refine ⟨by simp, sF hbox htok (fun _ h => h) (Nat.le_refl _) ?_⟩
         simp [packA, hR, hN]
        ·refine sR ?_
         simp [hw]
         refine sE ?_
         refine ⟨i + 1, ⟨hlt, ?_⟩, by omega, Weaks.mk (Nat.le_refl _) rfl (by simp [ToL, lk]) (by simp [BoxL, lk])⟩
         have hN : nodeE a b m i = 0 := by simp only [nodeE, hgm, hga, hgb]; rw [if_neg (by omega), if_pos heq]
         simp only [firstE, hok, hN, ↓reduceIte]
     ·refine sX ?_
      simp only [AU, ↓reduceIte]
      have hin : i = a.nodes.length := by omega
      subst hin
      refine sR ?_
      simp
      refine sN ?_
      have hRe : ∀ i, i < a.edges.length → firstE (edgeE a b m) i = 0 → edgeE a b m i ≠ 0 → validM a b m = edgeE a b m i := fun i hi h0 hne => by
       have := firstE_stop h0 hne a.edges.length hi
       simp [validM, hva, hvb, hl1, hl2', hok, this]
      refine AL.loopT (st51b a b m nb box tok nt) (fun i => i ≤ m.edges.length ∧ firstE (edgeE a b m) i = 0) (fun i => m.edges.length - i) 0 ⟨Nat.zero_le _, rfl⟩ (Weaks.mk (Nat.le_refl _) rfl (by simp [ToL, lk]) (by simp [BoxL, lk])) ?_
      rintro i S ⟨hi, hoke⟩ hS
      simp only [st51b] at hS
      subst hS
      have hw := sW (i := i) (by omega)
      refine sR ?_
      simp
      refine sC ?_
      simp
      refine ⟨fun hlt => ?_, fun hge => ?_⟩
      ·have hia : i < a.edges.length := by omega
       have hgm : m.edges.getD i 0 = m.edges[i] := by simp [hlt]
       have hga : a.edges.getD i default = a.edges[i] := by simp [hia]
       obtain ⟨x1, x2, x3, x4⟩ := hxa _ (List.getElem_mem hia)
       rw [← hl1] at x2 x4
       have y1 : a.edges[i].fr.toNat < m.nodes.length := by omega
       have y2 : a.edges[i].to.toNat < m.nodes.length := by omega
       have hg1 : m.nodes.getD a.edges[i].fr.toNat 0 = m.nodes[a.edges[i].fr.toNat] := by simp [y1]
       have hg2 : m.nodes.getD a.edges[i].to.toNat 0 = m.nodes[a.edges[i].to.toNat] := by simp [y2]
       refine sR ?_
       simp [hlt]
       by_cases hneg : m.edges[i] < 0
       ·refine sR ?_
        simp [hneg]
        refine sC ?_
        simp
        refine sR ?_
        simp
        have hN : edgeE a b m i = 6 := by simp only [edgeE, hgm]; rw [if_pos (.inl hneg)]
        have hR := hRe i hia hoke (by rw [hN]; decide)
        refine sT ?_
        try simp only [AU]
        refine ⟨by simp, sF hbox htok (fun _ h => h) (Nat.le_refl _) ?_⟩
        simp [packA, hR, hN]
       ·refine sR ?_
        simp [hneg]
        refine sC ?_
        simp
        refine ⟨fun hbig => ?_, fun hsm => ?_⟩
        ·refine sR ?_
         simp
         have hN : edgeE a b m i = 6 := by simp only [edgeE, hgm]; rw [if_pos (.inr (by omega))]
         have hR := hRe i hia hoke (by rw [hN]; decide)
         refine sT ?_
         try simp only [AU]
         refine ⟨by simp, sF hbox htok (fun _ h => h) (Nat.le_refl _) ?_⟩
         simp [packA, hR, hN]
        ·have hkb : m.edges[i].toNat < b.edges.length := by omega
         have h0 : 0 ≤ m.edges[i] := by omega
         have hgb : b.edges.getD m.edges[i].toNat default = b.edges[m.edges[i].toNat] := by simp [hkb]
         have hnn : ¬ (m.edges[i] < 0 ∨ (b.edges.length : Int) ≤ m.edges[i]) := by omega
         refine sN ?_
         refine AL.region2 follows_Tryz (Nat.le_refl _) (by kernel_rfl) (Side.of (by simp)) ?_
         simp [hkb, h0, hsm, hia]
         generalize hy : b.edges[m.edges[i].toNat] = y at *
         refine sR ?_
         simp
         refine sC ?_
         simp
         refine ⟨fun hty => ?_, fun hty => ?_⟩
         ·refine sR ?_
          simp
          have hN : edgeE a b m i = 13 := by simp only [edgeE, hgm, hga, hgb]; rw [if_neg hnn, if_pos hty]
          have hR := hRe i hia hoke (by rw [hN]; decide)
          refine sT ?_
          try simp only [AU]
          refine ⟨by simp, sF hbox htok (fun _ h => h) (Nat.le_refl _) ?_⟩
          simp [packA, hR, hN]
         ·refine sR ?_
          simp [x1, x2, x3, x4, y1, y2]
          by_cases hfr : m.nodes[a.edges[i].fr.toNat] = y.fr
          ·have hb1 : (m.nodes[a.edges[i].fr.toNat] != y.fr) = false := by simp [hfr]
           simp only [hb1]
           simp [x1, x2, x3, x4, y1, y2]
           refine sC ?_
           simp
           refine ⟨fun hto => ?_, fun hto => ?_⟩
           ·refine sR ?_
            simp
            have hN : edgeE a b m i = 11 := by simp only [edgeE, hgm, hga, hgb, hg1, hg2]; rw [if_neg hnn, if_neg (by simp [hty]), if_pos (.inr hto)]
            have hR := hRe i hia hoke (by rw [hN]; decide)
            refine sT ?_
            try simp only [AU]
            refine ⟨by simp, sF hbox htok (fun _ h => h) (Nat.le_refl _) ?_⟩
            simp [packA, hR, hN]
           ·refine sR ?_
            simp [hw]
            refine sE ?_
            refine ⟨i + 1, ⟨hlt, ?_⟩, by omega, Weaks.mk (Nat.le_refl _) rfl (by simp [ToL, lk]) (by simp [BoxL, lk])⟩
            have hN : edgeE a b m i = 0 := by simp only [edgeE, hgm, hga, hgb, hg1, hg2]; rw [if_neg hnn, if_neg (by simp [hty]), if_neg (by simp [hfr, hto])]
            simp only [firstE, hoke, hN, ↓reduceIte]
          ·have hb1 : (m.nodes[a.edges[i].fr.toNat] != y.fr) = true := by simp [hfr]
           simp only [hb1]
           simp
           refine sC ?_
           simp
           refine sR ?_
           simp
           have hN : edgeE a b m i = 11 := by simp only [edgeE, hgm, hga, hgb, hg1, hg2]; rw [if_neg hnn, if_neg (by simp [hty]), if_pos (.inl hfr)]
           have hR := hRe i hia hoke (by rw [hN]; decide)
           refine sT ?_
           try simp only [AU]
           refine ⟨by simp, sF hbox htok (fun _ h => h) (Nat.le_refl _) ?_⟩
           simp [packA, hR, hN]
      ·refine sX ?_
       simp only [AU, ↓reduceIte]
       have hin : i = a.edges.length := by omega
       subst hin
       refine sR ?_
       simp
       have hR : validM a b m = 0 := by simp [validM, hva, hvb, hl1, hl2', hok, hoke]
       refine sT ?_
       try simp only [AU]
       refine ⟨by simp, sF hbox htok (fun _ h => h) (Nat.le_refl _) ?_⟩
       simp [packA, hR]
   ·have hb1 : ((m.nodes.length : Int) != (a.nodes.length : Int)) = true := by simp; omega
    simp only [hb1]
    simp
    refine sC ?_
    simp
    refine sR ?_
    simp
    have hR : validM a b m = 20 := by simp [validM, hva, hvb, hl1]
    refine sT ?_
    try simp only [AU]
    refine ⟨by simp, sF hbox htok (fun _ h => h) (Nat.le_refl _) ?_⟩
    simp [packA, hR]
  ·refine sR ?_
   simp
   refine sC ?_
   simp [hvb]
   refine sR ?_
   simp
   refine sT ?_
   try simp only [AU]
   refine ⟨by simp, sF hbox htok (fun _ h => h) (Nat.le_refl _) ?_⟩
   simp [packA, validM, hva, hvb]
 ·refine sR ?_
  simp
  refine sC ?_
  simp [hva]
  refine sR ?_
  simp
  refine sT ?_
  try simp only [AU]
  refine ⟨by simp, sF hbox htok (fun _ h => h) (Nat.le_refl _) ?_⟩
  simp [packA, validM, hva]
end Go.AM
