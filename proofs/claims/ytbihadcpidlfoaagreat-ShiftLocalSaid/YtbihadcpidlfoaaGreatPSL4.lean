import Derived.Test.YtbihadcpidlfoaaGreatPSL3
import Derived.Test.YtbihadcpidlfoaaGreatRows
/-
  The types of this seat's program, as the abstract machine asks for them. Written by a program (wip/am/gentab.py).
-/
namespace Go.AM
open Go Go.Proofs
theorem follows_Tryz : Tryz.prog.follows .mixedOrders = true := by kernel_rfl
@[simp] theorem szOf_1 : szOf Tryz.prog 1 = some 1 := by kernel_rfl
@[simp] theorem aggT_1 : aggT Tryz.prog 1 = some false := by kernel_rfl
@[simp] theorem strT_1 : strT Tryz.prog 1 = false := by kernel_rfl
@[simp] theorem boolT_1 : boolT Tryz.prog 1 = false := by kernel_rfl
@[simp] theorem elemT_1 : elemT Tryz.prog 1 = none := by kernel_rfl
@[simp] theorem rowT_1 : rowT Tryz.prog 1 = none := by kernel_rfl
@[simp] theorem zeroT_1 : zeroT Tryz.prog 1 = some [.nilFunc] := by kernel_rfl
@[simp] theorem szOf_2 : szOf Tryz.prog 2 = some 1 := by kernel_rfl
@[simp] theorem aggT_2 : aggT Tryz.prog 2 = some false := by kernel_rfl
@[simp] theorem strT_2 : strT Tryz.prog 2 = false := by kernel_rfl
@[simp] theorem boolT_2 : boolT Tryz.prog 2 = false := by kernel_rfl
@[simp] theorem elemT_2 : elemT Tryz.prog 2 = none := by kernel_rfl
@[simp] theorem rowT_2 : rowT Tryz.prog 2 = none := by kernel_rfl
@[simp] theorem kindT_2 : kindT Tryz.prog 2 = some .i64 := by kernel_rfl
@[simp] theorem zeroT_2 : zeroT Tryz.prog 2 = some [.int .i64 0] := by kernel_rfl
@[simp] theorem szOf_3 : szOf Tryz.prog 3 = some 1 := by kernel_rfl
@[simp] theorem aggT_3 : aggT Tryz.prog 3 = some false := by kernel_rfl
@[simp] theorem strT_3 : strT Tryz.prog 3 = false := by kernel_rfl
@[simp] theorem boolT_3 : boolT Tryz.prog 3 = false := by kernel_rfl
@[simp] theorem elemT_3 : elemT Tryz.prog 3 = none := by kernel_rfl
@[simp] theorem rowT_3 : rowT Tryz.prog 3 = none := by kernel_rfl
@[simp] theorem kindT_3 : kindT Tryz.prog 3 = some .i64 := by kernel_rfl
@[simp] theorem zeroT_3 : zeroT Tryz.prog 3 = some [.int .i64 0] := by kernel_rfl
@[simp] theorem szOf_4 : szOf Tryz.prog 4 = some 1 := by kernel_rfl
@[simp] theorem aggT_4 : aggT Tryz.prog 4 = some false := by kernel_rfl
@[simp] theorem strT_4 : strT Tryz.prog 4 = false := by kernel_rfl
@[simp] theorem boolT_4 : boolT Tryz.prog 4 = true := by kernel_rfl
@[simp] theorem elemT_4 : elemT Tryz.prog 4 = none := by kernel_rfl
@[simp] theorem rowT_4 : rowT Tryz.prog 4 = none := by kernel_rfl
@[simp] theorem zeroT_4 : zeroT Tryz.prog 4 = some [.bool false] := by kernel_rfl
@[simp] theorem szOf_5 : szOf Tryz.prog 5 = some 1 := by kernel_rfl
@[simp] theorem aggT_5 : aggT Tryz.prog 5 = some false := by kernel_rfl
@[simp] theorem strT_5 : strT Tryz.prog 5 = false := by kernel_rfl
@[simp] theorem boolT_5 : boolT Tryz.prog 5 = false := by kernel_rfl
@[simp] theorem elemT_5 : elemT Tryz.prog 5 = none := by kernel_rfl
@[simp] theorem rowT_5 : rowT Tryz.prog 5 = none := by kernel_rfl
@[simp] theorem kindT_5 : kindT Tryz.prog 5 = some .u8 := by kernel_rfl
@[simp] theorem zeroT_5 : zeroT Tryz.prog 5 = some [.int .u8 0] := by kernel_rfl
@[simp] theorem szOf_6 : szOf Tryz.prog 6 = some 1 := by kernel_rfl
@[simp] theorem aggT_6 : aggT Tryz.prog 6 = some false := by kernel_rfl
@[simp] theorem strT_6 : strT Tryz.prog 6 = false := by kernel_rfl
@[simp] theorem boolT_6 : boolT Tryz.prog 6 = false := by kernel_rfl
@[simp] theorem elemT_6 : elemT Tryz.prog 6 = none := by kernel_rfl
@[simp] theorem rowT_6 : rowT Tryz.prog 6 = none := by kernel_rfl
@[simp] theorem kindT_6 : kindT Tryz.prog 6 = some .u8 := by kernel_rfl
@[simp] theorem zeroT_6 : zeroT Tryz.prog 6 = some [.int .u8 0] := by kernel_rfl
@[simp] theorem szOf_7 : szOf Tryz.prog 7 = some 4 := by kernel_rfl
@[simp] theorem aggT_7 : aggT Tryz.prog 7 = some true := by kernel_rfl
@[simp] theorem strT_7 : strT Tryz.prog 7 = false := by kernel_rfl
@[simp] theorem boolT_7 : boolT Tryz.prog 7 = false := by kernel_rfl
@[simp] theorem elemT_7 : elemT Tryz.prog 7 = none := by kernel_rfl
@[simp] theorem rowT_7 : rowT Tryz.prog 7 = none := by kernel_rfl
@[simp] theorem structT_7 : structT Tryz.prog 7 = some [(0, 1), (1, 1), (2, 1), (3, 1)] := by kernel_rfl
@[simp] theorem fieldT_7_0 : fieldT Tryz.prog 7 0 = some (2, 0) := by kernel_rfl
@[simp] theorem fieldT_7_1 : fieldT Tryz.prog 7 1 = some (3, 1) := by kernel_rfl
@[simp] theorem fieldT_7_2 : fieldT Tryz.prog 7 2 = some (4, 2) := by kernel_rfl
@[simp] theorem fieldT_7_3 : fieldT Tryz.prog 7 3 = some (6, 3) := by kernel_rfl
@[simp] theorem zeroT_7 : zeroT Tryz.prog 7 = some [.int .i64 0, .int .i64 0, .bool false, .int .u8 0] := by kernel_rfl
@[simp] theorem szOf_8 : szOf Tryz.prog 8 = some 4 := by kernel_rfl
@[simp] theorem aggT_8 : aggT Tryz.prog 8 = some true := by kernel_rfl
@[simp] theorem strT_8 : strT Tryz.prog 8 = false := by kernel_rfl
@[simp] theorem boolT_8 : boolT Tryz.prog 8 = false := by kernel_rfl
@[simp] theorem elemT_8 : elemT Tryz.prog 8 = none := by kernel_rfl
@[simp] theorem rowT_8 : rowT Tryz.prog 8 = none := by kernel_rfl
@[simp] theorem structT_8 : structT Tryz.prog 8 = some [(0, 1), (1, 1), (2, 1), (3, 1)] := by kernel_rfl
@[simp] theorem fieldT_8_0 : fieldT Tryz.prog 8 0 = some (2, 0) := by kernel_rfl
@[simp] theorem fieldT_8_1 : fieldT Tryz.prog 8 1 = some (3, 1) := by kernel_rfl
@[simp] theorem fieldT_8_2 : fieldT Tryz.prog 8 2 = some (4, 2) := by kernel_rfl
@[simp] theorem fieldT_8_3 : fieldT Tryz.prog 8 3 = some (6, 3) := by kernel_rfl
@[simp] theorem zeroT_8 : zeroT Tryz.prog 8 = some [.int .i64 0, .int .i64 0, .bool false, .int .u8 0] := by kernel_rfl
@[simp] theorem szOf_9 : szOf Tryz.prog 9 = some 1 := by kernel_rfl
@[simp] theorem aggT_9 : aggT Tryz.prog 9 = some false := by kernel_rfl
@[simp] theorem strT_9 : strT Tryz.prog 9 = true := by kernel_rfl
@[simp] theorem boolT_9 : boolT Tryz.prog 9 = false := by kernel_rfl
@[simp] theorem elemT_9 : elemT Tryz.prog 9 = none := by kernel_rfl
@[simp] theorem rowT_9 : rowT Tryz.prog 9 = none := by kernel_rfl
@[simp] theorem zeroT_9 : zeroT Tryz.prog 9 = some [.string ⟨#[]⟩] := by kernel_rfl
@[simp] theorem szOf_10 : szOf Tryz.prog 10 = some 1 := by kernel_rfl
@[simp] theorem aggT_10 : aggT Tryz.prog 10 = some false := by kernel_rfl
@[simp] theorem strT_10 : strT Tryz.prog 10 = true := by kernel_rfl
@[simp] theorem boolT_10 : boolT Tryz.prog 10 = false := by kernel_rfl
@[simp] theorem elemT_10 : elemT Tryz.prog 10 = none := by kernel_rfl
@[simp] theorem rowT_10 : rowT Tryz.prog 10 = none := by kernel_rfl
@[simp] theorem zeroT_10 : zeroT Tryz.prog 10 = some [.string ⟨#[]⟩] := by kernel_rfl
@[simp] theorem szOf_11 : szOf Tryz.prog 11 = some 1 := by kernel_rfl
@[simp] theorem aggT_11 : aggT Tryz.prog 11 = some false := by kernel_rfl
@[simp] theorem strT_11 : strT Tryz.prog 11 = true := by kernel_rfl
@[simp] theorem boolT_11 : boolT Tryz.prog 11 = false := by kernel_rfl
@[simp] theorem elemT_11 : elemT Tryz.prog 11 = none := by kernel_rfl
@[simp] theorem rowT_11 : rowT Tryz.prog 11 = none := by kernel_rfl
@[simp] theorem zeroT_11 : zeroT Tryz.prog 11 = some [.string ⟨#[]⟩] := by kernel_rfl
@[simp] theorem szOf_12 : szOf Tryz.prog 12 = some 1 := by kernel_rfl
@[simp] theorem aggT_12 : aggT Tryz.prog 12 = some false := by kernel_rfl
@[simp] theorem strT_12 : strT Tryz.prog 12 = false := by kernel_rfl
@[simp] theorem boolT_12 : boolT Tryz.prog 12 = false := by kernel_rfl
@[simp] theorem elemT_12 : elemT Tryz.prog 12 = none := by kernel_rfl
@[simp] theorem rowT_12 : rowT Tryz.prog 12 = none := by kernel_rfl
@[simp] theorem kindT_12 : kindT Tryz.prog 12 = some .u64 := by kernel_rfl
@[simp] theorem zeroT_12 : zeroT Tryz.prog 12 = some [.int .u64 0] := by kernel_rfl
@[simp] theorem szOf_13 : szOf Tryz.prog 13 = some 2 := by kernel_rfl
@[simp] theorem aggT_13 : aggT Tryz.prog 13 = some true := by kernel_rfl
@[simp] theorem strT_13 : strT Tryz.prog 13 = false := by kernel_rfl
@[simp] theorem boolT_13 : boolT Tryz.prog 13 = false := by kernel_rfl
@[simp] theorem elemT_13 : elemT Tryz.prog 13 = none := by kernel_rfl
@[simp] theorem rowT_13 : rowT Tryz.prog 13 = none := by kernel_rfl
@[simp] theorem structT_13 : structT Tryz.prog 13 = some [(0, 1), (1, 1)] := by kernel_rfl
@[simp] theorem fieldT_13_0 : fieldT Tryz.prog 13 0 = some (9, 0) := by kernel_rfl
@[simp] theorem fieldT_13_1 : fieldT Tryz.prog 13 1 = some (12, 1) := by kernel_rfl
@[simp] theorem zeroT_13 : zeroT Tryz.prog 13 = some [.string ⟨#[]⟩, .int .u64 0] := by kernel_rfl
@[simp] theorem szOf_14 : szOf Tryz.prog 14 = some 2 := by kernel_rfl
@[simp] theorem aggT_14 : aggT Tryz.prog 14 = some true := by kernel_rfl
@[simp] theorem strT_14 : strT Tryz.prog 14 = false := by kernel_rfl
@[simp] theorem boolT_14 : boolT Tryz.prog 14 = false := by kernel_rfl
@[simp] theorem elemT_14 : elemT Tryz.prog 14 = none := by kernel_rfl
@[simp] theorem rowT_14 : rowT Tryz.prog 14 = none := by kernel_rfl
@[simp] theorem structT_14 : structT Tryz.prog 14 = some [(0, 1), (1, 1)] := by kernel_rfl
@[simp] theorem fieldT_14_0 : fieldT Tryz.prog 14 0 = some (9, 0) := by kernel_rfl
@[simp] theorem fieldT_14_1 : fieldT Tryz.prog 14 1 = some (12, 1) := by kernel_rfl
@[simp] theorem zeroT_14 : zeroT Tryz.prog 14 = some [.string ⟨#[]⟩, .int .u64 0] := by kernel_rfl
@[simp] theorem szOf_15 : szOf Tryz.prog 15 = some 1 := by kernel_rfl
@[simp] theorem aggT_15 : aggT Tryz.prog 15 = some false := by kernel_rfl
@[simp] theorem strT_15 : strT Tryz.prog 15 = false := by kernel_rfl
@[simp] theorem boolT_15 : boolT Tryz.prog 15 = false := by kernel_rfl
@[simp] theorem elemT_15 : elemT Tryz.prog 15 = none := by kernel_rfl
@[simp] theorem rowT_15 : rowT Tryz.prog 15 = none := by kernel_rfl
@[simp] theorem zeroT_15 : zeroT Tryz.prog 15 = some [.pointer none] := by kernel_rfl
@[simp] theorem szOf_16 : szOf Tryz.prog 16 = some 1 := by kernel_rfl
@[simp] theorem aggT_16 : aggT Tryz.prog 16 = some false := by kernel_rfl
@[simp] theorem strT_16 : strT Tryz.prog 16 = false := by kernel_rfl
@[simp] theorem boolT_16 : boolT Tryz.prog 16 = false := by kernel_rfl
@[simp] theorem elemT_16 : elemT Tryz.prog 16 = none := by kernel_rfl
@[simp] theorem rowT_16 : rowT Tryz.prog 16 = none := by kernel_rfl
@[simp] theorem zeroT_16 : zeroT Tryz.prog 16 = some [.pointer none] := by kernel_rfl
@[simp] theorem szOf_17 : szOf Tryz.prog 17 = some 1 := by kernel_rfl
@[simp] theorem aggT_17 : aggT Tryz.prog 17 = some false := by kernel_rfl
@[simp] theorem strT_17 : strT Tryz.prog 17 = false := by kernel_rfl
@[simp] theorem boolT_17 : boolT Tryz.prog 17 = false := by kernel_rfl
@[simp] theorem elemT_17 : elemT Tryz.prog 17 = none := by kernel_rfl
@[simp] theorem rowT_17 : rowT Tryz.prog 17 = none := by kernel_rfl
@[simp] theorem zeroT_17 : zeroT Tryz.prog 17 = some [.pointer none] := by kernel_rfl
@[simp] theorem szOf_18 : szOf Tryz.prog 18 = some 1 := by kernel_rfl
@[simp] theorem aggT_18 : aggT Tryz.prog 18 = some true := by kernel_rfl
@[simp] theorem strT_18 : strT Tryz.prog 18 = false := by kernel_rfl
@[simp] theorem boolT_18 : boolT Tryz.prog 18 = false := by kernel_rfl
@[simp] theorem elemT_18 : elemT Tryz.prog 18 = none := by kernel_rfl
@[simp] theorem rowT_18 : rowT Tryz.prog 18 = none := by kernel_rfl
@[simp] theorem structT_18 : structT Tryz.prog 18 = some [(0, 1)] := by kernel_rfl
@[simp] theorem fieldT_18_0 : fieldT Tryz.prog 18 0 = some (17, 0) := by kernel_rfl
@[simp] theorem zeroT_18 : zeroT Tryz.prog 18 = some [.pointer none] := by kernel_rfl
@[simp] theorem szOf_19 : szOf Tryz.prog 19 = some 1 := by kernel_rfl
@[simp] theorem aggT_19 : aggT Tryz.prog 19 = some true := by kernel_rfl
@[simp] theorem strT_19 : strT Tryz.prog 19 = false := by kernel_rfl
@[simp] theorem boolT_19 : boolT Tryz.prog 19 = false := by kernel_rfl
@[simp] theorem elemT_19 : elemT Tryz.prog 19 = none := by kernel_rfl
@[simp] theorem rowT_19 : rowT Tryz.prog 19 = none := by kernel_rfl
@[simp] theorem structT_19 : structT Tryz.prog 19 = some [(0, 1)] := by kernel_rfl
@[simp] theorem fieldT_19_0 : fieldT Tryz.prog 19 0 = some (17, 0) := by kernel_rfl
@[simp] theorem zeroT_19 : zeroT Tryz.prog 19 = some [.pointer none] := by kernel_rfl
@[simp] theorem szOf_20 : szOf Tryz.prog 20 = some 1 := by kernel_rfl
@[simp] theorem aggT_20 : aggT Tryz.prog 20 = some false := by kernel_rfl
@[simp] theorem strT_20 : strT Tryz.prog 20 = false := by kernel_rfl
@[simp] theorem boolT_20 : boolT Tryz.prog 20 = false := by kernel_rfl
@[simp] theorem elemT_20 : elemT Tryz.prog 20 = none := by kernel_rfl
@[simp] theorem rowT_20 : rowT Tryz.prog 20 = none := by kernel_rfl
@[simp] theorem zeroT_20 : zeroT Tryz.prog 20 = some [.nilIface] := by kernel_rfl
@[simp] theorem szOf_21 : szOf Tryz.prog 21 = some 1 := by kernel_rfl
@[simp] theorem aggT_21 : aggT Tryz.prog 21 = some false := by kernel_rfl
@[simp] theorem strT_21 : strT Tryz.prog 21 = false := by kernel_rfl
@[simp] theorem boolT_21 : boolT Tryz.prog 21 = false := by kernel_rfl
@[simp] theorem elemT_21 : elemT Tryz.prog 21 = none := by kernel_rfl
@[simp] theorem rowT_21 : rowT Tryz.prog 21 = none := by kernel_rfl
@[simp] theorem kindT_21 : kindT Tryz.prog 21 = some .i32 := by kernel_rfl
@[simp] theorem zeroT_21 : zeroT Tryz.prog 21 = some [.int .i32 0] := by kernel_rfl
@[simp] theorem szOf_22 : szOf Tryz.prog 22 = some 1 := by kernel_rfl
@[simp] theorem aggT_22 : aggT Tryz.prog 22 = some false := by kernel_rfl
@[simp] theorem strT_22 : strT Tryz.prog 22 = false := by kernel_rfl
@[simp] theorem boolT_22 : boolT Tryz.prog 22 = false := by kernel_rfl
@[simp] theorem elemT_22 : elemT Tryz.prog 22 = some 3 := by kernel_rfl
@[simp] theorem rowT_22 : rowT Tryz.prog 22 = some (3, 1, 8) := by kernel_rfl
@[simp] theorem makeT_22 : makeT Tryz.prog 22 = some (1, 8, [.int .i64 0]) := by kernel_rfl
@[simp] theorem zeroT_22 : zeroT Tryz.prog 22 = some [.slice none 0 0] := by kernel_rfl
@[simp] theorem szOf_23 : szOf Tryz.prog 23 = some 1 := by kernel_rfl
@[simp] theorem aggT_23 : aggT Tryz.prog 23 = some false := by kernel_rfl
@[simp] theorem strT_23 : strT Tryz.prog 23 = false := by kernel_rfl
@[simp] theorem boolT_23 : boolT Tryz.prog 23 = false := by kernel_rfl
@[simp] theorem elemT_23 : elemT Tryz.prog 23 = some 62 := by kernel_rfl
@[simp] theorem rowT_23 : rowT Tryz.prog 23 = some (62, 3, 24) := by kernel_rfl
@[simp] theorem makeT_23 : makeT Tryz.prog 23 = some (3, 24, [.int .i64 0, .int .i64 0, .int .i64 0]) := by kernel_rfl
@[simp] theorem zeroT_23 : zeroT Tryz.prog 23 = some [.slice none 0 0] := by kernel_rfl
@[simp] theorem szOf_24 : szOf Tryz.prog 24 = some 2 := by kernel_rfl
@[simp] theorem aggT_24 : aggT Tryz.prog 24 = some true := by kernel_rfl
@[simp] theorem strT_24 : strT Tryz.prog 24 = false := by kernel_rfl
@[simp] theorem boolT_24 : boolT Tryz.prog 24 = false := by kernel_rfl
@[simp] theorem elemT_24 : elemT Tryz.prog 24 = none := by kernel_rfl
@[simp] theorem rowT_24 : rowT Tryz.prog 24 = none := by kernel_rfl
@[simp] theorem structT_24 : structT Tryz.prog 24 = some [(0, 1), (1, 1)] := by kernel_rfl
@[simp] theorem fieldT_24_0 : fieldT Tryz.prog 24 0 = some (22, 0) := by kernel_rfl
@[simp] theorem fieldT_24_1 : fieldT Tryz.prog 24 1 = some (23, 1) := by kernel_rfl
@[simp] theorem zeroT_24 : zeroT Tryz.prog 24 = some [.slice none 0 0, .slice none 0 0] := by kernel_rfl
@[simp] theorem szOf_25 : szOf Tryz.prog 25 = some 2 := by kernel_rfl
@[simp] theorem aggT_25 : aggT Tryz.prog 25 = some true := by kernel_rfl
@[simp] theorem strT_25 : strT Tryz.prog 25 = false := by kernel_rfl
@[simp] theorem boolT_25 : boolT Tryz.prog 25 = false := by kernel_rfl
@[simp] theorem elemT_25 : elemT Tryz.prog 25 = none := by kernel_rfl
@[simp] theorem rowT_25 : rowT Tryz.prog 25 = none := by kernel_rfl
@[simp] theorem structT_25 : structT Tryz.prog 25 = some [(0, 1), (1, 1)] := by kernel_rfl
@[simp] theorem fieldT_25_0 : fieldT Tryz.prog 25 0 = some (22, 0) := by kernel_rfl
@[simp] theorem fieldT_25_1 : fieldT Tryz.prog 25 1 = some (23, 1) := by kernel_rfl
@[simp] theorem zeroT_25 : zeroT Tryz.prog 25 = some [.slice none 0 0, .slice none 0 0] := by kernel_rfl
@[simp] theorem szOf_26 : szOf Tryz.prog 26 = some 1 := by kernel_rfl
@[simp] theorem aggT_26 : aggT Tryz.prog 26 = some false := by kernel_rfl
@[simp] theorem strT_26 : strT Tryz.prog 26 = false := by kernel_rfl
@[simp] theorem boolT_26 : boolT Tryz.prog 26 = false := by kernel_rfl
@[simp] theorem elemT_26 : elemT Tryz.prog 26 = some 34 := by kernel_rfl
@[simp] theorem rowT_26 : rowT Tryz.prog 26 = some (34, 9, 184) := by kernel_rfl
@[simp] theorem makeT_26 : makeT Tryz.prog 26 = some (9, 184, [.int .i64 0, .slice none 0 0, .slice none 0 0, .slice none 0 0, .slice none 0 0, .slice none 0 0, .slice none 0 0, .int .i64 0, .slice none 0 0]) := by kernel_rfl
@[simp] theorem zeroT_26 : zeroT Tryz.prog 26 = some [.slice none 0 0] := by kernel_rfl
@[simp] theorem szOf_27 : szOf Tryz.prog 27 = some 2 := by kernel_rfl
@[simp] theorem aggT_27 : aggT Tryz.prog 27 = some true := by kernel_rfl
@[simp] theorem strT_27 : strT Tryz.prog 27 = false := by kernel_rfl
@[simp] theorem boolT_27 : boolT Tryz.prog 27 = false := by kernel_rfl
@[simp] theorem elemT_27 : elemT Tryz.prog 27 = none := by kernel_rfl
@[simp] theorem rowT_27 : rowT Tryz.prog 27 = none := by kernel_rfl
@[simp] theorem structT_27 : structT Tryz.prog 27 = some [(0, 1), (1, 1)] := by kernel_rfl
@[simp] theorem fieldT_27_0 : fieldT Tryz.prog 27 0 = some (22, 0) := by kernel_rfl
@[simp] theorem fieldT_27_1 : fieldT Tryz.prog 27 1 = some (22, 1) := by kernel_rfl
@[simp] theorem zeroT_27 : zeroT Tryz.prog 27 = some [.slice none 0 0, .slice none 0 0] := by kernel_rfl
@[simp] theorem szOf_28 : szOf Tryz.prog 28 = some 2 := by kernel_rfl
@[simp] theorem aggT_28 : aggT Tryz.prog 28 = some true := by kernel_rfl
@[simp] theorem strT_28 : strT Tryz.prog 28 = false := by kernel_rfl
@[simp] theorem boolT_28 : boolT Tryz.prog 28 = false := by kernel_rfl
@[simp] theorem elemT_28 : elemT Tryz.prog 28 = none := by kernel_rfl
@[simp] theorem rowT_28 : rowT Tryz.prog 28 = none := by kernel_rfl
@[simp] theorem structT_28 : structT Tryz.prog 28 = some [(0, 1), (1, 1)] := by kernel_rfl
@[simp] theorem fieldT_28_0 : fieldT Tryz.prog 28 0 = some (22, 0) := by kernel_rfl
@[simp] theorem fieldT_28_1 : fieldT Tryz.prog 28 1 = some (22, 1) := by kernel_rfl
@[simp] theorem zeroT_28 : zeroT Tryz.prog 28 = some [.slice none 0 0, .slice none 0 0] := by kernel_rfl
@[simp] theorem szOf_29 : szOf Tryz.prog 29 = some 1 := by kernel_rfl
@[simp] theorem aggT_29 : aggT Tryz.prog 29 = some false := by kernel_rfl
@[simp] theorem strT_29 : strT Tryz.prog 29 = false := by kernel_rfl
@[simp] theorem boolT_29 : boolT Tryz.prog 29 = false := by kernel_rfl
@[simp] theorem elemT_29 : elemT Tryz.prog 29 = some 76 := by kernel_rfl
@[simp] theorem rowT_29 : rowT Tryz.prog 29 = some (76, 4, 32) := by kernel_rfl
@[simp] theorem makeT_29 : makeT Tryz.prog 29 = some (4, 32, [.int .i64 0, .int .i64 0, .int .i64 0, .int .i64 0]) := by kernel_rfl
@[simp] theorem zeroT_29 : zeroT Tryz.prog 29 = some [.slice none 0 0] := by kernel_rfl
@[simp] theorem szOf_30 : szOf Tryz.prog 30 = some 1 := by kernel_rfl
@[simp] theorem aggT_30 : aggT Tryz.prog 30 = some false := by kernel_rfl
@[simp] theorem strT_30 : strT Tryz.prog 30 = false := by kernel_rfl
@[simp] theorem boolT_30 : boolT Tryz.prog 30 = false := by kernel_rfl
@[simp] theorem elemT_30 : elemT Tryz.prog 30 = some 78 := by kernel_rfl
@[simp] theorem rowT_30 : rowT Tryz.prog 30 = some (78, 5, 40) := by kernel_rfl
@[simp] theorem makeT_30 : makeT Tryz.prog 30 = some (5, 40, [.int .i64 0, .int .i64 0, .int .i64 0, .int .i64 0, .int .i64 0]) := by kernel_rfl
@[simp] theorem zeroT_30 : zeroT Tryz.prog 30 = some [.slice none 0 0] := by kernel_rfl
@[simp] theorem szOf_31 : szOf Tryz.prog 31 = some 5 := by kernel_rfl
@[simp] theorem aggT_31 : aggT Tryz.prog 31 = some true := by kernel_rfl
@[simp] theorem strT_31 : strT Tryz.prog 31 = false := by kernel_rfl
@[simp] theorem boolT_31 : boolT Tryz.prog 31 = false := by kernel_rfl
@[simp] theorem elemT_31 : elemT Tryz.prog 31 = none := by kernel_rfl
@[simp] theorem rowT_31 : rowT Tryz.prog 31 = none := by kernel_rfl
@[simp] theorem structT_31 : structT Tryz.prog 31 = some [(0, 2), (2, 1), (3, 1), (4, 1)] := by kernel_rfl
@[simp] theorem fieldT_31_0 : fieldT Tryz.prog 31 0 = some (25, 0) := by kernel_rfl
@[simp] theorem fieldT_31_1 : fieldT Tryz.prog 31 1 = some (29, 2) := by kernel_rfl
@[simp] theorem fieldT_31_2 : fieldT Tryz.prog 31 2 = some (3, 3) := by kernel_rfl
@[simp] theorem fieldT_31_3 : fieldT Tryz.prog 31 3 = some (30, 4) := by kernel_rfl
@[simp] theorem zeroT_31 : zeroT Tryz.prog 31 = some [.slice none 0 0, .slice none 0 0, .slice none 0 0, .int .i64 0, .slice none 0 0] := by kernel_rfl
@[simp] theorem szOf_32 : szOf Tryz.prog 32 = some 5 := by kernel_rfl
@[simp] theorem aggT_32 : aggT Tryz.prog 32 = some true := by kernel_rfl
@[simp] theorem strT_32 : strT Tryz.prog 32 = false := by kernel_rfl
@[simp] theorem boolT_32 : boolT Tryz.prog 32 = false := by kernel_rfl
@[simp] theorem elemT_32 : elemT Tryz.prog 32 = none := by kernel_rfl
@[simp] theorem rowT_32 : rowT Tryz.prog 32 = none := by kernel_rfl
@[simp] theorem structT_32 : structT Tryz.prog 32 = some [(0, 2), (2, 1), (3, 1), (4, 1)] := by kernel_rfl
@[simp] theorem fieldT_32_0 : fieldT Tryz.prog 32 0 = some (25, 0) := by kernel_rfl
@[simp] theorem fieldT_32_1 : fieldT Tryz.prog 32 1 = some (29, 2) := by kernel_rfl
@[simp] theorem fieldT_32_2 : fieldT Tryz.prog 32 2 = some (3, 3) := by kernel_rfl
@[simp] theorem fieldT_32_3 : fieldT Tryz.prog 32 3 = some (30, 4) := by kernel_rfl
@[simp] theorem zeroT_32 : zeroT Tryz.prog 32 = some [.slice none 0 0, .slice none 0 0, .slice none 0 0, .int .i64 0, .slice none 0 0] := by kernel_rfl
@[simp] theorem szOf_33 : szOf Tryz.prog 33 = some 9 := by kernel_rfl
@[simp] theorem aggT_33 : aggT Tryz.prog 33 = some true := by kernel_rfl
@[simp] theorem strT_33 : strT Tryz.prog 33 = false := by kernel_rfl
@[simp] theorem boolT_33 : boolT Tryz.prog 33 = false := by kernel_rfl
@[simp] theorem elemT_33 : elemT Tryz.prog 33 = none := by kernel_rfl
@[simp] theorem rowT_33 : rowT Tryz.prog 33 = none := by kernel_rfl
@[simp] theorem structT_33 : structT Tryz.prog 33 = some [(0, 1), (1, 1), (2, 2), (4, 5)] := by kernel_rfl
@[simp] theorem fieldT_33_0 : fieldT Tryz.prog 33 0 = some (3, 0) := by kernel_rfl
@[simp] theorem fieldT_33_1 : fieldT Tryz.prog 33 1 = some (26, 1) := by kernel_rfl
@[simp] theorem fieldT_33_2 : fieldT Tryz.prog 33 2 = some (28, 2) := by kernel_rfl
@[simp] theorem fieldT_33_3 : fieldT Tryz.prog 33 3 = some (32, 4) := by kernel_rfl
@[simp] theorem zeroT_33 : zeroT Tryz.prog 33 = some [.int .i64 0, .slice none 0 0, .slice none 0 0, .slice none 0 0, .slice none 0 0, .slice none 0 0, .slice none 0 0, .int .i64 0, .slice none 0 0] := by kernel_rfl
@[simp] theorem szOf_34 : szOf Tryz.prog 34 = some 9 := by kernel_rfl
@[simp] theorem aggT_34 : aggT Tryz.prog 34 = some true := by kernel_rfl
@[simp] theorem strT_34 : strT Tryz.prog 34 = false := by kernel_rfl
@[simp] theorem boolT_34 : boolT Tryz.prog 34 = false := by kernel_rfl
@[simp] theorem elemT_34 : elemT Tryz.prog 34 = none := by kernel_rfl
@[simp] theorem rowT_34 : rowT Tryz.prog 34 = none := by kernel_rfl
@[simp] theorem structT_34 : structT Tryz.prog 34 = some [(0, 1), (1, 1), (2, 2), (4, 5)] := by kernel_rfl
@[simp] theorem fieldT_34_0 : fieldT Tryz.prog 34 0 = some (3, 0) := by kernel_rfl
@[simp] theorem fieldT_34_1 : fieldT Tryz.prog 34 1 = some (26, 1) := by kernel_rfl
@[simp] theorem fieldT_34_2 : fieldT Tryz.prog 34 2 = some (28, 2) := by kernel_rfl
@[simp] theorem fieldT_34_3 : fieldT Tryz.prog 34 3 = some (32, 4) := by kernel_rfl
@[simp] theorem zeroT_34 : zeroT Tryz.prog 34 = some [.int .i64 0, .slice none 0 0, .slice none 0 0, .slice none 0 0, .slice none 0 0, .slice none 0 0, .slice none 0 0, .int .i64 0, .slice none 0 0] := by kernel_rfl
@[simp] theorem szOf_35 : szOf Tryz.prog 35 = some 4 := by kernel_rfl
@[simp] theorem aggT_35 : aggT Tryz.prog 35 = some true := by kernel_rfl
@[simp] theorem strT_35 : strT Tryz.prog 35 = false := by kernel_rfl
@[simp] theorem boolT_35 : boolT Tryz.prog 35 = false := by kernel_rfl
@[simp] theorem elemT_35 : elemT Tryz.prog 35 = none := by kernel_rfl
@[simp] theorem rowT_35 : rowT Tryz.prog 35 = none := by kernel_rfl
@[simp] theorem structT_35 : structT Tryz.prog 35 = some [(0, 2), (2, 2)] := by kernel_rfl
@[simp] theorem fieldT_35_0 : fieldT Tryz.prog 35 0 = some (25, 0) := by kernel_rfl
@[simp] theorem fieldT_35_1 : fieldT Tryz.prog 35 1 = some (28, 2) := by kernel_rfl
@[simp] theorem zeroT_35 : zeroT Tryz.prog 35 = some [.slice none 0 0, .slice none 0 0, .slice none 0 0, .slice none 0 0] := by kernel_rfl
@[simp] theorem szOf_36 : szOf Tryz.prog 36 = some 4 := by kernel_rfl
@[simp] theorem aggT_36 : aggT Tryz.prog 36 = some true := by kernel_rfl
@[simp] theorem strT_36 : strT Tryz.prog 36 = false := by kernel_rfl
@[simp] theorem boolT_36 : boolT Tryz.prog 36 = false := by kernel_rfl
@[simp] theorem elemT_36 : elemT Tryz.prog 36 = none := by kernel_rfl
@[simp] theorem rowT_36 : rowT Tryz.prog 36 = none := by kernel_rfl
@[simp] theorem structT_36 : structT Tryz.prog 36 = some [(0, 2), (2, 2)] := by kernel_rfl
@[simp] theorem fieldT_36_0 : fieldT Tryz.prog 36 0 = some (25, 0) := by kernel_rfl
@[simp] theorem fieldT_36_1 : fieldT Tryz.prog 36 1 = some (28, 2) := by kernel_rfl
@[simp] theorem zeroT_36 : zeroT Tryz.prog 36 = some [.slice none 0 0, .slice none 0 0, .slice none 0 0, .slice none 0 0] := by kernel_rfl
@[simp] theorem szOf_37 : szOf Tryz.prog 37 = some 1 := by kernel_rfl
@[simp] theorem aggT_37 : aggT Tryz.prog 37 = some false := by kernel_rfl
@[simp] theorem strT_37 : strT Tryz.prog 37 = false := by kernel_rfl
@[simp] theorem boolT_37 : boolT Tryz.prog 37 = false := by kernel_rfl
@[simp] theorem elemT_37 : elemT Tryz.prog 37 = none := by kernel_rfl
@[simp] theorem rowT_37 : rowT Tryz.prog 37 = none := by kernel_rfl
@[simp] theorem zeroT_37 : zeroT Tryz.prog 37 = some [.nilFunc] := by kernel_rfl
@[simp] theorem szOf_38 : szOf Tryz.prog 38 = some 1 := by kernel_rfl
@[simp] theorem aggT_38 : aggT Tryz.prog 38 = some false := by kernel_rfl
@[simp] theorem strT_38 : strT Tryz.prog 38 = false := by kernel_rfl
@[simp] theorem boolT_38 : boolT Tryz.prog 38 = false := by kernel_rfl
@[simp] theorem elemT_38 : elemT Tryz.prog 38 = none := by kernel_rfl
@[simp] theorem rowT_38 : rowT Tryz.prog 38 = none := by kernel_rfl
@[simp] theorem zeroT_38 : zeroT Tryz.prog 38 = some [.nilFunc] := by kernel_rfl
@[simp] theorem szOf_39 : szOf Tryz.prog 39 = some 1 := by kernel_rfl
@[simp] theorem aggT_39 : aggT Tryz.prog 39 = some false := by kernel_rfl
@[simp] theorem strT_39 : strT Tryz.prog 39 = false := by kernel_rfl
@[simp] theorem boolT_39 : boolT Tryz.prog 39 = false := by kernel_rfl
@[simp] theorem elemT_39 : elemT Tryz.prog 39 = none := by kernel_rfl
@[simp] theorem rowT_39 : rowT Tryz.prog 39 = none := by kernel_rfl
@[simp] theorem kindT_39 : kindT Tryz.prog 39 = some .i64 := by kernel_rfl
@[simp] theorem zeroT_39 : zeroT Tryz.prog 39 = some [.int .i64 0] := by kernel_rfl
@[simp] theorem szOf_40 : szOf Tryz.prog 40 = some 1 := by kernel_rfl
@[simp] theorem aggT_40 : aggT Tryz.prog 40 = some false := by kernel_rfl
@[simp] theorem strT_40 : strT Tryz.prog 40 = false := by kernel_rfl
@[simp] theorem boolT_40 : boolT Tryz.prog 40 = false := by kernel_rfl
@[simp] theorem elemT_40 : elemT Tryz.prog 40 = none := by kernel_rfl
@[simp] theorem rowT_40 : rowT Tryz.prog 40 = none := by kernel_rfl
@[simp] theorem zeroT_40 : zeroT Tryz.prog 40 = some [.nilFunc] := by kernel_rfl
@[simp] theorem szOf_42 : szOf Tryz.prog 42 = some 1 := by kernel_rfl
@[simp] theorem aggT_42 : aggT Tryz.prog 42 = some false := by kernel_rfl
@[simp] theorem strT_42 : strT Tryz.prog 42 = false := by kernel_rfl
@[simp] theorem boolT_42 : boolT Tryz.prog 42 = false := by kernel_rfl
@[simp] theorem elemT_42 : elemT Tryz.prog 42 = none := by kernel_rfl
@[simp] theorem rowT_42 : rowT Tryz.prog 42 = none := by kernel_rfl
@[simp] theorem zeroT_42 : zeroT Tryz.prog 42 = some [.nilFunc] := by kernel_rfl
@[simp] theorem szOf_43 : szOf Tryz.prog 43 = some 1 := by kernel_rfl
@[simp] theorem aggT_43 : aggT Tryz.prog 43 = some false := by kernel_rfl
@[simp] theorem strT_43 : strT Tryz.prog 43 = false := by kernel_rfl
@[simp] theorem boolT_43 : boolT Tryz.prog 43 = false := by kernel_rfl
@[simp] theorem elemT_43 : elemT Tryz.prog 43 = none := by kernel_rfl
@[simp] theorem rowT_43 : rowT Tryz.prog 43 = none := by kernel_rfl
@[simp] theorem zeroT_43 : zeroT Tryz.prog 43 = some [.nilFunc] := by kernel_rfl
@[simp] theorem szOf_44 : szOf Tryz.prog 44 = some 1 := by kernel_rfl
@[simp] theorem aggT_44 : aggT Tryz.prog 44 = some false := by kernel_rfl
@[simp] theorem strT_44 : strT Tryz.prog 44 = false := by kernel_rfl
@[simp] theorem boolT_44 : boolT Tryz.prog 44 = false := by kernel_rfl
@[simp] theorem elemT_44 : elemT Tryz.prog 44 = none := by kernel_rfl
@[simp] theorem rowT_44 : rowT Tryz.prog 44 = none := by kernel_rfl
@[simp] theorem zeroT_44 : zeroT Tryz.prog 44 = some [.nilFunc] := by kernel_rfl
@[simp] theorem szOf_46 : szOf Tryz.prog 46 = some 1 := by kernel_rfl
@[simp] theorem aggT_46 : aggT Tryz.prog 46 = some false := by kernel_rfl
@[simp] theorem strT_46 : strT Tryz.prog 46 = false := by kernel_rfl
@[simp] theorem boolT_46 : boolT Tryz.prog 46 = false := by kernel_rfl
@[simp] theorem elemT_46 : elemT Tryz.prog 46 = none := by kernel_rfl
@[simp] theorem rowT_46 : rowT Tryz.prog 46 = none := by kernel_rfl
@[simp] theorem zeroT_46 : zeroT Tryz.prog 46 = some [.nilFunc] := by kernel_rfl
@[simp] theorem szOf_47 : szOf Tryz.prog 47 = some 1 := by kernel_rfl
@[simp] theorem aggT_47 : aggT Tryz.prog 47 = some false := by kernel_rfl
@[simp] theorem strT_47 : strT Tryz.prog 47 = false := by kernel_rfl
@[simp] theorem boolT_47 : boolT Tryz.prog 47 = false := by kernel_rfl
@[simp] theorem elemT_47 : elemT Tryz.prog 47 = none := by kernel_rfl
@[simp] theorem rowT_47 : rowT Tryz.prog 47 = none := by kernel_rfl
@[simp] theorem zeroT_47 : zeroT Tryz.prog 47 = some [.nilFunc] := by kernel_rfl
@[simp] theorem szOf_48 : szOf Tryz.prog 48 = some 1 := by kernel_rfl
@[simp] theorem aggT_48 : aggT Tryz.prog 48 = some false := by kernel_rfl
@[simp] theorem strT_48 : strT Tryz.prog 48 = false := by kernel_rfl
@[simp] theorem boolT_48 : boolT Tryz.prog 48 = false := by kernel_rfl
@[simp] theorem elemT_48 : elemT Tryz.prog 48 = none := by kernel_rfl
@[simp] theorem rowT_48 : rowT Tryz.prog 48 = none := by kernel_rfl
@[simp] theorem zeroT_48 : zeroT Tryz.prog 48 = some [.nilFunc] := by kernel_rfl
@[simp] theorem szOf_49 : szOf Tryz.prog 49 = some 1 := by kernel_rfl
@[simp] theorem aggT_49 : aggT Tryz.prog 49 = some false := by kernel_rfl
@[simp] theorem strT_49 : strT Tryz.prog 49 = false := by kernel_rfl
@[simp] theorem boolT_49 : boolT Tryz.prog 49 = false := by kernel_rfl
@[simp] theorem elemT_49 : elemT Tryz.prog 49 = none := by kernel_rfl
@[simp] theorem rowT_49 : rowT Tryz.prog 49 = none := by kernel_rfl
@[simp] theorem zeroT_49 : zeroT Tryz.prog 49 = some [.nilFunc] := by kernel_rfl
@[simp] theorem szOf_50 : szOf Tryz.prog 50 = some 1 := by kernel_rfl
@[simp] theorem aggT_50 : aggT Tryz.prog 50 = some false := by kernel_rfl
@[simp] theorem strT_50 : strT Tryz.prog 50 = false := by kernel_rfl
@[simp] theorem boolT_50 : boolT Tryz.prog 50 = false := by kernel_rfl
@[simp] theorem elemT_50 : elemT Tryz.prog 50 = none := by kernel_rfl
@[simp] theorem rowT_50 : rowT Tryz.prog 50 = none := by kernel_rfl
@[simp] theorem zeroT_50 : zeroT Tryz.prog 50 = some [.nilFunc] := by kernel_rfl
@[simp] theorem szOf_51 : szOf Tryz.prog 51 = some 1 := by kernel_rfl
@[simp] theorem aggT_51 : aggT Tryz.prog 51 = some false := by kernel_rfl
@[simp] theorem strT_51 : strT Tryz.prog 51 = false := by kernel_rfl
@[simp] theorem boolT_51 : boolT Tryz.prog 51 = false := by kernel_rfl
@[simp] theorem elemT_51 : elemT Tryz.prog 51 = none := by kernel_rfl
@[simp] theorem rowT_51 : rowT Tryz.prog 51 = none := by kernel_rfl
@[simp] theorem zeroT_51 : zeroT Tryz.prog 51 = some [.nilFunc] := by kernel_rfl
@[simp] theorem szOf_53 : szOf Tryz.prog 53 = some 1 := by kernel_rfl
@[simp] theorem aggT_53 : aggT Tryz.prog 53 = some false := by kernel_rfl
@[simp] theorem strT_53 : strT Tryz.prog 53 = false := by kernel_rfl
@[simp] theorem boolT_53 : boolT Tryz.prog 53 = false := by kernel_rfl
@[simp] theorem elemT_53 : elemT Tryz.prog 53 = none := by kernel_rfl
@[simp] theorem rowT_53 : rowT Tryz.prog 53 = none := by kernel_rfl
@[simp] theorem zeroT_53 : zeroT Tryz.prog 53 = some [.nilFunc] := by kernel_rfl
@[simp] theorem szOf_55 : szOf Tryz.prog 55 = some 1 := by kernel_rfl
@[simp] theorem aggT_55 : aggT Tryz.prog 55 = some false := by kernel_rfl
@[simp] theorem strT_55 : strT Tryz.prog 55 = false := by kernel_rfl
@[simp] theorem boolT_55 : boolT Tryz.prog 55 = false := by kernel_rfl
@[simp] theorem elemT_55 : elemT Tryz.prog 55 = none := by kernel_rfl
@[simp] theorem rowT_55 : rowT Tryz.prog 55 = none := by kernel_rfl
@[simp] theorem zeroT_55 : zeroT Tryz.prog 55 = some [.nilFunc] := by kernel_rfl
@[simp] theorem szOf_56 : szOf Tryz.prog 56 = some 1 := by kernel_rfl
@[simp] theorem aggT_56 : aggT Tryz.prog 56 = some false := by kernel_rfl
@[simp] theorem strT_56 : strT Tryz.prog 56 = false := by kernel_rfl
@[simp] theorem boolT_56 : boolT Tryz.prog 56 = false := by kernel_rfl
@[simp] theorem elemT_56 : elemT Tryz.prog 56 = none := by kernel_rfl
@[simp] theorem rowT_56 : rowT Tryz.prog 56 = none := by kernel_rfl
@[simp] theorem zeroT_56 : zeroT Tryz.prog 56 = some [.nilFunc] := by kernel_rfl
@[simp] theorem szOf_57 : szOf Tryz.prog 57 = some 1 := by kernel_rfl
@[simp] theorem aggT_57 : aggT Tryz.prog 57 = some false := by kernel_rfl
@[simp] theorem strT_57 : strT Tryz.prog 57 = false := by kernel_rfl
@[simp] theorem boolT_57 : boolT Tryz.prog 57 = false := by kernel_rfl
@[simp] theorem elemT_57 : elemT Tryz.prog 57 = none := by kernel_rfl
@[simp] theorem rowT_57 : rowT Tryz.prog 57 = none := by kernel_rfl
@[simp] theorem zeroT_57 : zeroT Tryz.prog 57 = some [.nilFunc] := by kernel_rfl
@[simp] theorem szOf_58 : szOf Tryz.prog 58 = some 1 := by kernel_rfl
@[simp] theorem aggT_58 : aggT Tryz.prog 58 = some false := by kernel_rfl
@[simp] theorem strT_58 : strT Tryz.prog 58 = false := by kernel_rfl
@[simp] theorem boolT_58 : boolT Tryz.prog 58 = false := by kernel_rfl
@[simp] theorem elemT_58 : elemT Tryz.prog 58 = none := by kernel_rfl
@[simp] theorem rowT_58 : rowT Tryz.prog 58 = none := by kernel_rfl
@[simp] theorem zeroT_58 : zeroT Tryz.prog 58 = some [.nilFunc] := by kernel_rfl
@[simp] theorem szOf_59 : szOf Tryz.prog 59 = some 1 := by kernel_rfl
@[simp] theorem aggT_59 : aggT Tryz.prog 59 = some false := by kernel_rfl
@[simp] theorem strT_59 : strT Tryz.prog 59 = false := by kernel_rfl
@[simp] theorem boolT_59 : boolT Tryz.prog 59 = false := by kernel_rfl
@[simp] theorem elemT_59 : elemT Tryz.prog 59 = none := by kernel_rfl
@[simp] theorem rowT_59 : rowT Tryz.prog 59 = none := by kernel_rfl
@[simp] theorem zeroT_59 : zeroT Tryz.prog 59 = some [.nilFunc] := by kernel_rfl
@[simp] theorem szOf_60 : szOf Tryz.prog 60 = some 1 := by kernel_rfl
@[simp] theorem aggT_60 : aggT Tryz.prog 60 = some false := by kernel_rfl
@[simp] theorem strT_60 : strT Tryz.prog 60 = false := by kernel_rfl
@[simp] theorem boolT_60 : boolT Tryz.prog 60 = false := by kernel_rfl
@[simp] theorem elemT_60 : elemT Tryz.prog 60 = none := by kernel_rfl
@[simp] theorem rowT_60 : rowT Tryz.prog 60 = none := by kernel_rfl
@[simp] theorem zeroT_60 : zeroT Tryz.prog 60 = some [.nilFunc] := by kernel_rfl
@[simp] theorem szOf_61 : szOf Tryz.prog 61 = some 3 := by kernel_rfl
@[simp] theorem aggT_61 : aggT Tryz.prog 61 = some true := by kernel_rfl
@[simp] theorem strT_61 : strT Tryz.prog 61 = false := by kernel_rfl
@[simp] theorem boolT_61 : boolT Tryz.prog 61 = false := by kernel_rfl
@[simp] theorem elemT_61 : elemT Tryz.prog 61 = none := by kernel_rfl
@[simp] theorem rowT_61 : rowT Tryz.prog 61 = none := by kernel_rfl
@[simp] theorem eqT_61 : eqT Tryz.prog 61 = some 3 := by kernel_rfl
@[simp] theorem structT_61 : structT Tryz.prog 61 = some [(0, 1), (1, 1), (2, 1)] := by kernel_rfl
@[simp] theorem fieldT_61_0 : fieldT Tryz.prog 61 0 = some (3, 0) := by kernel_rfl
@[simp] theorem fieldT_61_1 : fieldT Tryz.prog 61 1 = some (3, 1) := by kernel_rfl
@[simp] theorem fieldT_61_2 : fieldT Tryz.prog 61 2 = some (3, 2) := by kernel_rfl
@[simp] theorem zeroT_61 : zeroT Tryz.prog 61 = some [.int .i64 0, .int .i64 0, .int .i64 0] := by kernel_rfl
@[simp] theorem szOf_62 : szOf Tryz.prog 62 = some 3 := by kernel_rfl
@[simp] theorem aggT_62 : aggT Tryz.prog 62 = some true := by kernel_rfl
@[simp] theorem strT_62 : strT Tryz.prog 62 = false := by kernel_rfl
@[simp] theorem boolT_62 : boolT Tryz.prog 62 = false := by kernel_rfl
@[simp] theorem elemT_62 : elemT Tryz.prog 62 = none := by kernel_rfl
@[simp] theorem rowT_62 : rowT Tryz.prog 62 = none := by kernel_rfl
@[simp] theorem eqT_62 : eqT Tryz.prog 62 = some 3 := by kernel_rfl
@[simp] theorem structT_62 : structT Tryz.prog 62 = some [(0, 1), (1, 1), (2, 1)] := by kernel_rfl
@[simp] theorem fieldT_62_0 : fieldT Tryz.prog 62 0 = some (3, 0) := by kernel_rfl
@[simp] theorem fieldT_62_1 : fieldT Tryz.prog 62 1 = some (3, 1) := by kernel_rfl
@[simp] theorem fieldT_62_2 : fieldT Tryz.prog 62 2 = some (3, 2) := by kernel_rfl
@[simp] theorem zeroT_62 : zeroT Tryz.prog 62 = some [.int .i64 0, .int .i64 0, .int .i64 0] := by kernel_rfl
@[simp] theorem szOf_63 : szOf Tryz.prog 63 = some 1 := by kernel_rfl
@[simp] theorem aggT_63 : aggT Tryz.prog 63 = some false := by kernel_rfl
@[simp] theorem strT_63 : strT Tryz.prog 63 = false := by kernel_rfl
@[simp] theorem boolT_63 : boolT Tryz.prog 63 = false := by kernel_rfl
@[simp] theorem elemT_63 : elemT Tryz.prog 63 = none := by kernel_rfl
@[simp] theorem rowT_63 : rowT Tryz.prog 63 = none := by kernel_rfl
@[simp] theorem zeroT_63 : zeroT Tryz.prog 63 = some [.nilFunc] := by kernel_rfl
@[simp] theorem szOf_64 : szOf Tryz.prog 64 = some 1 := by kernel_rfl
@[simp] theorem aggT_64 : aggT Tryz.prog 64 = some false := by kernel_rfl
@[simp] theorem strT_64 : strT Tryz.prog 64 = false := by kernel_rfl
@[simp] theorem boolT_64 : boolT Tryz.prog 64 = false := by kernel_rfl
@[simp] theorem elemT_64 : elemT Tryz.prog 64 = none := by kernel_rfl
@[simp] theorem rowT_64 : rowT Tryz.prog 64 = none := by kernel_rfl
@[simp] theorem zeroT_64 : zeroT Tryz.prog 64 = some [.nilFunc] := by kernel_rfl
@[simp] theorem szOf_65 : szOf Tryz.prog 65 = some 1 := by kernel_rfl
@[simp] theorem aggT_65 : aggT Tryz.prog 65 = some false := by kernel_rfl
@[simp] theorem strT_65 : strT Tryz.prog 65 = false := by kernel_rfl
@[simp] theorem boolT_65 : boolT Tryz.prog 65 = false := by kernel_rfl
@[simp] theorem elemT_65 : elemT Tryz.prog 65 = none := by kernel_rfl
@[simp] theorem rowT_65 : rowT Tryz.prog 65 = none := by kernel_rfl
@[simp] theorem zeroT_65 : zeroT Tryz.prog 65 = some [.nilFunc] := by kernel_rfl
@[simp] theorem szOf_66 : szOf Tryz.prog 66 = some 1 := by kernel_rfl
@[simp] theorem aggT_66 : aggT Tryz.prog 66 = some false := by kernel_rfl
@[simp] theorem strT_66 : strT Tryz.prog 66 = false := by kernel_rfl
@[simp] theorem boolT_66 : boolT Tryz.prog 66 = false := by kernel_rfl
@[simp] theorem elemT_66 : elemT Tryz.prog 66 = none := by kernel_rfl
@[simp] theorem rowT_66 : rowT Tryz.prog 66 = none := by kernel_rfl
@[simp] theorem zeroT_66 : zeroT Tryz.prog 66 = some [.pointer none] := by kernel_rfl
@[simp] theorem szOf_67 : szOf Tryz.prog 67 = some 2 := by kernel_rfl
@[simp] theorem aggT_67 : aggT Tryz.prog 67 = some true := by kernel_rfl
@[simp] theorem strT_67 : strT Tryz.prog 67 = false := by kernel_rfl
@[simp] theorem boolT_67 : boolT Tryz.prog 67 = false := by kernel_rfl
@[simp] theorem elemT_67 : elemT Tryz.prog 67 = none := by kernel_rfl
@[simp] theorem rowT_67 : rowT Tryz.prog 67 = none := by kernel_rfl
@[simp] theorem eqT_67 : eqT Tryz.prog 67 = some 2 := by kernel_rfl
@[simp] theorem structT_67 : structT Tryz.prog 67 = some [(0, 1), (1, 1)] := by kernel_rfl
@[simp] theorem fieldT_67_0 : fieldT Tryz.prog 67 0 = some (3, 0) := by kernel_rfl
@[simp] theorem fieldT_67_1 : fieldT Tryz.prog 67 1 = some (39, 1) := by kernel_rfl
@[simp] theorem zeroT_67 : zeroT Tryz.prog 67 = some [.int .i64 0, .int .i64 0] := by kernel_rfl
@[simp] theorem szOf_68 : szOf Tryz.prog 68 = some 2 := by kernel_rfl
@[simp] theorem aggT_68 : aggT Tryz.prog 68 = some true := by kernel_rfl
@[simp] theorem strT_68 : strT Tryz.prog 68 = false := by kernel_rfl
@[simp] theorem boolT_68 : boolT Tryz.prog 68 = false := by kernel_rfl
@[simp] theorem elemT_68 : elemT Tryz.prog 68 = none := by kernel_rfl
@[simp] theorem rowT_68 : rowT Tryz.prog 68 = none := by kernel_rfl
@[simp] theorem eqT_68 : eqT Tryz.prog 68 = some 2 := by kernel_rfl
@[simp] theorem structT_68 : structT Tryz.prog 68 = some [(0, 1), (1, 1)] := by kernel_rfl
@[simp] theorem fieldT_68_0 : fieldT Tryz.prog 68 0 = some (3, 0) := by kernel_rfl
@[simp] theorem fieldT_68_1 : fieldT Tryz.prog 68 1 = some (39, 1) := by kernel_rfl
@[simp] theorem zeroT_68 : zeroT Tryz.prog 68 = some [.int .i64 0, .int .i64 0] := by kernel_rfl
@[simp] theorem szOf_69 : szOf Tryz.prog 69 = some 1 := by kernel_rfl
@[simp] theorem aggT_69 : aggT Tryz.prog 69 = some false := by kernel_rfl
@[simp] theorem strT_69 : strT Tryz.prog 69 = false := by kernel_rfl
@[simp] theorem boolT_69 : boolT Tryz.prog 69 = false := by kernel_rfl
@[simp] theorem elemT_69 : elemT Tryz.prog 69 = none := by kernel_rfl
@[simp] theorem rowT_69 : rowT Tryz.prog 69 = none := by kernel_rfl
@[simp] theorem zeroT_69 : zeroT Tryz.prog 69 = some [.nilFunc] := by kernel_rfl
@[simp] theorem szOf_70 : szOf Tryz.prog 70 = some 1 := by kernel_rfl
@[simp] theorem aggT_70 : aggT Tryz.prog 70 = some false := by kernel_rfl
@[simp] theorem strT_70 : strT Tryz.prog 70 = false := by kernel_rfl
@[simp] theorem boolT_70 : boolT Tryz.prog 70 = false := by kernel_rfl
@[simp] theorem elemT_70 : elemT Tryz.prog 70 = none := by kernel_rfl
@[simp] theorem rowT_70 : rowT Tryz.prog 70 = none := by kernel_rfl
@[simp] theorem zeroT_70 : zeroT Tryz.prog 70 = some [.nilFunc] := by kernel_rfl
@[simp] theorem szOf_71 : szOf Tryz.prog 71 = some 1 := by kernel_rfl
@[simp] theorem aggT_71 : aggT Tryz.prog 71 = some false := by kernel_rfl
@[simp] theorem strT_71 : strT Tryz.prog 71 = false := by kernel_rfl
@[simp] theorem boolT_71 : boolT Tryz.prog 71 = false := by kernel_rfl
@[simp] theorem elemT_71 : elemT Tryz.prog 71 = none := by kernel_rfl
@[simp] theorem rowT_71 : rowT Tryz.prog 71 = none := by kernel_rfl
@[simp] theorem zeroT_71 : zeroT Tryz.prog 71 = some [.nilFunc] := by kernel_rfl
@[simp] theorem szOf_72 : szOf Tryz.prog 72 = some 1 := by kernel_rfl
@[simp] theorem aggT_72 : aggT Tryz.prog 72 = some false := by kernel_rfl
@[simp] theorem strT_72 : strT Tryz.prog 72 = false := by kernel_rfl
@[simp] theorem boolT_72 : boolT Tryz.prog 72 = false := by kernel_rfl
@[simp] theorem elemT_72 : elemT Tryz.prog 72 = none := by kernel_rfl
@[simp] theorem rowT_72 : rowT Tryz.prog 72 = none := by kernel_rfl
@[simp] theorem zeroT_72 : zeroT Tryz.prog 72 = some [.nilFunc] := by kernel_rfl
@[simp] theorem szOf_73 : szOf Tryz.prog 73 = some 2 := by kernel_rfl
@[simp] theorem aggT_73 : aggT Tryz.prog 73 = some true := by kernel_rfl
@[simp] theorem strT_73 : strT Tryz.prog 73 = false := by kernel_rfl
@[simp] theorem boolT_73 : boolT Tryz.prog 73 = false := by kernel_rfl
@[simp] theorem elemT_73 : elemT Tryz.prog 73 = none := by kernel_rfl
@[simp] theorem rowT_73 : rowT Tryz.prog 73 = none := by kernel_rfl
@[simp] theorem eqT_73 : eqT Tryz.prog 73 = some 2 := by kernel_rfl
@[simp] theorem structT_73 : structT Tryz.prog 73 = some [(0, 1), (1, 1)] := by kernel_rfl
@[simp] theorem fieldT_73_0 : fieldT Tryz.prog 73 0 = some (3, 0) := by kernel_rfl
@[simp] theorem fieldT_73_1 : fieldT Tryz.prog 73 1 = some (3, 1) := by kernel_rfl
@[simp] theorem zeroT_73 : zeroT Tryz.prog 73 = some [.int .i64 0, .int .i64 0] := by kernel_rfl
@[simp] theorem szOf_74 : szOf Tryz.prog 74 = some 2 := by kernel_rfl
@[simp] theorem aggT_74 : aggT Tryz.prog 74 = some true := by kernel_rfl
@[simp] theorem strT_74 : strT Tryz.prog 74 = false := by kernel_rfl
@[simp] theorem boolT_74 : boolT Tryz.prog 74 = false := by kernel_rfl
@[simp] theorem elemT_74 : elemT Tryz.prog 74 = none := by kernel_rfl
@[simp] theorem rowT_74 : rowT Tryz.prog 74 = none := by kernel_rfl
@[simp] theorem eqT_74 : eqT Tryz.prog 74 = some 2 := by kernel_rfl
@[simp] theorem structT_74 : structT Tryz.prog 74 = some [(0, 1), (1, 1)] := by kernel_rfl
@[simp] theorem fieldT_74_0 : fieldT Tryz.prog 74 0 = some (3, 0) := by kernel_rfl
@[simp] theorem fieldT_74_1 : fieldT Tryz.prog 74 1 = some (3, 1) := by kernel_rfl
@[simp] theorem zeroT_74 : zeroT Tryz.prog 74 = some [.int .i64 0, .int .i64 0] := by kernel_rfl
@[simp] theorem szOf_75 : szOf Tryz.prog 75 = some 4 := by kernel_rfl
@[simp] theorem aggT_75 : aggT Tryz.prog 75 = some true := by kernel_rfl
@[simp] theorem strT_75 : strT Tryz.prog 75 = false := by kernel_rfl
@[simp] theorem boolT_75 : boolT Tryz.prog 75 = false := by kernel_rfl
@[simp] theorem elemT_75 : elemT Tryz.prog 75 = none := by kernel_rfl
@[simp] theorem rowT_75 : rowT Tryz.prog 75 = none := by kernel_rfl
@[simp] theorem structT_75 : structT Tryz.prog 75 = some [(0, 1), (1, 1), (2, 2)] := by kernel_rfl
@[simp] theorem fieldT_75_0 : fieldT Tryz.prog 75 0 = some (3, 0) := by kernel_rfl
@[simp] theorem fieldT_75_1 : fieldT Tryz.prog 75 1 = some (3, 1) := by kernel_rfl
@[simp] theorem fieldT_75_2 : fieldT Tryz.prog 75 2 = some (74, 2) := by kernel_rfl
@[simp] theorem zeroT_75 : zeroT Tryz.prog 75 = some [.int .i64 0, .int .i64 0, .int .i64 0, .int .i64 0] := by kernel_rfl
@[simp] theorem szOf_76 : szOf Tryz.prog 76 = some 4 := by kernel_rfl
@[simp] theorem aggT_76 : aggT Tryz.prog 76 = some true := by kernel_rfl
@[simp] theorem strT_76 : strT Tryz.prog 76 = false := by kernel_rfl
@[simp] theorem boolT_76 : boolT Tryz.prog 76 = false := by kernel_rfl
@[simp] theorem elemT_76 : elemT Tryz.prog 76 = none := by kernel_rfl
@[simp] theorem rowT_76 : rowT Tryz.prog 76 = none := by kernel_rfl
@[simp] theorem structT_76 : structT Tryz.prog 76 = some [(0, 1), (1, 1), (2, 2)] := by kernel_rfl
@[simp] theorem fieldT_76_0 : fieldT Tryz.prog 76 0 = some (3, 0) := by kernel_rfl
@[simp] theorem fieldT_76_1 : fieldT Tryz.prog 76 1 = some (3, 1) := by kernel_rfl
@[simp] theorem fieldT_76_2 : fieldT Tryz.prog 76 2 = some (74, 2) := by kernel_rfl
@[simp] theorem zeroT_76 : zeroT Tryz.prog 76 = some [.int .i64 0, .int .i64 0, .int .i64 0, .int .i64 0] := by kernel_rfl
@[simp] theorem szOf_77 : szOf Tryz.prog 77 = some 5 := by kernel_rfl
@[simp] theorem aggT_77 : aggT Tryz.prog 77 = some true := by kernel_rfl
@[simp] theorem strT_77 : strT Tryz.prog 77 = false := by kernel_rfl
@[simp] theorem boolT_77 : boolT Tryz.prog 77 = false := by kernel_rfl
@[simp] theorem elemT_77 : elemT Tryz.prog 77 = none := by kernel_rfl
@[simp] theorem rowT_77 : rowT Tryz.prog 77 = none := by kernel_rfl
@[simp] theorem structT_77 : structT Tryz.prog 77 = some [(0, 1), (1, 2), (3, 2)] := by kernel_rfl
@[simp] theorem fieldT_77_0 : fieldT Tryz.prog 77 0 = some (3, 0) := by kernel_rfl
@[simp] theorem fieldT_77_1 : fieldT Tryz.prog 77 1 = some (74, 1) := by kernel_rfl
@[simp] theorem fieldT_77_2 : fieldT Tryz.prog 77 2 = some (74, 3) := by kernel_rfl
@[simp] theorem zeroT_77 : zeroT Tryz.prog 77 = some [.int .i64 0, .int .i64 0, .int .i64 0, .int .i64 0, .int .i64 0] := by kernel_rfl
@[simp] theorem szOf_78 : szOf Tryz.prog 78 = some 5 := by kernel_rfl
@[simp] theorem aggT_78 : aggT Tryz.prog 78 = some true := by kernel_rfl
@[simp] theorem strT_78 : strT Tryz.prog 78 = false := by kernel_rfl
@[simp] theorem boolT_78 : boolT Tryz.prog 78 = false := by kernel_rfl
@[simp] theorem elemT_78 : elemT Tryz.prog 78 = none := by kernel_rfl
@[simp] theorem rowT_78 : rowT Tryz.prog 78 = none := by kernel_rfl
@[simp] theorem structT_78 : structT Tryz.prog 78 = some [(0, 1), (1, 2), (3, 2)] := by kernel_rfl
@[simp] theorem fieldT_78_0 : fieldT Tryz.prog 78 0 = some (3, 0) := by kernel_rfl
@[simp] theorem fieldT_78_1 : fieldT Tryz.prog 78 1 = some (74, 1) := by kernel_rfl
@[simp] theorem fieldT_78_2 : fieldT Tryz.prog 78 2 = some (74, 3) := by kernel_rfl
@[simp] theorem zeroT_78 : zeroT Tryz.prog 78 = some [.int .i64 0, .int .i64 0, .int .i64 0, .int .i64 0, .int .i64 0] := by kernel_rfl
@[simp] theorem szOf_79 : szOf Tryz.prog 79 = some 1 := by kernel_rfl
@[simp] theorem aggT_79 : aggT Tryz.prog 79 = some false := by kernel_rfl
@[simp] theorem strT_79 : strT Tryz.prog 79 = false := by kernel_rfl
@[simp] theorem boolT_79 : boolT Tryz.prog 79 = false := by kernel_rfl
@[simp] theorem elemT_79 : elemT Tryz.prog 79 = none := by kernel_rfl
@[simp] theorem rowT_79 : rowT Tryz.prog 79 = none := by kernel_rfl
@[simp] theorem zeroT_79 : zeroT Tryz.prog 79 = some [.nilFunc] := by kernel_rfl
@[simp] theorem szOf_80 : szOf Tryz.prog 80 = some 1 := by kernel_rfl
@[simp] theorem aggT_80 : aggT Tryz.prog 80 = some false := by kernel_rfl
@[simp] theorem strT_80 : strT Tryz.prog 80 = false := by kernel_rfl
@[simp] theorem boolT_80 : boolT Tryz.prog 80 = false := by kernel_rfl
@[simp] theorem elemT_80 : elemT Tryz.prog 80 = none := by kernel_rfl
@[simp] theorem rowT_80 : rowT Tryz.prog 80 = none := by kernel_rfl
@[simp] theorem zeroT_80 : zeroT Tryz.prog 80 = some [.nilFunc] := by kernel_rfl
@[simp] theorem szOf_81 : szOf Tryz.prog 81 = some 1 := by kernel_rfl
@[simp] theorem aggT_81 : aggT Tryz.prog 81 = some false := by kernel_rfl
@[simp] theorem strT_81 : strT Tryz.prog 81 = false := by kernel_rfl
@[simp] theorem boolT_81 : boolT Tryz.prog 81 = false := by kernel_rfl
@[simp] theorem elemT_81 : elemT Tryz.prog 81 = none := by kernel_rfl
@[simp] theorem rowT_81 : rowT Tryz.prog 81 = none := by kernel_rfl
@[simp] theorem zeroT_81 : zeroT Tryz.prog 81 = some [.nilFunc] := by kernel_rfl
@[simp] theorem szOf_82 : szOf Tryz.prog 82 = some 1 := by kernel_rfl
@[simp] theorem aggT_82 : aggT Tryz.prog 82 = some false := by kernel_rfl
@[simp] theorem strT_82 : strT Tryz.prog 82 = false := by kernel_rfl
@[simp] theorem boolT_82 : boolT Tryz.prog 82 = false := by kernel_rfl
@[simp] theorem elemT_82 : elemT Tryz.prog 82 = none := by kernel_rfl
@[simp] theorem rowT_82 : rowT Tryz.prog 82 = none := by kernel_rfl
@[simp] theorem zeroT_82 : zeroT Tryz.prog 82 = some [.pointer none] := by kernel_rfl
@[simp] theorem szOf_83 : szOf Tryz.prog 83 = some 1 := by kernel_rfl
@[simp] theorem aggT_83 : aggT Tryz.prog 83 = some false := by kernel_rfl
@[simp] theorem strT_83 : strT Tryz.prog 83 = false := by kernel_rfl
@[simp] theorem boolT_83 : boolT Tryz.prog 83 = false := by kernel_rfl
@[simp] theorem elemT_83 : elemT Tryz.prog 83 = none := by kernel_rfl
@[simp] theorem rowT_83 : rowT Tryz.prog 83 = none := by kernel_rfl
@[simp] theorem zeroT_83 : zeroT Tryz.prog 83 = some [.nilFunc] := by kernel_rfl
@[simp] theorem szOf_84 : szOf Tryz.prog 84 = some 1 := by kernel_rfl
@[simp] theorem aggT_84 : aggT Tryz.prog 84 = some false := by kernel_rfl
@[simp] theorem strT_84 : strT Tryz.prog 84 = false := by kernel_rfl
@[simp] theorem boolT_84 : boolT Tryz.prog 84 = false := by kernel_rfl
@[simp] theorem elemT_84 : elemT Tryz.prog 84 = none := by kernel_rfl
@[simp] theorem rowT_84 : rowT Tryz.prog 84 = none := by kernel_rfl
@[simp] theorem zeroT_84 : zeroT Tryz.prog 84 = some [.nilFunc] := by kernel_rfl
@[simp] theorem szOf_85 : szOf Tryz.prog 85 = some 7 := by kernel_rfl
@[simp] theorem aggT_85 : aggT Tryz.prog 85 = some true := by kernel_rfl
@[simp] theorem strT_85 : strT Tryz.prog 85 = false := by kernel_rfl
@[simp] theorem boolT_85 : boolT Tryz.prog 85 = false := by kernel_rfl
@[simp] theorem elemT_85 : elemT Tryz.prog 85 = none := by kernel_rfl
@[simp] theorem rowT_85 : rowT Tryz.prog 85 = none := by kernel_rfl
@[simp] theorem structT_85 : structT Tryz.prog 85 = some [(0, 2), (2, 2), (4, 1), (5, 1), (6, 1)] := by kernel_rfl
@[simp] theorem fieldT_85_0 : fieldT Tryz.prog 85 0 = some (25, 0) := by kernel_rfl
@[simp] theorem fieldT_85_1 : fieldT Tryz.prog 85 1 = some (25, 2) := by kernel_rfl
@[simp] theorem fieldT_85_2 : fieldT Tryz.prog 85 2 = some (22, 4) := by kernel_rfl
@[simp] theorem fieldT_85_3 : fieldT Tryz.prog 85 3 = some (22, 5) := by kernel_rfl
@[simp] theorem fieldT_85_4 : fieldT Tryz.prog 85 4 = some (84, 6) := by kernel_rfl
@[simp] theorem zeroT_85 : zeroT Tryz.prog 85 = some [.slice none 0 0, .slice none 0 0, .slice none 0 0, .slice none 0 0, .slice none 0 0, .slice none 0 0, .nilFunc] := by kernel_rfl
@[simp] theorem szOf_86 : szOf Tryz.prog 86 = some 7 := by kernel_rfl
@[simp] theorem aggT_86 : aggT Tryz.prog 86 = some true := by kernel_rfl
@[simp] theorem strT_86 : strT Tryz.prog 86 = false := by kernel_rfl
@[simp] theorem boolT_86 : boolT Tryz.prog 86 = false := by kernel_rfl
@[simp] theorem elemT_86 : elemT Tryz.prog 86 = none := by kernel_rfl
@[simp] theorem rowT_86 : rowT Tryz.prog 86 = none := by kernel_rfl
@[simp] theorem structT_86 : structT Tryz.prog 86 = some [(0, 2), (2, 2), (4, 1), (5, 1), (6, 1)] := by kernel_rfl
@[simp] theorem fieldT_86_0 : fieldT Tryz.prog 86 0 = some (25, 0) := by kernel_rfl
@[simp] theorem fieldT_86_1 : fieldT Tryz.prog 86 1 = some (25, 2) := by kernel_rfl
@[simp] theorem fieldT_86_2 : fieldT Tryz.prog 86 2 = some (22, 4) := by kernel_rfl
@[simp] theorem fieldT_86_3 : fieldT Tryz.prog 86 3 = some (22, 5) := by kernel_rfl
@[simp] theorem fieldT_86_4 : fieldT Tryz.prog 86 4 = some (84, 6) := by kernel_rfl
@[simp] theorem zeroT_86 : zeroT Tryz.prog 86 = some [.slice none 0 0, .slice none 0 0, .slice none 0 0, .slice none 0 0, .slice none 0 0, .slice none 0 0, .nilFunc] := by kernel_rfl
@[simp] theorem szOf_87 : szOf Tryz.prog 87 = some 1 := by kernel_rfl
@[simp] theorem aggT_87 : aggT Tryz.prog 87 = some false := by kernel_rfl
@[simp] theorem strT_87 : strT Tryz.prog 87 = false := by kernel_rfl
@[simp] theorem boolT_87 : boolT Tryz.prog 87 = false := by kernel_rfl
@[simp] theorem elemT_87 : elemT Tryz.prog 87 = some 28 := by kernel_rfl
@[simp] theorem rowT_87 : rowT Tryz.prog 87 = some (28, 2, 48) := by kernel_rfl
@[simp] theorem makeT_87 : makeT Tryz.prog 87 = some (2, 48, [.slice none 0 0, .slice none 0 0]) := by kernel_rfl
@[simp] theorem zeroT_87 : zeroT Tryz.prog 87 = some [.slice none 0 0] := by kernel_rfl
@[simp] theorem szOf_88 : szOf Tryz.prog 88 = some 1 := by kernel_rfl
@[simp] theorem aggT_88 : aggT Tryz.prog 88 = some false := by kernel_rfl
@[simp] theorem strT_88 : strT Tryz.prog 88 = false := by kernel_rfl
@[simp] theorem boolT_88 : boolT Tryz.prog 88 = false := by kernel_rfl
@[simp] theorem elemT_88 : elemT Tryz.prog 88 = none := by kernel_rfl
@[simp] theorem rowT_88 : rowT Tryz.prog 88 = none := by kernel_rfl
@[simp] theorem zeroT_88 : zeroT Tryz.prog 88 = some [.nilFunc] := by kernel_rfl
@[simp] theorem szOf_89 : szOf Tryz.prog 89 = some 1 := by kernel_rfl
@[simp] theorem aggT_89 : aggT Tryz.prog 89 = some false := by kernel_rfl
@[simp] theorem strT_89 : strT Tryz.prog 89 = false := by kernel_rfl
@[simp] theorem boolT_89 : boolT Tryz.prog 89 = false := by kernel_rfl
@[simp] theorem elemT_89 : elemT Tryz.prog 89 = none := by kernel_rfl
@[simp] theorem rowT_89 : rowT Tryz.prog 89 = none := by kernel_rfl
@[simp] theorem zeroT_89 : zeroT Tryz.prog 89 = some [.pointer none] := by kernel_rfl
@[simp] theorem szOf_90 : szOf Tryz.prog 90 = some 2 := by kernel_rfl
@[simp] theorem aggT_90 : aggT Tryz.prog 90 = some true := by kernel_rfl
@[simp] theorem strT_90 : strT Tryz.prog 90 = false := by kernel_rfl
@[simp] theorem boolT_90 : boolT Tryz.prog 90 = false := by kernel_rfl
@[simp] theorem elemT_90 : elemT Tryz.prog 90 = none := by kernel_rfl
@[simp] theorem rowT_90 : rowT Tryz.prog 90 = none := by kernel_rfl
@[simp] theorem eqT_90 : eqT Tryz.prog 90 = some 2 := by kernel_rfl
@[simp] theorem structT_90 : structT Tryz.prog 90 = some [(0, 1), (1, 1)] := by kernel_rfl
@[simp] theorem fieldT_90_0 : fieldT Tryz.prog 90 0 = some (3, 0) := by kernel_rfl
@[simp] theorem fieldT_90_1 : fieldT Tryz.prog 90 1 = some (39, 1) := by kernel_rfl
@[simp] theorem zeroT_90 : zeroT Tryz.prog 90 = some [.int .i64 0, .int .i64 0] := by kernel_rfl
@[simp] theorem szOf_91 : szOf Tryz.prog 91 = some 2 := by kernel_rfl
@[simp] theorem aggT_91 : aggT Tryz.prog 91 = some true := by kernel_rfl
@[simp] theorem strT_91 : strT Tryz.prog 91 = false := by kernel_rfl
@[simp] theorem boolT_91 : boolT Tryz.prog 91 = false := by kernel_rfl
@[simp] theorem elemT_91 : elemT Tryz.prog 91 = none := by kernel_rfl
@[simp] theorem rowT_91 : rowT Tryz.prog 91 = none := by kernel_rfl
@[simp] theorem eqT_91 : eqT Tryz.prog 91 = some 2 := by kernel_rfl
@[simp] theorem structT_91 : structT Tryz.prog 91 = some [(0, 1), (1, 1)] := by kernel_rfl
@[simp] theorem fieldT_91_0 : fieldT Tryz.prog 91 0 = some (3, 0) := by kernel_rfl
@[simp] theorem fieldT_91_1 : fieldT Tryz.prog 91 1 = some (39, 1) := by kernel_rfl
@[simp] theorem zeroT_91 : zeroT Tryz.prog 91 = some [.int .i64 0, .int .i64 0] := by kernel_rfl
@[simp] theorem szOf_92 : szOf Tryz.prog 92 = some 1 := by kernel_rfl
@[simp] theorem aggT_92 : aggT Tryz.prog 92 = some false := by kernel_rfl
@[simp] theorem strT_92 : strT Tryz.prog 92 = false := by kernel_rfl
@[simp] theorem boolT_92 : boolT Tryz.prog 92 = false := by kernel_rfl
@[simp] theorem elemT_92 : elemT Tryz.prog 92 = some 97 := by kernel_rfl
@[simp] theorem rowT_92 : rowT Tryz.prog 92 = some (97, 6, 144) := by kernel_rfl
@[simp] theorem makeT_92 : makeT Tryz.prog 92 = some (6, 144, [.slice none 0 0, .slice none 0 0, .slice none 0 0, .slice none 0 0, .slice none 0 0, .slice none 0 0]) := by kernel_rfl
@[simp] theorem zeroT_92 : zeroT Tryz.prog 92 = some [.slice none 0 0] := by kernel_rfl
@[simp] theorem szOf_94 : szOf Tryz.prog 94 = some 1 := by kernel_rfl
@[simp] theorem aggT_94 : aggT Tryz.prog 94 = some false := by kernel_rfl
@[simp] theorem strT_94 : strT Tryz.prog 94 = false := by kernel_rfl
@[simp] theorem boolT_94 : boolT Tryz.prog 94 = false := by kernel_rfl
@[simp] theorem elemT_94 : elemT Tryz.prog 94 = none := by kernel_rfl
@[simp] theorem rowT_94 : rowT Tryz.prog 94 = none := by kernel_rfl
@[simp] theorem zeroT_94 : zeroT Tryz.prog 94 = some [.nilFunc] := by kernel_rfl
@[simp] theorem szOf_95 : szOf Tryz.prog 95 = some 1 := by kernel_rfl
@[simp] theorem aggT_95 : aggT Tryz.prog 95 = some false := by kernel_rfl
@[simp] theorem strT_95 : strT Tryz.prog 95 = false := by kernel_rfl
@[simp] theorem boolT_95 : boolT Tryz.prog 95 = false := by kernel_rfl
@[simp] theorem elemT_95 : elemT Tryz.prog 95 = none := by kernel_rfl
@[simp] theorem rowT_95 : rowT Tryz.prog 95 = none := by kernel_rfl
@[simp] theorem zeroT_95 : zeroT Tryz.prog 95 = some [.nilFunc] := by kernel_rfl
@[simp] theorem szOf_96 : szOf Tryz.prog 96 = some 6 := by kernel_rfl
@[simp] theorem aggT_96 : aggT Tryz.prog 96 = some true := by kernel_rfl
@[simp] theorem strT_96 : strT Tryz.prog 96 = false := by kernel_rfl
@[simp] theorem boolT_96 : boolT Tryz.prog 96 = false := by kernel_rfl
@[simp] theorem elemT_96 : elemT Tryz.prog 96 = none := by kernel_rfl
@[simp] theorem rowT_96 : rowT Tryz.prog 96 = none := by kernel_rfl
@[simp] theorem structT_96 : structT Tryz.prog 96 = some [(0, 2), (2, 2), (4, 2)] := by kernel_rfl
@[simp] theorem fieldT_96_0 : fieldT Tryz.prog 96 0 = some (25, 0) := by kernel_rfl
@[simp] theorem fieldT_96_1 : fieldT Tryz.prog 96 1 = some (28, 2) := by kernel_rfl
@[simp] theorem fieldT_96_2 : fieldT Tryz.prog 96 2 = some (28, 4) := by kernel_rfl
@[simp] theorem zeroT_96 : zeroT Tryz.prog 96 = some [.slice none 0 0, .slice none 0 0, .slice none 0 0, .slice none 0 0, .slice none 0 0, .slice none 0 0] := by kernel_rfl
@[simp] theorem szOf_97 : szOf Tryz.prog 97 = some 6 := by kernel_rfl
@[simp] theorem aggT_97 : aggT Tryz.prog 97 = some true := by kernel_rfl
@[simp] theorem strT_97 : strT Tryz.prog 97 = false := by kernel_rfl
@[simp] theorem boolT_97 : boolT Tryz.prog 97 = false := by kernel_rfl
@[simp] theorem elemT_97 : elemT Tryz.prog 97 = none := by kernel_rfl
@[simp] theorem rowT_97 : rowT Tryz.prog 97 = none := by kernel_rfl
@[simp] theorem structT_97 : structT Tryz.prog 97 = some [(0, 2), (2, 2), (4, 2)] := by kernel_rfl
@[simp] theorem fieldT_97_0 : fieldT Tryz.prog 97 0 = some (25, 0) := by kernel_rfl
@[simp] theorem fieldT_97_1 : fieldT Tryz.prog 97 1 = some (28, 2) := by kernel_rfl
@[simp] theorem fieldT_97_2 : fieldT Tryz.prog 97 2 = some (28, 4) := by kernel_rfl
@[simp] theorem zeroT_97 : zeroT Tryz.prog 97 = some [.slice none 0 0, .slice none 0 0, .slice none 0 0, .slice none 0 0, .slice none 0 0, .slice none 0 0] := by kernel_rfl
@[simp] theorem szOf_98 : szOf Tryz.prog 98 = some 1 := by kernel_rfl
@[simp] theorem aggT_98 : aggT Tryz.prog 98 = some false := by kernel_rfl
@[simp] theorem strT_98 : strT Tryz.prog 98 = false := by kernel_rfl
@[simp] theorem boolT_98 : boolT Tryz.prog 98 = false := by kernel_rfl
@[simp] theorem elemT_98 : elemT Tryz.prog 98 = none := by kernel_rfl
@[simp] theorem rowT_98 : rowT Tryz.prog 98 = none := by kernel_rfl
@[simp] theorem zeroT_98 : zeroT Tryz.prog 98 = some [.nilFunc] := by kernel_rfl
@[simp] theorem szOf_99 : szOf Tryz.prog 99 = some 1 := by kernel_rfl
@[simp] theorem aggT_99 : aggT Tryz.prog 99 = some false := by kernel_rfl
@[simp] theorem strT_99 : strT Tryz.prog 99 = false := by kernel_rfl
@[simp] theorem boolT_99 : boolT Tryz.prog 99 = false := by kernel_rfl
@[simp] theorem elemT_99 : elemT Tryz.prog 99 = none := by kernel_rfl
@[simp] theorem rowT_99 : rowT Tryz.prog 99 = none := by kernel_rfl
@[simp] theorem zeroT_99 : zeroT Tryz.prog 99 = some [.nilFunc] := by kernel_rfl
@[simp] theorem szOf_100 : szOf Tryz.prog 100 = some 1 := by kernel_rfl
@[simp] theorem aggT_100 : aggT Tryz.prog 100 = some false := by kernel_rfl
@[simp] theorem strT_100 : strT Tryz.prog 100 = false := by kernel_rfl
@[simp] theorem boolT_100 : boolT Tryz.prog 100 = false := by kernel_rfl
@[simp] theorem elemT_100 : elemT Tryz.prog 100 = none := by kernel_rfl
@[simp] theorem rowT_100 : rowT Tryz.prog 100 = none := by kernel_rfl
@[simp] theorem zeroT_100 : zeroT Tryz.prog 100 = some [.nilFunc] := by kernel_rfl
@[simp] theorem szOf_101 : szOf Tryz.prog 101 = some 1 := by kernel_rfl
@[simp] theorem aggT_101 : aggT Tryz.prog 101 = some false := by kernel_rfl
@[simp] theorem strT_101 : strT Tryz.prog 101 = false := by kernel_rfl
@[simp] theorem boolT_101 : boolT Tryz.prog 101 = false := by kernel_rfl
@[simp] theorem elemT_101 : elemT Tryz.prog 101 = none := by kernel_rfl
@[simp] theorem rowT_101 : rowT Tryz.prog 101 = none := by kernel_rfl
@[simp] theorem zeroT_101 : zeroT Tryz.prog 101 = some [.nilFunc] := by kernel_rfl
@[simp] theorem szOf_102 : szOf Tryz.prog 102 = some 1 := by kernel_rfl
@[simp] theorem aggT_102 : aggT Tryz.prog 102 = some false := by kernel_rfl
@[simp] theorem strT_102 : strT Tryz.prog 102 = false := by kernel_rfl
@[simp] theorem boolT_102 : boolT Tryz.prog 102 = false := by kernel_rfl
@[simp] theorem elemT_102 : elemT Tryz.prog 102 = none := by kernel_rfl
@[simp] theorem rowT_102 : rowT Tryz.prog 102 = none := by kernel_rfl
@[simp] theorem zeroT_102 : zeroT Tryz.prog 102 = some [.nilFunc] := by kernel_rfl
@[simp] theorem szOf_103 : szOf Tryz.prog 103 = some 1 := by kernel_rfl
@[simp] theorem aggT_103 : aggT Tryz.prog 103 = some false := by kernel_rfl
@[simp] theorem strT_103 : strT Tryz.prog 103 = false := by kernel_rfl
@[simp] theorem boolT_103 : boolT Tryz.prog 103 = false := by kernel_rfl
@[simp] theorem elemT_103 : elemT Tryz.prog 103 = none := by kernel_rfl
@[simp] theorem rowT_103 : rowT Tryz.prog 103 = none := by kernel_rfl
@[simp] theorem zeroT_103 : zeroT Tryz.prog 103 = some [.nilFunc] := by kernel_rfl
@[simp] theorem szOf_104 : szOf Tryz.prog 104 = some 1 := by kernel_rfl
@[simp] theorem aggT_104 : aggT Tryz.prog 104 = some false := by kernel_rfl
@[simp] theorem strT_104 : strT Tryz.prog 104 = false := by kernel_rfl
@[simp] theorem boolT_104 : boolT Tryz.prog 104 = false := by kernel_rfl
@[simp] theorem elemT_104 : elemT Tryz.prog 104 = none := by kernel_rfl
@[simp] theorem rowT_104 : rowT Tryz.prog 104 = none := by kernel_rfl
@[simp] theorem zeroT_104 : zeroT Tryz.prog 104 = some [.nilFunc] := by kernel_rfl
@[simp] theorem szOf_105 : szOf Tryz.prog 105 = some 1 := by kernel_rfl
@[simp] theorem aggT_105 : aggT Tryz.prog 105 = some false := by kernel_rfl
@[simp] theorem strT_105 : strT Tryz.prog 105 = false := by kernel_rfl
@[simp] theorem boolT_105 : boolT Tryz.prog 105 = false := by kernel_rfl
@[simp] theorem elemT_105 : elemT Tryz.prog 105 = none := by kernel_rfl
@[simp] theorem rowT_105 : rowT Tryz.prog 105 = none := by kernel_rfl
@[simp] theorem zeroT_105 : zeroT Tryz.prog 105 = some [.nilFunc] := by kernel_rfl
@[simp] theorem szOf_106 : szOf Tryz.prog 106 = some 1 := by kernel_rfl
@[simp] theorem aggT_106 : aggT Tryz.prog 106 = some false := by kernel_rfl
@[simp] theorem strT_106 : strT Tryz.prog 106 = false := by kernel_rfl
@[simp] theorem boolT_106 : boolT Tryz.prog 106 = false := by kernel_rfl
@[simp] theorem elemT_106 : elemT Tryz.prog 106 = none := by kernel_rfl
@[simp] theorem rowT_106 : rowT Tryz.prog 106 = none := by kernel_rfl
@[simp] theorem zeroT_106 : zeroT Tryz.prog 106 = some [.nilFunc] := by kernel_rfl
@[simp] theorem szOf_107 : szOf Tryz.prog 107 = some 1 := by kernel_rfl
@[simp] theorem aggT_107 : aggT Tryz.prog 107 = some false := by kernel_rfl
@[simp] theorem strT_107 : strT Tryz.prog 107 = false := by kernel_rfl
@[simp] theorem boolT_107 : boolT Tryz.prog 107 = false := by kernel_rfl
@[simp] theorem elemT_107 : elemT Tryz.prog 107 = none := by kernel_rfl
@[simp] theorem rowT_107 : rowT Tryz.prog 107 = none := by kernel_rfl
@[simp] theorem zeroT_107 : zeroT Tryz.prog 107 = some [.nilFunc] := by kernel_rfl
@[simp] theorem szOf_108 : szOf Tryz.prog 108 = some 1 := by kernel_rfl
@[simp] theorem aggT_108 : aggT Tryz.prog 108 = some false := by kernel_rfl
@[simp] theorem strT_108 : strT Tryz.prog 108 = false := by kernel_rfl
@[simp] theorem boolT_108 : boolT Tryz.prog 108 = false := by kernel_rfl
@[simp] theorem elemT_108 : elemT Tryz.prog 108 = none := by kernel_rfl
@[simp] theorem rowT_108 : rowT Tryz.prog 108 = none := by kernel_rfl
@[simp] theorem zeroT_108 : zeroT Tryz.prog 108 = some [.pointer none] := by kernel_rfl
@[simp] theorem szOf_109 : szOf Tryz.prog 109 = some 9 := by kernel_rfl
@[simp] theorem aggT_109 : aggT Tryz.prog 109 = some true := by kernel_rfl
@[simp] theorem strT_109 : strT Tryz.prog 109 = false := by kernel_rfl
@[simp] theorem boolT_109 : boolT Tryz.prog 109 = false := by kernel_rfl
@[simp] theorem elemT_109 : elemT Tryz.prog 109 = none := by kernel_rfl
@[simp] theorem rowT_109 : rowT Tryz.prog 109 = none := by kernel_rfl
@[simp] theorem structT_109 : structT Tryz.prog 109 = some [(0, 2), (2, 2), (4, 2), (6, 2), (8, 1)] := by kernel_rfl
@[simp] theorem fieldT_109_0 : fieldT Tryz.prog 109 0 = some (25, 0) := by kernel_rfl
@[simp] theorem fieldT_109_1 : fieldT Tryz.prog 109 1 = some (25, 2) := by kernel_rfl
@[simp] theorem fieldT_109_2 : fieldT Tryz.prog 109 2 = some (28, 4) := by kernel_rfl
@[simp] theorem fieldT_109_3 : fieldT Tryz.prog 109 3 = some (28, 6) := by kernel_rfl
@[simp] theorem fieldT_109_4 : fieldT Tryz.prog 109 4 = some (87, 8) := by kernel_rfl
@[simp] theorem zeroT_109 : zeroT Tryz.prog 109 = some [.slice none 0 0, .slice none 0 0, .slice none 0 0, .slice none 0 0, .slice none 0 0, .slice none 0 0, .slice none 0 0, .slice none 0 0, .slice none 0 0] := by kernel_rfl
@[simp] theorem szOf_110 : szOf Tryz.prog 110 = some 9 := by kernel_rfl
@[simp] theorem aggT_110 : aggT Tryz.prog 110 = some true := by kernel_rfl
@[simp] theorem strT_110 : strT Tryz.prog 110 = false := by kernel_rfl
@[simp] theorem boolT_110 : boolT Tryz.prog 110 = false := by kernel_rfl
@[simp] theorem elemT_110 : elemT Tryz.prog 110 = none := by kernel_rfl
@[simp] theorem rowT_110 : rowT Tryz.prog 110 = none := by kernel_rfl
@[simp] theorem structT_110 : structT Tryz.prog 110 = some [(0, 2), (2, 2), (4, 2), (6, 2), (8, 1)] := by kernel_rfl
@[simp] theorem fieldT_110_0 : fieldT Tryz.prog 110 0 = some (25, 0) := by kernel_rfl
@[simp] theorem fieldT_110_1 : fieldT Tryz.prog 110 1 = some (25, 2) := by kernel_rfl
@[simp] theorem fieldT_110_2 : fieldT Tryz.prog 110 2 = some (28, 4) := by kernel_rfl
@[simp] theorem fieldT_110_3 : fieldT Tryz.prog 110 3 = some (28, 6) := by kernel_rfl
@[simp] theorem fieldT_110_4 : fieldT Tryz.prog 110 4 = some (87, 8) := by kernel_rfl
@[simp] theorem zeroT_110 : zeroT Tryz.prog 110 = some [.slice none 0 0, .slice none 0 0, .slice none 0 0, .slice none 0 0, .slice none 0 0, .slice none 0 0, .slice none 0 0, .slice none 0 0, .slice none 0 0] := by kernel_rfl
@[simp] theorem szOf_111 : szOf Tryz.prog 111 = some 1 := by kernel_rfl
@[simp] theorem aggT_111 : aggT Tryz.prog 111 = some false := by kernel_rfl
@[simp] theorem strT_111 : strT Tryz.prog 111 = false := by kernel_rfl
@[simp] theorem boolT_111 : boolT Tryz.prog 111 = false := by kernel_rfl
@[simp] theorem elemT_111 : elemT Tryz.prog 111 = none := by kernel_rfl
@[simp] theorem rowT_111 : rowT Tryz.prog 111 = none := by kernel_rfl
@[simp] theorem zeroT_111 : zeroT Tryz.prog 111 = some [.nilFunc] := by kernel_rfl
@[simp] theorem szOf_112 : szOf Tryz.prog 112 = some 1 := by kernel_rfl
@[simp] theorem aggT_112 : aggT Tryz.prog 112 = some false := by kernel_rfl
@[simp] theorem strT_112 : strT Tryz.prog 112 = false := by kernel_rfl
@[simp] theorem boolT_112 : boolT Tryz.prog 112 = false := by kernel_rfl
@[simp] theorem elemT_112 : elemT Tryz.prog 112 = none := by kernel_rfl
@[simp] theorem rowT_112 : rowT Tryz.prog 112 = none := by kernel_rfl
@[simp] theorem zeroT_112 : zeroT Tryz.prog 112 = some [.nilFunc] := by kernel_rfl
@[simp] theorem szOf_113 : szOf Tryz.prog 113 = some 1 := by kernel_rfl
@[simp] theorem aggT_113 : aggT Tryz.prog 113 = some false := by kernel_rfl
@[simp] theorem strT_113 : strT Tryz.prog 113 = false := by kernel_rfl
@[simp] theorem boolT_113 : boolT Tryz.prog 113 = false := by kernel_rfl
@[simp] theorem elemT_113 : elemT Tryz.prog 113 = none := by kernel_rfl
@[simp] theorem rowT_113 : rowT Tryz.prog 113 = none := by kernel_rfl
@[simp] theorem zeroT_113 : zeroT Tryz.prog 113 = some [.pointer none] := by kernel_rfl
@[simp] theorem szOf_114 : szOf Tryz.prog 114 = some 5 := by kernel_rfl
@[simp] theorem aggT_114 : aggT Tryz.prog 114 = some true := by kernel_rfl
@[simp] theorem strT_114 : strT Tryz.prog 114 = false := by kernel_rfl
@[simp] theorem boolT_114 : boolT Tryz.prog 114 = false := by kernel_rfl
@[simp] theorem elemT_114 : elemT Tryz.prog 114 = none := by kernel_rfl
@[simp] theorem rowT_114 : rowT Tryz.prog 114 = none := by kernel_rfl
@[simp] theorem structT_114 : structT Tryz.prog 114 = some [(0, 2), (2, 2), (4, 1)] := by kernel_rfl
@[simp] theorem fieldT_114_0 : fieldT Tryz.prog 114 0 = some (25, 0) := by kernel_rfl
@[simp] theorem fieldT_114_1 : fieldT Tryz.prog 114 1 = some (25, 2) := by kernel_rfl
@[simp] theorem fieldT_114_2 : fieldT Tryz.prog 114 2 = some (92, 4) := by kernel_rfl
@[simp] theorem zeroT_114 : zeroT Tryz.prog 114 = some [.slice none 0 0, .slice none 0 0, .slice none 0 0, .slice none 0 0, .slice none 0 0] := by kernel_rfl
@[simp] theorem szOf_115 : szOf Tryz.prog 115 = some 5 := by kernel_rfl
@[simp] theorem aggT_115 : aggT Tryz.prog 115 = some true := by kernel_rfl
@[simp] theorem strT_115 : strT Tryz.prog 115 = false := by kernel_rfl
@[simp] theorem boolT_115 : boolT Tryz.prog 115 = false := by kernel_rfl
@[simp] theorem elemT_115 : elemT Tryz.prog 115 = none := by kernel_rfl
@[simp] theorem rowT_115 : rowT Tryz.prog 115 = none := by kernel_rfl
@[simp] theorem structT_115 : structT Tryz.prog 115 = some [(0, 2), (2, 2), (4, 1)] := by kernel_rfl
@[simp] theorem fieldT_115_0 : fieldT Tryz.prog 115 0 = some (25, 0) := by kernel_rfl
@[simp] theorem fieldT_115_1 : fieldT Tryz.prog 115 1 = some (25, 2) := by kernel_rfl
@[simp] theorem fieldT_115_2 : fieldT Tryz.prog 115 2 = some (92, 4) := by kernel_rfl
@[simp] theorem zeroT_115 : zeroT Tryz.prog 115 = some [.slice none 0 0, .slice none 0 0, .slice none 0 0, .slice none 0 0, .slice none 0 0] := by kernel_rfl
@[simp] theorem szOf_116 : szOf Tryz.prog 116 = some 1 := by kernel_rfl
@[simp] theorem aggT_116 : aggT Tryz.prog 116 = some false := by kernel_rfl
@[simp] theorem strT_116 : strT Tryz.prog 116 = false := by kernel_rfl
@[simp] theorem boolT_116 : boolT Tryz.prog 116 = false := by kernel_rfl
@[simp] theorem elemT_116 : elemT Tryz.prog 116 = none := by kernel_rfl
@[simp] theorem rowT_116 : rowT Tryz.prog 116 = none := by kernel_rfl
@[simp] theorem zeroT_116 : zeroT Tryz.prog 116 = some [.nilFunc] := by kernel_rfl
@[simp] theorem szOf_117 : szOf Tryz.prog 117 = some 1 := by kernel_rfl
@[simp] theorem aggT_117 : aggT Tryz.prog 117 = some false := by kernel_rfl
@[simp] theorem strT_117 : strT Tryz.prog 117 = false := by kernel_rfl
@[simp] theorem boolT_117 : boolT Tryz.prog 117 = false := by kernel_rfl
@[simp] theorem elemT_117 : elemT Tryz.prog 117 = none := by kernel_rfl
@[simp] theorem rowT_117 : rowT Tryz.prog 117 = none := by kernel_rfl
@[simp] theorem zeroT_117 : zeroT Tryz.prog 117 = some [.nilFunc] := by kernel_rfl
@[simp] theorem szOf_118 : szOf Tryz.prog 118 = some 1 := by kernel_rfl
@[simp] theorem aggT_118 : aggT Tryz.prog 118 = some false := by kernel_rfl
@[simp] theorem strT_118 : strT Tryz.prog 118 = false := by kernel_rfl
@[simp] theorem boolT_118 : boolT Tryz.prog 118 = false := by kernel_rfl
@[simp] theorem elemT_118 : elemT Tryz.prog 118 = none := by kernel_rfl
@[simp] theorem rowT_118 : rowT Tryz.prog 118 = none := by kernel_rfl
@[simp] theorem zeroT_118 : zeroT Tryz.prog 118 = some [.nilFunc] := by kernel_rfl
@[simp] theorem szOf_119 : szOf Tryz.prog 119 = some 1 := by kernel_rfl
@[simp] theorem aggT_119 : aggT Tryz.prog 119 = some false := by kernel_rfl
@[simp] theorem strT_119 : strT Tryz.prog 119 = false := by kernel_rfl
@[simp] theorem boolT_119 : boolT Tryz.prog 119 = false := by kernel_rfl
@[simp] theorem elemT_119 : elemT Tryz.prog 119 = none := by kernel_rfl
@[simp] theorem rowT_119 : rowT Tryz.prog 119 = none := by kernel_rfl
@[simp] theorem zeroT_119 : zeroT Tryz.prog 119 = some [.nilFunc] := by kernel_rfl
@[simp] theorem szOf_120 : szOf Tryz.prog 120 = some 1 := by kernel_rfl
@[simp] theorem aggT_120 : aggT Tryz.prog 120 = some false := by kernel_rfl
@[simp] theorem strT_120 : strT Tryz.prog 120 = false := by kernel_rfl
@[simp] theorem boolT_120 : boolT Tryz.prog 120 = false := by kernel_rfl
@[simp] theorem elemT_120 : elemT Tryz.prog 120 = none := by kernel_rfl
@[simp] theorem rowT_120 : rowT Tryz.prog 120 = none := by kernel_rfl
@[simp] theorem zeroT_120 : zeroT Tryz.prog 120 = some [.nilFunc] := by kernel_rfl
@[simp] theorem szOf_121 : szOf Tryz.prog 121 = some 1 := by kernel_rfl
@[simp] theorem aggT_121 : aggT Tryz.prog 121 = some false := by kernel_rfl
@[simp] theorem strT_121 : strT Tryz.prog 121 = false := by kernel_rfl
@[simp] theorem boolT_121 : boolT Tryz.prog 121 = false := by kernel_rfl
@[simp] theorem elemT_121 : elemT Tryz.prog 121 = none := by kernel_rfl
@[simp] theorem rowT_121 : rowT Tryz.prog 121 = none := by kernel_rfl
@[simp] theorem kindT_121 : kindT Tryz.prog 121 = some .u64 := by kernel_rfl
@[simp] theorem zeroT_121 : zeroT Tryz.prog 121 = some [.int .u64 0] := by kernel_rfl
@[simp] theorem szOf_123 : szOf Tryz.prog 123 = some 1 := by kernel_rfl
@[simp] theorem aggT_123 : aggT Tryz.prog 123 = some false := by kernel_rfl
@[simp] theorem strT_123 : strT Tryz.prog 123 = false := by kernel_rfl
@[simp] theorem boolT_123 : boolT Tryz.prog 123 = false := by kernel_rfl
@[simp] theorem elemT_123 : elemT Tryz.prog 123 = none := by kernel_rfl
@[simp] theorem rowT_123 : rowT Tryz.prog 123 = none := by kernel_rfl
@[simp] theorem zeroT_123 : zeroT Tryz.prog 123 = some [.nilFunc] := by kernel_rfl
@[simp] theorem szOf_124 : szOf Tryz.prog 124 = some 1 := by kernel_rfl
@[simp] theorem aggT_124 : aggT Tryz.prog 124 = some false := by kernel_rfl
@[simp] theorem strT_124 : strT Tryz.prog 124 = false := by kernel_rfl
@[simp] theorem boolT_124 : boolT Tryz.prog 124 = false := by kernel_rfl
@[simp] theorem elemT_124 : elemT Tryz.prog 124 = none := by kernel_rfl
@[simp] theorem rowT_124 : rowT Tryz.prog 124 = none := by kernel_rfl
@[simp] theorem zeroT_124 : zeroT Tryz.prog 124 = some [.nilFunc] := by kernel_rfl
@[simp] theorem szOf_125 : szOf Tryz.prog 125 = some 1 := by kernel_rfl
@[simp] theorem aggT_125 : aggT Tryz.prog 125 = some false := by kernel_rfl
@[simp] theorem strT_125 : strT Tryz.prog 125 = false := by kernel_rfl
@[simp] theorem boolT_125 : boolT Tryz.prog 125 = false := by kernel_rfl
@[simp] theorem elemT_125 : elemT Tryz.prog 125 = none := by kernel_rfl
@[simp] theorem rowT_125 : rowT Tryz.prog 125 = none := by kernel_rfl
@[simp] theorem zeroT_125 : zeroT Tryz.prog 125 = some [.nilFunc] := by kernel_rfl
@[simp] theorem szOf_126 : szOf Tryz.prog 126 = some 1 := by kernel_rfl
@[simp] theorem aggT_126 : aggT Tryz.prog 126 = some false := by kernel_rfl
@[simp] theorem strT_126 : strT Tryz.prog 126 = false := by kernel_rfl
@[simp] theorem boolT_126 : boolT Tryz.prog 126 = false := by kernel_rfl
@[simp] theorem elemT_126 : elemT Tryz.prog 126 = some 25 := by kernel_rfl
@[simp] theorem rowT_126 : rowT Tryz.prog 126 = some (25, 2, 48) := by kernel_rfl
@[simp] theorem makeT_126 : makeT Tryz.prog 126 = some (2, 48, [.slice none 0 0, .slice none 0 0]) := by kernel_rfl
@[simp] theorem zeroT_126 : zeroT Tryz.prog 126 = some [.slice none 0 0] := by kernel_rfl
@[simp] theorem szOf_127 : szOf Tryz.prog 127 = some 1 := by kernel_rfl
@[simp] theorem aggT_127 : aggT Tryz.prog 127 = some false := by kernel_rfl
@[simp] theorem strT_127 : strT Tryz.prog 127 = false := by kernel_rfl
@[simp] theorem boolT_127 : boolT Tryz.prog 127 = false := by kernel_rfl
@[simp] theorem elemT_127 : elemT Tryz.prog 127 = none := by kernel_rfl
@[simp] theorem rowT_127 : rowT Tryz.prog 127 = none := by kernel_rfl
@[simp] theorem zeroT_127 : zeroT Tryz.prog 127 = some [.pointer none] := by kernel_rfl
@[simp] theorem szOf_128 : szOf Tryz.prog 128 = some 5 := by kernel_rfl
@[simp] theorem aggT_128 : aggT Tryz.prog 128 = some true := by kernel_rfl
@[simp] theorem strT_128 : strT Tryz.prog 128 = false := by kernel_rfl
@[simp] theorem boolT_128 : boolT Tryz.prog 128 = false := by kernel_rfl
@[simp] theorem elemT_128 : elemT Tryz.prog 128 = none := by kernel_rfl
@[simp] theorem rowT_128 : rowT Tryz.prog 128 = none := by kernel_rfl
@[simp] theorem structT_128 : structT Tryz.prog 128 = some [(0, 2), (2, 2), (4, 1)] := by kernel_rfl
@[simp] theorem fieldT_128_0 : fieldT Tryz.prog 128 0 = some (25, 0) := by kernel_rfl
@[simp] theorem fieldT_128_1 : fieldT Tryz.prog 128 1 = some (25, 2) := by kernel_rfl
@[simp] theorem fieldT_128_2 : fieldT Tryz.prog 128 2 = some (92, 4) := by kernel_rfl
@[simp] theorem zeroT_128 : zeroT Tryz.prog 128 = some [.slice none 0 0, .slice none 0 0, .slice none 0 0, .slice none 0 0, .slice none 0 0] := by kernel_rfl
@[simp] theorem szOf_129 : szOf Tryz.prog 129 = some 5 := by kernel_rfl
@[simp] theorem aggT_129 : aggT Tryz.prog 129 = some true := by kernel_rfl
@[simp] theorem strT_129 : strT Tryz.prog 129 = false := by kernel_rfl
@[simp] theorem boolT_129 : boolT Tryz.prog 129 = false := by kernel_rfl
@[simp] theorem elemT_129 : elemT Tryz.prog 129 = none := by kernel_rfl
@[simp] theorem rowT_129 : rowT Tryz.prog 129 = none := by kernel_rfl
@[simp] theorem structT_129 : structT Tryz.prog 129 = some [(0, 2), (2, 2), (4, 1)] := by kernel_rfl
@[simp] theorem fieldT_129_0 : fieldT Tryz.prog 129 0 = some (25, 0) := by kernel_rfl
@[simp] theorem fieldT_129_1 : fieldT Tryz.prog 129 1 = some (25, 2) := by kernel_rfl
@[simp] theorem fieldT_129_2 : fieldT Tryz.prog 129 2 = some (92, 4) := by kernel_rfl
@[simp] theorem zeroT_129 : zeroT Tryz.prog 129 = some [.slice none 0 0, .slice none 0 0, .slice none 0 0, .slice none 0 0, .slice none 0 0] := by kernel_rfl
@[simp] theorem szOf_130 : szOf Tryz.prog 130 = some 1 := by kernel_rfl
@[simp] theorem aggT_130 : aggT Tryz.prog 130 = some false := by kernel_rfl
@[simp] theorem strT_130 : strT Tryz.prog 130 = false := by kernel_rfl
@[simp] theorem boolT_130 : boolT Tryz.prog 130 = false := by kernel_rfl
@[simp] theorem elemT_130 : elemT Tryz.prog 130 = none := by kernel_rfl
@[simp] theorem rowT_130 : rowT Tryz.prog 130 = none := by kernel_rfl
@[simp] theorem zeroT_130 : zeroT Tryz.prog 130 = some [.nilFunc] := by kernel_rfl
@[simp] theorem szOf_131 : szOf Tryz.prog 131 = some 1 := by kernel_rfl
@[simp] theorem aggT_131 : aggT Tryz.prog 131 = some false := by kernel_rfl
@[simp] theorem strT_131 : strT Tryz.prog 131 = false := by kernel_rfl
@[simp] theorem boolT_131 : boolT Tryz.prog 131 = false := by kernel_rfl
@[simp] theorem elemT_131 : elemT Tryz.prog 131 = none := by kernel_rfl
@[simp] theorem rowT_131 : rowT Tryz.prog 131 = none := by kernel_rfl
@[simp] theorem zeroT_131 : zeroT Tryz.prog 131 = some [.nilFunc] := by kernel_rfl
@[simp] theorem szOf_132 : szOf Tryz.prog 132 = some 1 := by kernel_rfl
@[simp] theorem aggT_132 : aggT Tryz.prog 132 = some false := by kernel_rfl
@[simp] theorem strT_132 : strT Tryz.prog 132 = false := by kernel_rfl
@[simp] theorem boolT_132 : boolT Tryz.prog 132 = false := by kernel_rfl
@[simp] theorem elemT_132 : elemT Tryz.prog 132 = none := by kernel_rfl
@[simp] theorem rowT_132 : rowT Tryz.prog 132 = none := by kernel_rfl
@[simp] theorem kindT_132 : kindT Tryz.prog 132 = some .u32 := by kernel_rfl
@[simp] theorem zeroT_132 : zeroT Tryz.prog 132 = some [.int .u32 0] := by kernel_rfl
@[simp] theorem szOf_134 : szOf Tryz.prog 134 = some 1 := by kernel_rfl
@[simp] theorem aggT_134 : aggT Tryz.prog 134 = some false := by kernel_rfl
@[simp] theorem strT_134 : strT Tryz.prog 134 = false := by kernel_rfl
@[simp] theorem boolT_134 : boolT Tryz.prog 134 = false := by kernel_rfl
@[simp] theorem elemT_134 : elemT Tryz.prog 134 = none := by kernel_rfl
@[simp] theorem rowT_134 : rowT Tryz.prog 134 = none := by kernel_rfl
@[simp] theorem zeroT_134 : zeroT Tryz.prog 134 = some [.nilFunc] := by kernel_rfl
@[simp] theorem szOf_135 : szOf Tryz.prog 135 = some 1 := by kernel_rfl
@[simp] theorem aggT_135 : aggT Tryz.prog 135 = some false := by kernel_rfl
@[simp] theorem strT_135 : strT Tryz.prog 135 = false := by kernel_rfl
@[simp] theorem boolT_135 : boolT Tryz.prog 135 = false := by kernel_rfl
@[simp] theorem elemT_135 : elemT Tryz.prog 135 = none := by kernel_rfl
@[simp] theorem rowT_135 : rowT Tryz.prog 135 = none := by kernel_rfl
@[simp] theorem kindT_135 : kindT Tryz.prog 135 = some .u64 := by kernel_rfl
@[simp] theorem zeroT_135 : zeroT Tryz.prog 135 = some [.int .u64 0] := by kernel_rfl
@[simp] theorem szOf_137 : szOf Tryz.prog 137 = some 1 := by kernel_rfl
@[simp] theorem aggT_137 : aggT Tryz.prog 137 = some false := by kernel_rfl
@[simp] theorem strT_137 : strT Tryz.prog 137 = false := by kernel_rfl
@[simp] theorem boolT_137 : boolT Tryz.prog 137 = false := by kernel_rfl
@[simp] theorem elemT_137 : elemT Tryz.prog 137 = none := by kernel_rfl
@[simp] theorem rowT_137 : rowT Tryz.prog 137 = none := by kernel_rfl
@[simp] theorem zeroT_137 : zeroT Tryz.prog 137 = some [.nilFunc] := by kernel_rfl
@[simp] theorem szOf_138 : szOf Tryz.prog 138 = some 1 := by kernel_rfl
@[simp] theorem aggT_138 : aggT Tryz.prog 138 = some false := by kernel_rfl
@[simp] theorem strT_138 : strT Tryz.prog 138 = false := by kernel_rfl
@[simp] theorem boolT_138 : boolT Tryz.prog 138 = false := by kernel_rfl
@[simp] theorem elemT_138 : elemT Tryz.prog 138 = none := by kernel_rfl
@[simp] theorem rowT_138 : rowT Tryz.prog 138 = none := by kernel_rfl
@[simp] theorem zeroT_138 : zeroT Tryz.prog 138 = some [.nilFunc] := by kernel_rfl
@[simp] theorem szOf_139 : szOf Tryz.prog 139 = some 1 := by kernel_rfl
@[simp] theorem aggT_139 : aggT Tryz.prog 139 = some false := by kernel_rfl
@[simp] theorem strT_139 : strT Tryz.prog 139 = false := by kernel_rfl
@[simp] theorem boolT_139 : boolT Tryz.prog 139 = false := by kernel_rfl
@[simp] theorem elemT_139 : elemT Tryz.prog 139 = none := by kernel_rfl
@[simp] theorem rowT_139 : rowT Tryz.prog 139 = none := by kernel_rfl
@[simp] theorem zeroT_139 : zeroT Tryz.prog 139 = some [.nilFunc] := by kernel_rfl
@[simp] theorem szOf_140 : szOf Tryz.prog 140 = some 1 := by kernel_rfl
@[simp] theorem aggT_140 : aggT Tryz.prog 140 = some false := by kernel_rfl
@[simp] theorem strT_140 : strT Tryz.prog 140 = false := by kernel_rfl
@[simp] theorem boolT_140 : boolT Tryz.prog 140 = false := by kernel_rfl
@[simp] theorem elemT_140 : elemT Tryz.prog 140 = none := by kernel_rfl
@[simp] theorem rowT_140 : rowT Tryz.prog 140 = none := by kernel_rfl
@[simp] theorem kindT_140 : kindT Tryz.prog 140 = some .i64 := by kernel_rfl
@[simp] theorem zeroT_140 : zeroT Tryz.prog 140 = some [.int .i64 0] := by kernel_rfl
@[simp] theorem szOf_142 : szOf Tryz.prog 142 = some 1 := by kernel_rfl
@[simp] theorem aggT_142 : aggT Tryz.prog 142 = some false := by kernel_rfl
@[simp] theorem strT_142 : strT Tryz.prog 142 = false := by kernel_rfl
@[simp] theorem boolT_142 : boolT Tryz.prog 142 = false := by kernel_rfl
@[simp] theorem elemT_142 : elemT Tryz.prog 142 = none := by kernel_rfl
@[simp] theorem rowT_142 : rowT Tryz.prog 142 = none := by kernel_rfl
@[simp] theorem zeroT_142 : zeroT Tryz.prog 142 = some [.nilFunc] := by kernel_rfl
@[simp] theorem szOf_143 : szOf Tryz.prog 143 = some 1 := by kernel_rfl
@[simp] theorem aggT_143 : aggT Tryz.prog 143 = some false := by kernel_rfl
@[simp] theorem strT_143 : strT Tryz.prog 143 = false := by kernel_rfl
@[simp] theorem boolT_143 : boolT Tryz.prog 143 = false := by kernel_rfl
@[simp] theorem elemT_143 : elemT Tryz.prog 143 = none := by kernel_rfl
@[simp] theorem rowT_143 : rowT Tryz.prog 143 = none := by kernel_rfl
@[simp] theorem zeroT_143 : zeroT Tryz.prog 143 = some [.nilFunc] := by kernel_rfl
@[simp] theorem szOf_144 : szOf Tryz.prog 144 = some 1 := by kernel_rfl
@[simp] theorem aggT_144 : aggT Tryz.prog 144 = some false := by kernel_rfl
@[simp] theorem strT_144 : strT Tryz.prog 144 = false := by kernel_rfl
@[simp] theorem boolT_144 : boolT Tryz.prog 144 = false := by kernel_rfl
@[simp] theorem elemT_144 : elemT Tryz.prog 144 = none := by kernel_rfl
@[simp] theorem rowT_144 : rowT Tryz.prog 144 = none := by kernel_rfl
@[simp] theorem zeroT_144 : zeroT Tryz.prog 144 = some [.nilFunc] := by kernel_rfl
@[simp] theorem szOf_146 : szOf Tryz.prog 146 = some 1 := by kernel_rfl
@[simp] theorem aggT_146 : aggT Tryz.prog 146 = some false := by kernel_rfl
@[simp] theorem strT_146 : strT Tryz.prog 146 = false := by kernel_rfl
@[simp] theorem boolT_146 : boolT Tryz.prog 146 = false := by kernel_rfl
@[simp] theorem elemT_146 : elemT Tryz.prog 146 = none := by kernel_rfl
@[simp] theorem rowT_146 : rowT Tryz.prog 146 = none := by kernel_rfl
@[simp] theorem zeroT_146 : zeroT Tryz.prog 146 = some [.nilFunc] := by kernel_rfl
@[simp] theorem szOf_147 : szOf Tryz.prog 147 = some 1 := by kernel_rfl
@[simp] theorem aggT_147 : aggT Tryz.prog 147 = some false := by kernel_rfl
@[simp] theorem strT_147 : strT Tryz.prog 147 = false := by kernel_rfl
@[simp] theorem boolT_147 : boolT Tryz.prog 147 = false := by kernel_rfl
@[simp] theorem elemT_147 : elemT Tryz.prog 147 = none := by kernel_rfl
@[simp] theorem rowT_147 : rowT Tryz.prog 147 = none := by kernel_rfl
@[simp] theorem zeroT_147 : zeroT Tryz.prog 147 = some [.nilFunc] := by kernel_rfl
@[simp] theorem szOf_148 : szOf Tryz.prog 148 = some 1 := by kernel_rfl
@[simp] theorem aggT_148 : aggT Tryz.prog 148 = some false := by kernel_rfl
@[simp] theorem strT_148 : strT Tryz.prog 148 = false := by kernel_rfl
@[simp] theorem boolT_148 : boolT Tryz.prog 148 = false := by kernel_rfl
@[simp] theorem elemT_148 : elemT Tryz.prog 148 = none := by kernel_rfl
@[simp] theorem rowT_148 : rowT Tryz.prog 148 = none := by kernel_rfl
@[simp] theorem zeroT_148 : zeroT Tryz.prog 148 = some [.nilFunc] := by kernel_rfl
@[simp] theorem szOf_149 : szOf Tryz.prog 149 = some 1 := by kernel_rfl
@[simp] theorem aggT_149 : aggT Tryz.prog 149 = some false := by kernel_rfl
@[simp] theorem strT_149 : strT Tryz.prog 149 = false := by kernel_rfl
@[simp] theorem boolT_149 : boolT Tryz.prog 149 = false := by kernel_rfl
@[simp] theorem elemT_149 : elemT Tryz.prog 149 = none := by kernel_rfl
@[simp] theorem rowT_149 : rowT Tryz.prog 149 = none := by kernel_rfl
@[simp] theorem zeroT_149 : zeroT Tryz.prog 149 = some [.nilFunc] := by kernel_rfl
@[simp] theorem szOf_150 : szOf Tryz.prog 150 = some 1 := by kernel_rfl
@[simp] theorem aggT_150 : aggT Tryz.prog 150 = some false := by kernel_rfl
@[simp] theorem strT_150 : strT Tryz.prog 150 = false := by kernel_rfl
@[simp] theorem boolT_150 : boolT Tryz.prog 150 = false := by kernel_rfl
@[simp] theorem elemT_150 : elemT Tryz.prog 150 = none := by kernel_rfl
@[simp] theorem rowT_150 : rowT Tryz.prog 150 = none := by kernel_rfl
@[simp] theorem kindT_150 : kindT Tryz.prog 150 = some .u64 := by kernel_rfl
@[simp] theorem zeroT_150 : zeroT Tryz.prog 150 = some [.int .u64 0] := by kernel_rfl
@[simp] theorem szOf_151 : szOf Tryz.prog 151 = some 1 := by kernel_rfl
@[simp] theorem aggT_151 : aggT Tryz.prog 151 = some false := by kernel_rfl
@[simp] theorem strT_151 : strT Tryz.prog 151 = false := by kernel_rfl
@[simp] theorem boolT_151 : boolT Tryz.prog 151 = false := by kernel_rfl
@[simp] theorem elemT_151 : elemT Tryz.prog 151 = none := by kernel_rfl
@[simp] theorem rowT_151 : rowT Tryz.prog 151 = none := by kernel_rfl
@[simp] theorem zeroT_151 : zeroT Tryz.prog 151 = some [.nilFunc] := by kernel_rfl
@[simp] theorem szOf_152 : szOf Tryz.prog 152 = some 1 := by kernel_rfl
@[simp] theorem aggT_152 : aggT Tryz.prog 152 = some false := by kernel_rfl
@[simp] theorem strT_152 : strT Tryz.prog 152 = false := by kernel_rfl
@[simp] theorem boolT_152 : boolT Tryz.prog 152 = false := by kernel_rfl
@[simp] theorem elemT_152 : elemT Tryz.prog 152 = none := by kernel_rfl
@[simp] theorem rowT_152 : rowT Tryz.prog 152 = none := by kernel_rfl
@[simp] theorem zeroT_152 : zeroT Tryz.prog 152 = some [.nilFunc] := by kernel_rfl
@[simp] theorem szOf_153 : szOf Tryz.prog 153 = some 1 := by kernel_rfl
@[simp] theorem aggT_153 : aggT Tryz.prog 153 = some false := by kernel_rfl
@[simp] theorem strT_153 : strT Tryz.prog 153 = false := by kernel_rfl
@[simp] theorem boolT_153 : boolT Tryz.prog 153 = false := by kernel_rfl
@[simp] theorem elemT_153 : elemT Tryz.prog 153 = none := by kernel_rfl
@[simp] theorem rowT_153 : rowT Tryz.prog 153 = none := by kernel_rfl
@[simp] theorem zeroT_153 : zeroT Tryz.prog 153 = some [.nilFunc] := by kernel_rfl
@[simp] theorem szOf_154 : szOf Tryz.prog 154 = some 1 := by kernel_rfl
@[simp] theorem aggT_154 : aggT Tryz.prog 154 = some false := by kernel_rfl
@[simp] theorem strT_154 : strT Tryz.prog 154 = false := by kernel_rfl
@[simp] theorem boolT_154 : boolT Tryz.prog 154 = false := by kernel_rfl
@[simp] theorem elemT_154 : elemT Tryz.prog 154 = none := by kernel_rfl
@[simp] theorem rowT_154 : rowT Tryz.prog 154 = none := by kernel_rfl
@[simp] theorem zeroT_154 : zeroT Tryz.prog 154 = some [.pointer none] := by kernel_rfl
@[simp] theorem szOf_155 : szOf Tryz.prog 155 = some 1 := by kernel_rfl
@[simp] theorem aggT_155 : aggT Tryz.prog 155 = some false := by kernel_rfl
@[simp] theorem strT_155 : strT Tryz.prog 155 = false := by kernel_rfl
@[simp] theorem boolT_155 : boolT Tryz.prog 155 = false := by kernel_rfl
@[simp] theorem elemT_155 : elemT Tryz.prog 155 = none := by kernel_rfl
@[simp] theorem rowT_155 : rowT Tryz.prog 155 = none := by kernel_rfl
@[simp] theorem zeroT_155 : zeroT Tryz.prog 155 = some [.nilFunc] := by kernel_rfl
@[simp] theorem szOf_157 : szOf Tryz.prog 157 = some 1 := by kernel_rfl
@[simp] theorem aggT_157 : aggT Tryz.prog 157 = some false := by kernel_rfl
@[simp] theorem strT_157 : strT Tryz.prog 157 = false := by kernel_rfl
@[simp] theorem boolT_157 : boolT Tryz.prog 157 = false := by kernel_rfl
@[simp] theorem elemT_157 : elemT Tryz.prog 157 = none := by kernel_rfl
@[simp] theorem rowT_157 : rowT Tryz.prog 157 = none := by kernel_rfl
@[simp] theorem zeroT_157 : zeroT Tryz.prog 157 = some [.nilFunc] := by kernel_rfl
@[simp] theorem szOf_158 : szOf Tryz.prog 158 = some 1 := by kernel_rfl
@[simp] theorem aggT_158 : aggT Tryz.prog 158 = some false := by kernel_rfl
@[simp] theorem strT_158 : strT Tryz.prog 158 = false := by kernel_rfl
@[simp] theorem boolT_158 : boolT Tryz.prog 158 = false := by kernel_rfl
@[simp] theorem elemT_158 : elemT Tryz.prog 158 = none := by kernel_rfl
@[simp] theorem rowT_158 : rowT Tryz.prog 158 = none := by kernel_rfl
@[simp] theorem zeroT_158 : zeroT Tryz.prog 158 = some [.nilFunc] := by kernel_rfl
@[simp] theorem szOf_159 : szOf Tryz.prog 159 = some 1 := by kernel_rfl
@[simp] theorem aggT_159 : aggT Tryz.prog 159 = some false := by kernel_rfl
@[simp] theorem strT_159 : strT Tryz.prog 159 = false := by kernel_rfl
@[simp] theorem boolT_159 : boolT Tryz.prog 159 = false := by kernel_rfl
@[simp] theorem elemT_159 : elemT Tryz.prog 159 = none := by kernel_rfl
@[simp] theorem rowT_159 : rowT Tryz.prog 159 = none := by kernel_rfl
@[simp] theorem zeroT_159 : zeroT Tryz.prog 159 = some [.nilFunc] := by kernel_rfl
@[simp] theorem szOf_160 : szOf Tryz.prog 160 = some 1 := by kernel_rfl
@[simp] theorem aggT_160 : aggT Tryz.prog 160 = some false := by kernel_rfl
@[simp] theorem strT_160 : strT Tryz.prog 160 = false := by kernel_rfl
@[simp] theorem boolT_160 : boolT Tryz.prog 160 = false := by kernel_rfl
@[simp] theorem elemT_160 : elemT Tryz.prog 160 = none := by kernel_rfl
@[simp] theorem rowT_160 : rowT Tryz.prog 160 = none := by kernel_rfl
@[simp] theorem zeroT_160 : zeroT Tryz.prog 160 = some [.pointer none] := by kernel_rfl
@[simp] theorem szOf_161 : szOf Tryz.prog 161 = some 1 := by kernel_rfl
@[simp] theorem aggT_161 : aggT Tryz.prog 161 = some false := by kernel_rfl
@[simp] theorem strT_161 : strT Tryz.prog 161 = false := by kernel_rfl
@[simp] theorem boolT_161 : boolT Tryz.prog 161 = false := by kernel_rfl
@[simp] theorem elemT_161 : elemT Tryz.prog 161 = none := by kernel_rfl
@[simp] theorem rowT_161 : rowT Tryz.prog 161 = none := by kernel_rfl
@[simp] theorem zeroT_161 : zeroT Tryz.prog 161 = some [.nilFunc] := by kernel_rfl
@[simp] theorem szOf_162 : szOf Tryz.prog 162 = some 1 := by kernel_rfl
@[simp] theorem aggT_162 : aggT Tryz.prog 162 = some false := by kernel_rfl
@[simp] theorem strT_162 : strT Tryz.prog 162 = false := by kernel_rfl
@[simp] theorem boolT_162 : boolT Tryz.prog 162 = false := by kernel_rfl
@[simp] theorem elemT_162 : elemT Tryz.prog 162 = none := by kernel_rfl
@[simp] theorem rowT_162 : rowT Tryz.prog 162 = none := by kernel_rfl
@[simp] theorem zeroT_162 : zeroT Tryz.prog 162 = some [.nilFunc] := by kernel_rfl
@[simp] theorem szOf_163 : szOf Tryz.prog 163 = some 4 := by kernel_rfl
@[simp] theorem aggT_163 : aggT Tryz.prog 163 = some true := by kernel_rfl
@[simp] theorem strT_163 : strT Tryz.prog 163 = false := by kernel_rfl
@[simp] theorem boolT_163 : boolT Tryz.prog 163 = false := by kernel_rfl
@[simp] theorem elemT_163 : elemT Tryz.prog 163 = none := by kernel_rfl
@[simp] theorem rowT_163 : rowT Tryz.prog 163 = none := by kernel_rfl
@[simp] theorem structT_163 : structT Tryz.prog 163 = some [(0, 1), (1, 1), (2, 1), (3, 1)] := by kernel_rfl
@[simp] theorem fieldT_163_0 : fieldT Tryz.prog 163 0 = some (17, 0) := by kernel_rfl
@[simp] theorem fieldT_163_1 : fieldT Tryz.prog 163 1 = some (17, 1) := by kernel_rfl
@[simp] theorem fieldT_163_2 : fieldT Tryz.prog 163 2 = some (17, 2) := by kernel_rfl
@[simp] theorem fieldT_163_3 : fieldT Tryz.prog 163 3 = some (9, 3) := by kernel_rfl
@[simp] theorem zeroT_163 : zeroT Tryz.prog 163 = some [.pointer none, .pointer none, .pointer none, .string ⟨#[]⟩] := by kernel_rfl
@[simp] theorem szOf_164 : szOf Tryz.prog 164 = some 4 := by kernel_rfl
@[simp] theorem aggT_164 : aggT Tryz.prog 164 = some true := by kernel_rfl
@[simp] theorem strT_164 : strT Tryz.prog 164 = false := by kernel_rfl
@[simp] theorem boolT_164 : boolT Tryz.prog 164 = false := by kernel_rfl
@[simp] theorem elemT_164 : elemT Tryz.prog 164 = none := by kernel_rfl
@[simp] theorem rowT_164 : rowT Tryz.prog 164 = none := by kernel_rfl
@[simp] theorem structT_164 : structT Tryz.prog 164 = some [(0, 1), (1, 1), (2, 1), (3, 1)] := by kernel_rfl
@[simp] theorem fieldT_164_0 : fieldT Tryz.prog 164 0 = some (17, 0) := by kernel_rfl
@[simp] theorem fieldT_164_1 : fieldT Tryz.prog 164 1 = some (17, 1) := by kernel_rfl
@[simp] theorem fieldT_164_2 : fieldT Tryz.prog 164 2 = some (17, 2) := by kernel_rfl
@[simp] theorem fieldT_164_3 : fieldT Tryz.prog 164 3 = some (9, 3) := by kernel_rfl
@[simp] theorem zeroT_164 : zeroT Tryz.prog 164 = some [.pointer none, .pointer none, .pointer none, .string ⟨#[]⟩] := by kernel_rfl
@[simp] theorem szOf_165 : szOf Tryz.prog 165 = some 0 := by kernel_rfl
@[simp] theorem aggT_165 : aggT Tryz.prog 165 = some true := by kernel_rfl
@[simp] theorem strT_165 : strT Tryz.prog 165 = false := by kernel_rfl
@[simp] theorem boolT_165 : boolT Tryz.prog 165 = false := by kernel_rfl
@[simp] theorem elemT_165 : elemT Tryz.prog 165 = none := by kernel_rfl
@[simp] theorem rowT_165 : rowT Tryz.prog 165 = none := by kernel_rfl
@[simp] theorem arrT_165 : arrT Tryz.prog 165 = some (0, 16) := by kernel_rfl
@[simp] theorem zeroT_165 : zeroT Tryz.prog 165 = some [] := by kernel_rfl
@[simp] theorem szOf_166 : szOf Tryz.prog 166 = some 0 := by kernel_rfl
@[simp] theorem aggT_166 : aggT Tryz.prog 166 = some true := by kernel_rfl
@[simp] theorem strT_166 : strT Tryz.prog 166 = false := by kernel_rfl
@[simp] theorem boolT_166 : boolT Tryz.prog 166 = false := by kernel_rfl
@[simp] theorem elemT_166 : elemT Tryz.prog 166 = none := by kernel_rfl
@[simp] theorem rowT_166 : rowT Tryz.prog 166 = none := by kernel_rfl
@[simp] theorem structT_166 : structT Tryz.prog 166 = some [(0, 0)] := by kernel_rfl
@[simp] theorem fieldT_166_0 : fieldT Tryz.prog 166 0 = some (165, 0) := by kernel_rfl
@[simp] theorem zeroT_166 : zeroT Tryz.prog 166 = some [] := by kernel_rfl
@[simp] theorem szOf_167 : szOf Tryz.prog 167 = some 0 := by kernel_rfl
@[simp] theorem aggT_167 : aggT Tryz.prog 167 = some true := by kernel_rfl
@[simp] theorem strT_167 : strT Tryz.prog 167 = false := by kernel_rfl
@[simp] theorem boolT_167 : boolT Tryz.prog 167 = false := by kernel_rfl
@[simp] theorem elemT_167 : elemT Tryz.prog 167 = none := by kernel_rfl
@[simp] theorem rowT_167 : rowT Tryz.prog 167 = none := by kernel_rfl
@[simp] theorem structT_167 : structT Tryz.prog 167 = some [(0, 0)] := by kernel_rfl
@[simp] theorem fieldT_167_0 : fieldT Tryz.prog 167 0 = some (165, 0) := by kernel_rfl
@[simp] theorem zeroT_167 : zeroT Tryz.prog 167 = some [] := by kernel_rfl
@[simp] theorem szOf_168 : szOf Tryz.prog 168 = some 1 := by kernel_rfl
@[simp] theorem aggT_168 : aggT Tryz.prog 168 = some false := by kernel_rfl
@[simp] theorem strT_168 : strT Tryz.prog 168 = false := by kernel_rfl
@[simp] theorem boolT_168 : boolT Tryz.prog 168 = false := by kernel_rfl
@[simp] theorem elemT_168 : elemT Tryz.prog 168 = none := by kernel_rfl
@[simp] theorem rowT_168 : rowT Tryz.prog 168 = none := by kernel_rfl
@[simp] theorem zeroT_168 : zeroT Tryz.prog 168 = some [.nilFunc] := by kernel_rfl
@[simp] theorem szOf_169 : szOf Tryz.prog 169 = some 1 := by kernel_rfl
@[simp] theorem aggT_169 : aggT Tryz.prog 169 = some false := by kernel_rfl
@[simp] theorem strT_169 : strT Tryz.prog 169 = false := by kernel_rfl
@[simp] theorem boolT_169 : boolT Tryz.prog 169 = false := by kernel_rfl
@[simp] theorem elemT_169 : elemT Tryz.prog 169 = none := by kernel_rfl
@[simp] theorem rowT_169 : rowT Tryz.prog 169 = none := by kernel_rfl
@[simp] theorem kindT_169 : kindT Tryz.prog 169 = some .u8 := by kernel_rfl
@[simp] theorem zeroT_169 : zeroT Tryz.prog 169 = some [.int .u8 0] := by kernel_rfl
@[simp] theorem szOf_170 : szOf Tryz.prog 170 = some 1 := by kernel_rfl
@[simp] theorem aggT_170 : aggT Tryz.prog 170 = some false := by kernel_rfl
@[simp] theorem strT_170 : strT Tryz.prog 170 = false := by kernel_rfl
@[simp] theorem boolT_170 : boolT Tryz.prog 170 = false := by kernel_rfl
@[simp] theorem elemT_170 : elemT Tryz.prog 170 = none := by kernel_rfl
@[simp] theorem rowT_170 : rowT Tryz.prog 170 = none := by kernel_rfl
@[simp] theorem kindT_170 : kindT Tryz.prog 170 = some .u8 := by kernel_rfl
@[simp] theorem zeroT_170 : zeroT Tryz.prog 170 = some [.int .u8 0] := by kernel_rfl
@[simp] theorem szOf_171 : szOf Tryz.prog 171 = some 1 := by kernel_rfl
@[simp] theorem aggT_171 : aggT Tryz.prog 171 = some false := by kernel_rfl
@[simp] theorem strT_171 : strT Tryz.prog 171 = false := by kernel_rfl
@[simp] theorem boolT_171 : boolT Tryz.prog 171 = false := by kernel_rfl
@[simp] theorem elemT_171 : elemT Tryz.prog 171 = none := by kernel_rfl
@[simp] theorem rowT_171 : rowT Tryz.prog 171 = none := by kernel_rfl
@[simp] theorem zeroT_171 : zeroT Tryz.prog 171 = some [.nilFunc] := by kernel_rfl
@[simp] theorem szOf_172 : szOf Tryz.prog 172 = some 1 := by kernel_rfl
@[simp] theorem aggT_172 : aggT Tryz.prog 172 = some false := by kernel_rfl
@[simp] theorem strT_172 : strT Tryz.prog 172 = false := by kernel_rfl
@[simp] theorem boolT_172 : boolT Tryz.prog 172 = false := by kernel_rfl
@[simp] theorem elemT_172 : elemT Tryz.prog 172 = none := by kernel_rfl
@[simp] theorem rowT_172 : rowT Tryz.prog 172 = none := by kernel_rfl
@[simp] theorem zeroT_172 : zeroT Tryz.prog 172 = some [.pointer none] := by kernel_rfl
@[simp] theorem szOf_173 : szOf Tryz.prog 173 = some 1 := by kernel_rfl
@[simp] theorem aggT_173 : aggT Tryz.prog 173 = some false := by kernel_rfl
@[simp] theorem strT_173 : strT Tryz.prog 173 = false := by kernel_rfl
@[simp] theorem boolT_173 : boolT Tryz.prog 173 = false := by kernel_rfl
@[simp] theorem elemT_173 : elemT Tryz.prog 173 = none := by kernel_rfl
@[simp] theorem rowT_173 : rowT Tryz.prog 173 = none := by kernel_rfl
@[simp] theorem kindT_173 : kindT Tryz.prog 173 = some .i32 := by kernel_rfl
@[simp] theorem zeroT_173 : zeroT Tryz.prog 173 = some [.int .i32 0] := by kernel_rfl
@[simp] theorem szOf_174 : szOf Tryz.prog 174 = some 1 := by kernel_rfl
@[simp] theorem aggT_174 : aggT Tryz.prog 174 = some false := by kernel_rfl
@[simp] theorem strT_174 : strT Tryz.prog 174 = false := by kernel_rfl
@[simp] theorem boolT_174 : boolT Tryz.prog 174 = false := by kernel_rfl
@[simp] theorem elemT_174 : elemT Tryz.prog 174 = none := by kernel_rfl
@[simp] theorem rowT_174 : rowT Tryz.prog 174 = none := by kernel_rfl
@[simp] theorem kindT_174 : kindT Tryz.prog 174 = some .i32 := by kernel_rfl
@[simp] theorem zeroT_174 : zeroT Tryz.prog 174 = some [.int .i32 0] := by kernel_rfl
@[simp] theorem szOf_175 : szOf Tryz.prog 175 = some 11 := by kernel_rfl
@[simp] theorem aggT_175 : aggT Tryz.prog 175 = some true := by kernel_rfl
@[simp] theorem strT_175 : strT Tryz.prog 175 = false := by kernel_rfl
@[simp] theorem boolT_175 : boolT Tryz.prog 175 = false := by kernel_rfl
@[simp] theorem elemT_175 : elemT Tryz.prog 175 = none := by kernel_rfl
@[simp] theorem rowT_175 : rowT Tryz.prog 175 = none := by kernel_rfl
@[simp] theorem structT_175 : structT Tryz.prog 175 = some [(0, 1), (1, 1), (2, 1), (3, 1), (4, 1), (5, 1), (6, 1), (7, 1), (8, 1), (9, 1), (10, 1)] := by kernel_rfl
@[simp] theorem fieldT_175_0 : fieldT Tryz.prog 175 0 = some (12, 0) := by kernel_rfl
@[simp] theorem fieldT_175_1 : fieldT Tryz.prog 175 1 = some (12, 1) := by kernel_rfl
@[simp] theorem fieldT_175_2 : fieldT Tryz.prog 175 2 = some (132, 2) := by kernel_rfl
@[simp] theorem fieldT_175_3 : fieldT Tryz.prog 175 3 = some (169, 3) := by kernel_rfl
@[simp] theorem fieldT_175_4 : fieldT Tryz.prog 175 4 = some (5, 4) := by kernel_rfl
@[simp] theorem fieldT_175_5 : fieldT Tryz.prog 175 5 = some (5, 5) := by kernel_rfl
@[simp] theorem fieldT_175_6 : fieldT Tryz.prog 175 6 = some (170, 6) := by kernel_rfl
@[simp] theorem fieldT_175_7 : fieldT Tryz.prog 175 7 = some (171, 7) := by kernel_rfl
@[simp] theorem fieldT_175_8 : fieldT Tryz.prog 175 8 = some (172, 8) := by kernel_rfl
@[simp] theorem fieldT_175_9 : fieldT Tryz.prog 175 9 = some (173, 9) := by kernel_rfl
@[simp] theorem fieldT_175_10 : fieldT Tryz.prog 175 10 = some (174, 10) := by kernel_rfl
@[simp] theorem zeroT_175 : zeroT Tryz.prog 175 = some [.int .u64 0, .int .u64 0, .int .u32 0, .int .u8 0, .int .u8 0, .int .u8 0, .int .u8 0, .nilFunc, .pointer none, .int .i32 0, .int .i32 0] := by kernel_rfl
@[simp] theorem szOf_176 : szOf Tryz.prog 176 = some 11 := by kernel_rfl
@[simp] theorem aggT_176 : aggT Tryz.prog 176 = some true := by kernel_rfl
@[simp] theorem strT_176 : strT Tryz.prog 176 = false := by kernel_rfl
@[simp] theorem boolT_176 : boolT Tryz.prog 176 = false := by kernel_rfl
@[simp] theorem elemT_176 : elemT Tryz.prog 176 = none := by kernel_rfl
@[simp] theorem rowT_176 : rowT Tryz.prog 176 = none := by kernel_rfl
@[simp] theorem structT_176 : structT Tryz.prog 176 = some [(0, 1), (1, 1), (2, 1), (3, 1), (4, 1), (5, 1), (6, 1), (7, 1), (8, 1), (9, 1), (10, 1)] := by kernel_rfl
@[simp] theorem fieldT_176_0 : fieldT Tryz.prog 176 0 = some (12, 0) := by kernel_rfl
@[simp] theorem fieldT_176_1 : fieldT Tryz.prog 176 1 = some (12, 1) := by kernel_rfl
@[simp] theorem fieldT_176_2 : fieldT Tryz.prog 176 2 = some (132, 2) := by kernel_rfl
@[simp] theorem fieldT_176_3 : fieldT Tryz.prog 176 3 = some (169, 3) := by kernel_rfl
@[simp] theorem fieldT_176_4 : fieldT Tryz.prog 176 4 = some (5, 4) := by kernel_rfl
@[simp] theorem fieldT_176_5 : fieldT Tryz.prog 176 5 = some (5, 5) := by kernel_rfl
@[simp] theorem fieldT_176_6 : fieldT Tryz.prog 176 6 = some (170, 6) := by kernel_rfl
@[simp] theorem fieldT_176_7 : fieldT Tryz.prog 176 7 = some (171, 7) := by kernel_rfl
@[simp] theorem fieldT_176_8 : fieldT Tryz.prog 176 8 = some (172, 8) := by kernel_rfl
@[simp] theorem fieldT_176_9 : fieldT Tryz.prog 176 9 = some (173, 9) := by kernel_rfl
@[simp] theorem fieldT_176_10 : fieldT Tryz.prog 176 10 = some (174, 10) := by kernel_rfl
@[simp] theorem zeroT_176 : zeroT Tryz.prog 176 = some [.int .u64 0, .int .u64 0, .int .u32 0, .int .u8 0, .int .u8 0, .int .u8 0, .int .u8 0, .nilFunc, .pointer none, .int .i32 0, .int .i32 0] := by kernel_rfl
end Go.AM
/-
  The abstract machine, nineteenth part: what makes it short to use.
-/
namespace Go.AM
open Go
set_option linter.unusedSimpArgs false
set_option linter.unusedVariables false

variable {P : Program}

attribute [simp] nilCmp FReg preF FOne FSkip Gd.tt Gd.tf Gd.ft Gd.ff fN fR fW fA AState.ev putT_tl putT_none tlArgs tl_cons tl_nil ofVal ofVal1 lenF idxF sliceF boundF rawOf rawsOf binF unF loadD loadA lb_at lk_cons lk_nil upd_lb yieldA AV.cells? AV.elems? toDs AV.toD rowsOf fillA setCells FCond copySrc

@[simp] theorem FOps_nil {cx : Cx} {ops : Array Oper} {dr : Bool} {K : AState → Prop} {t : Nat → AV} {b : Nat → Option (List (List AV))} {k : Nat → Bool} {n : Nat} : FOps P cx ops dr [] K ⟨t, b, k, n⟩ = K ⟨t, b, k, n⟩ := by simp only [FOps]
@[simp] theorem FOps_cons {cx : Cx} {ops : Array Oper} {dr : Bool} {o : Oper} {r : List Oper} {K : AState → Prop} {t : Nat → AV} {b : Nat → Option (List (List AV))} {k : Nat → Bool} {n : Nat} : FOps P cx ops dr (o :: r) K ⟨t, b, k, n⟩ = match o.guard with
    | none => FOne P cx dr o (FOps P cx ops dr r K) ⟨t, b, k, n⟩
    | some (j, want) => match yieldA ops ⟨t, b, k, n⟩ j with
      | some (some c) => Gd c want (FOne P cx dr o (FOps P cx ops dr r K)) (FSkip o.dst (FOps P cx ops dr r K)) ⟨t, b, k, n⟩
      | some none => FSkip o.dst (FOps P cx ops dr r K) ⟨t, b, k, n⟩
      | none => False := by
  simp only [FOps]
  rfl

@[simp] theorem live_full {tok : Nat → Bool} : Own.full.liveP tok = True := rfl
@[simp] theorem kill_full {tok : Nat → Bool} : Own.full.kill tok = tok := rfl
@[simp] theorem live_tok {tok : Nat → Bool} {t : Nat} : (Own.tok t).liveP tok = (tok t = true) := rfl
@[simp] theorem kill_tok {tok : Nat → Bool} {t : Nat} : (Own.tok t).kill tok = upd tok t false := rfl

/-- Slots, one by one. -/
def ToL (p q : Nat → Prop) (fz : Option (Nat × Nat × List (List D))) (l : List (Nat × AV)) : List (Nat × AV) → Prop
  | [] => True
  | (i, v) :: r => To p q fz (tl l i) v ∧ ToL p q fz l r

theorem ToL.all {p q : Nat → Prop} {fz : Option (Nat × Nat × List (List D))} {l : List (Nat × AV)} : ∀ {l' : List (Nat × AV)}, ToL p q fz l l' → ∀ t, To p q fz (tl l t) (tl l' t)
  | [], _, t => .bot
  | (i, v) :: r, h, t => by
    rw [tl_cons]
    split
    · rename_i e; subst e; exact h.1
    · exact ToL.all h.2 t

def BoxL (p q : Nat → Prop) (fz : Option (Nat × Nat × List (List D))) (loc : List (Nat × List (List AV))) : List (Nat × List (List AV)) → Prop
  | [] => True
  | (s, rows') :: r => (∃ rows, lk loc s = some rows ∧ RowsTo p q fz rows rows') ∧ BoxL p q fz loc r

theorem BoxL.all {p q : Nat → Prop} {fz : Option (Nat × Nat × List (List D))} {loc : List (Nat × List (List AV))} : ∀ {loc' : List (Nat × List (List AV))}, BoxL p q fz loc loc' → ∀ s rows', lk loc' s = some rows' → ∃ rows, lk loc s = some rows ∧ RowsTo p q fz rows rows'
  | [], _, s, rows', h => by simp [lk] at h
  | (i, v) :: r, h, s, rows', hs => by
    rw [lk_cons] at hs
    split at hs
    · rename_i e; subst e; cases hs; exact h.1
    · exact BoxL.all h.2 s rows' hs

/-- A weakening that keeps the tokens. -/
theorem Weaks.mk' {cx : Cx} {nt0 nt : Nat} {l l' : List (Nat × AV)} {out : Nat → Option (List (List AV))} {loc loc' : List (Nat × List (List AV))} {tok : Nat → Bool} (hnt : nt0 ≤ nt)
    (hl : ToL (fun k => lb cx.base out loc' k ≠ none) (fun _ => True) none l l') (hb : BoxL (fun k => lb cx.base out loc' k ≠ none) (fun _ => True) none loc loc')
    (ho : ∀ k rows, k < cx.base → out k = some rows → cx.B0 k = some rows ∨ ∀ r ∈ rows, ∀ x ∈ r, OkIn (fun k => lb cx.base out loc' k ≠ none) (fun _ => True) x) :
    Weaks cx nt0 ⟨tl l, lb cx.base out loc, tok, nt⟩ ⟨tl l', lb cx.base out loc', tok, nt⟩ := by
  refine ⟨out, loc, loc', none, rfl, rfl, Nat.le_refl _, hnt, fun t h => ⟨h, .inl rfl⟩, ?_, ?_, (fun _ _ _ h => by cases h), ?_⟩
  · simp only [true_or, Option.map_none]; exact hl.all
  · simp only [true_or, Option.map_none]; exact hb.all
  · simp only [true_or]; exact ho

/-- A weakening that leaves the boxes that came in alone. -/
theorem Weaks.mk {cx : Cx} {nt0 nt : Nat} {l l' : List (Nat × AV)} {out : Nat → Option (List (List AV))} {loc loc' : List (Nat × List (List AV))} {tok : Nat → Bool} (hnt : nt0 ≤ nt) (ho : out = cx.B0)
    (hl : ToL (fun k => lb cx.base out loc' k ≠ none) (fun _ => True) none l l') (hb : BoxL (fun k => lb cx.base out loc' k ≠ none) (fun _ => True) none loc loc') :
    Weaks cx nt0 ⟨tl l, lb cx.base out loc, tok, nt⟩ ⟨tl l', lb cx.base out loc', tok, nt⟩ :=
  Weaks.mk' hnt hl hb fun k rows _ h => .inl (by rw [← ho]; exact h)

/-- The end of a function whose result is data. -/
theorem Fin.data {cx : Cx} {nt0 nt : Nat} {rs : List ResultVar} {l : List (Nat × AV)} {out : Nat → Option (List (List AV))} {loc : List (Nat × List (List AV))} {tok mtok : Nat → Bool} {vs : List AV} {av : AV}
    (hres : resAs P ⟨tl l, lb cx.base out loc, tok, nt⟩ rs = some vs) (hbox : lb cx.base out [] = out) (ho : out = cx.B0) (hm : ∀ t, mtok t = true → t < nt0) (htok : ∀ t, mtok t = true → tok t = true) (hnt : nt0 ≤ nt)
    (hto : To (fun k => lb cx.base out [] k ≠ none) (fun t => nt0 = nt ∨ t < nt0) none (packA vs) av) : Fin P cx nt0 rs (fun v' m' => v' = av ∧ m' = ⟨out, cx.base, mtok, nt0⟩) ⟨tl l, lb cx.base out loc, tok, nt⟩ :=
  ⟨vs, out, loc, none, av, ⟨out, cx.base, mtok, nt0⟩, hres, ⟨rfl, rfl, hnt, Nat.le_refl _, fun t h => ⟨htok t h, .inr (hm t h)⟩, fun _ => .bot, fun s rows' h => by simp [lk] at h, (fun _ _ _ h => by cases h),
    fun k rows _ h => .inl (by rw [← ho]; exact h)⟩, hbox.symm, rfl, by simpa using hto, rfl, rfl⟩

/-! ### Weakenings that simp closes -/
section
variable {p q : Nat → Prop} {fz : Option (Nat × Nat × List (List D))}
@[simp] theorem to_bot (x : AV) : To p q fz x .bot := .bot
@[simp] theorem to_d (x : D) : To p q fz (.d x) (.d x) := .same .d
@[simp] theorem to_data (sz : Nat) (es : List (List D)) (o : Own) : To p q fz (.osl sz es o) (.d (.sl sz es)) := .data
@[simp] theorem to_osl (sz : Nat) (es : List (List D)) (o : Own) : To p (fun _ => True) fz (.osl sz es o) (.osl sz es o) := .same (.osl fun _ _ => trivial)
theorem to_snoc {sz : Nat} {es : List (List D)} {r r' : List D} (h : DS1 r r') (o : Own) : To p (fun _ => True) fz (.osl sz (es ++ [r]) o) (.osl sz (es ++ [r']) o) := .otok ((DSs.snoc h).sub sz) fun _ _ => trivial
@[simp] theorem to_full (sz : Nat) (es : List (List D)) : To p q fz (.osl sz es .full) (.osl sz es .full) := .same (.osl fun _ h => by cases h)
@[simp] theorem to_nil0 (sz sz' : Nat) : To p q fz (.osl sz [] .full) (.osl sz' [] .full) := .nil rfl
@[simp] theorem to_emp0 (sz sz' : Nat) (o : Own) : To p q fz (.osl sz [] o) (.d (.sl sz' [])) := .odsub .emp
@[simp] theorem to_emp1 (sz sz' : Nat) : To p q fz (.d (.sl sz [])) (.d (.sl sz' [])) := .dsub .emp
@[simp] theorem to_emp2 (sz sz' : Nat) : To p q fz (.osl 1 [[.sl sz []]] .full) (.osl 1 [[.sl sz' []]] .full) :=
  .osub (.sl rfl (fun i h1 h2 => by simp at h1; subst h1; rfl) (fun i h1 h2 j g1 g2 => by simp at h1; subst h1; simp at g1; subst g1; exact .emp))
@[simp] theorem to_emp3 (sz sz' : Nat) (o : Own) : To p q fz (.osl 1 [[.sl sz []]] o) (.d (.sl 1 [[.sl sz' []]])) :=
  .odsub (.sl rfl (fun i h1 h2 => by simp at h1; subst h1; rfl) (fun i h1 h2 j g1 g2 => by simp at h1; subst h1; simp at g1; subst g1; exact .emp))
@[simp] theorem to_cptr (cs : List D) (off : Nat) : To p q fz (.cptr cs off) (.cptr cs off) := .same .cptr
theorem to_ptr {k i off : Nat} (h : p k) : To p q fz (.ptr k i off) (.ptr k i off) := .same (.ptr h)
@[simp] theorem to_ptr_lb {base s i off : Nat} {out : Nat → Option (List (List AV))} {loc : List (Nat × List (List AV))} : To (fun k => lb base out loc k ≠ none) q fz (.ptr (base + s) i off) (.ptr (base + s) i off) ↔ lk loc s ≠ none := by
  constructor
  · intro h
    cases h with
    | same h => cases h with | ptr h => rw [lb_at] at h; exact h
  · intro h
    exact to_ptr (by rw [lb_at]; exact h)
@[simp] theorem to_msl_lb {base s off n sz : Nat} {out : Nat → Option (List (List AV))} {loc : List (Nat × List (List AV))} : To (fun k => lb base out loc k ≠ none) q fz (.msl (base + s) off n sz) (.msl (base + s) off n sz) ↔ lk loc s ≠ none := by
  constructor
  · intro h
    cases h with
    | same h => cases h with | msl h => rw [lb_at] at h; exact h
  · intro h
    exact .same (.msl (by rw [lb_at]; exact h))
@[simp] theorem okIn_d (x : D) : OkIn p q (.d x) := .d
@[simp] theorem okIn_bot : OkIn p q .bot := .bot
@[simp] theorem okIn_osl (sz : Nat) (es : List (List D)) (o : Own) : OkIn p (fun _ => True) (.osl sz es o) := .osl fun _ _ => trivial
@[simp] theorem okIn_ptr {k i off : Nat} : OkIn p q (.ptr k i off) ↔ p k := ⟨fun h => by cases h; assumption, .ptr⟩
@[simp] theorem okIn_agg {cs : List AV} : OkIn p q (.agg cs) ↔ ∀ c ∈ cs, OkIn p q c := ⟨fun h => by cases h; assumption, .agg⟩
@[simp] theorem okIn_fn {f : Fn} {cs : List AV} : OkIn p q (.fn f cs) ↔ ∀ c ∈ cs, OkIn p q c := ⟨fun h => by cases h; assumption, .fn⟩
@[simp] theorem to_tup_nil : To p q fz (.tup []) (.tup []) := .tup rfl fun i h => by simp at h
theorem to_cons_agg {a b : AV} {as1 bs : List AV} (h : To p q fz a b) (k : To p q fz (.agg as1) (.agg bs)) : To p q fz (.agg (a :: as1)) (.agg (b :: bs)) := by
  cases k with
  | same k =>
    refine .agg rfl fun i h1 h2 => ?_
    cases i with
    | zero => exact h
    | succ i => exact .same ((okIn_agg.1 k) _ (List.getElem_mem _))
  | agg hl k =>
    refine .agg (by simp [hl]) fun i h1 h2 => ?_
    cases i with
    | zero => exact h
    | succ i => exact k i (by simpa using h1) (by simpa using h2)
theorem to_cons_tup {a b : AV} {as1 bs : List AV} (h : To p q fz a b) (k : To p q fz (.tup as1) (.tup bs)) : To p q fz (.tup (a :: as1)) (.tup (b :: bs)) := by
  cases k with
  | same k =>
    refine .tup rfl fun i h1 h2 => ?_
    cases i with
    | zero => exact h
    | succ i => cases k with | tup k => exact .same (k _ (List.getElem_mem _))
  | tup hl k =>
    refine .tup (by simp [hl]) fun i h1 h2 => ?_
    cases i with
    | zero => exact h
    | succ i => exact k i (by simpa using h1) (by simpa using h2)
@[simp] theorem to_cons_agg_iff {a b : AV} {as1 bs : List AV} : To p q fz (.agg (a :: as1)) (.agg (b :: bs)) ↔ To p q fz a b ∧ To p q fz (.agg as1) (.agg bs) := by
  constructor
  · intro h
    cases h with
    | same h => have := okIn_agg.1 h; exact ⟨.same (this _ (by simp)), .same (okIn_agg.2 fun c hc => this c (by simp [hc]))⟩
    | agg hl h => exact ⟨h 0 (by simp) (by simp), .agg (by simpa using hl) fun i h1 h2 => h (i + 1) (by simpa using h1) (by simpa using h2)⟩
  · exact fun ⟨h, k⟩ => to_cons_agg h k
@[simp] theorem to_cons_tup_iff {a b : AV} {as1 bs : List AV} : To p q fz (.tup (a :: as1)) (.tup (b :: bs)) ↔ To p q fz a b ∧ To p q fz (.tup as1) (.tup bs) := by
  constructor
  · intro h
    cases h with
    | same h =>
      cases h with
      | tup this => exact ⟨.same (this _ (by simp)), .same (.tup fun c hc => this c (by simp [hc]))⟩
    | tup hl h => exact ⟨h 0 (by simp) (by simp), .tup (by simpa using hl) fun i h1 h2 => h (i + 1) (by simpa using h1) (by simpa using h2)⟩
  · exact fun ⟨h, k⟩ => to_cons_tup h k
@[simp] theorem to_nil_agg : To p q fz (.agg []) (.agg []) := .agg rfl fun i h => by simp at h
end

/-! ### What a region with late stores asks of the slots -/
def SideD (t : List (Nat × AV)) : List Oper → Prop
  | [] => True
  | o :: r => (match o.dst with | some d => NP (tl t d) | none => True) ∧ SideD t r
theorem SideD.all {t : List (Nat × AV)} {l : List Oper} (h : SideD t l) : ∀ o ∈ l, ∀ d, o.dst = some d → NP (tl t d) := by
  induction l with
  | nil => intro o ho; simp at ho
  | cons o r ih =>
    intro x hx d hd
    unfold SideD at h
    rcases List.mem_cons.1 hx with e | hx
    · subst e
      have := h.1
      rw [hd] at this
      exact this
    · exact ih h.2 x hx d hd
theorem Side.of {ops : Array Oper} {l : List (Nat × AV)} {b : Nat → Option (List (List AV))} {k : Nat → Bool} {n : Nat} (h : SideD l ops.toList) : Side ops ⟨tl l, b, k, n⟩ :=
  fun o ho d hd => h.all o ho d hd
attribute [simp] SideD NP NK ptrs Far Far1

/-- A loop over a family of states. -/
theorem AL.loopT {cx : Cx} {nt0 : Nat} {K : Exit → AState → Prop} {r : List CI} {S : AState} {c : Code} {α : Type} (T : α → AState) (inv : α → Prop) (μ : α → Nat) (a0 : α) (h0 : inv a0) (hw : Weaks cx nt0 S (T a0))
    (hstep : ∀ a S, inv a → S = T a → AL P cx nt0 (fun e S' => match e with
      | .normal => ∃ a', inv a' ∧ μ a' < μ a ∧ Weaks cx nt0 S' (T a')
      | e => AU P cx nt0 K r e S') [.c c] S) : AL P cx nt0 K (.c (.loop c) :: r) S := by
  refine AL.loop (fun n S => ∃ a, inv a ∧ n = μ a ∧ S = T a) ⟨_, _, hw, a0, h0, rfl, rfl⟩ ?_
  rintro n S ⟨a, ha, rfl, hS⟩
  have := AL.start (hstep a S ha hS)
  simp only [AL]
  refine this.mono fun e S' h => ?_
  cases e with
  | normal =>
    obtain ⟨a', h1, h2, h3⟩ := h
    exact ⟨μ a', T a', h2, h3, a', h1, rfl, rfl⟩
  | _ => simpa only [AU] using h

/-! ### Tokens of a walk -/
/-- The tokens that came in still live; those of the walk's own accumulators live, and are new ones, all different. -/
structure TK (mtok : Nat → Bool) (nt0 : Nat) (tok : Nat → Bool) (nt : Nat) (os : List Own) : Prop where
  old : ∀ t, mtok t = true → tok t = true
  lt : ∀ t, mtok t = true → t < nt0
  le : nt0 ≤ nt
  own : ∀ o ∈ os, ∀ t, o = .tok t → tok t = true ∧ nt0 ≤ t ∧ t < nt
  ne : os.Pairwise fun a b => ∀ t, a = .tok t → b ≠ .tok t

theorem TK.start {mtok : Nat → Bool} {nt0 : Nat} (h : ∀ t, mtok t = true → t < nt0) : TK mtok nt0 mtok nt0 [] := ⟨fun _ h => h, h, Nat.le_refl _, by simp, .nil⟩
theorem TK.full {mtok : Nat → Bool} {nt0 : Nat} {tok : Nat → Bool} {nt : Nat} {os : List Own} (h : TK mtok nt0 tok nt os) : TK mtok nt0 tok nt (.full :: os) :=
  ⟨h.old, h.lt, h.le, fun o ho t e => by
    rcases List.mem_cons.1 ho with rfl | ho
    · cases e
    · exact h.own o ho t e, .cons (fun b _ t e => by cases e) h.ne⟩
theorem TK.live {mtok : Nat → Bool} {nt0 : Nat} {tok : Nat → Bool} {nt : Nat} {o : Own} {os : List Own} (h : TK mtok nt0 tok nt (o :: os)) : o.liveP tok := by
  cases o with
  | full => trivial
  | tok t => exact (h.own _ (by simp) t rfl).1
theorem TK.tail {mtok : Nat → Bool} {nt0 : Nat} {tok : Nat → Bool} {nt : Nat} {o : Own} {os : List Own} (h : TK mtok nt0 tok nt (o :: os)) : TK mtok nt0 tok nt os :=
  ⟨h.old, h.lt, h.le, fun o' ho => h.own o' (by simp [ho]), (List.pairwise_cons.1 h.ne).2⟩
theorem TK.swap {mtok : Nat → Bool} {nt0 : Nat} {tok : Nat → Bool} {nt : Nat} {a b : Own} {os : List Own} (h : TK mtok nt0 tok nt (a :: b :: os)) : TK mtok nt0 tok nt (b :: a :: os) := by
  have h1 := List.pairwise_cons.1 h.ne
  have h2 := List.pairwise_cons.1 h1.2
  refine ⟨h.old, h.lt, h.le, fun o' ho => h.own o' (by simp at ho ⊢; rcases ho with h | h | h <;> simp [h]), ?_⟩
  refine List.pairwise_cons.2 ⟨fun c hc t e => ?_, List.pairwise_cons.2 ⟨fun c hc => h1.1 c (by simp [hc]), h2.2⟩⟩
  rcases List.mem_cons.1 hc with rfl | hc
  · intro e'
    exact h1.1 b (by simp) t e' e
  · exact h2.1 c hc t e
theorem TK.app {mtok : Nat → Bool} {nt0 : Nat} {tok : Nat → Bool} {nt : Nat} {o : Own} {os : List Own} (h : TK mtok nt0 tok nt (o :: os)) : TK mtok nt0 (upd (o.kill tok) nt true) (nt + 1) (.tok nt :: os) := by
  have hp := List.pairwise_cons.1 h.ne
  have key : ∀ t, t < nt → (∀ t', o = .tok t' → t ≠ t') → (upd (o.kill tok) nt true) t = tok t := by
    intro t ht hne
    rw [upd_other _ _ (by omega)]
    cases o with
    | full => rfl
    | tok t' => simp only [Own.kill]; rw [upd_other _ _ (hne t' rfl)]
  have hle := h.le
  refine ⟨fun t ht => ?_, h.lt, by omega, fun o' ho t e => ?_, ?_⟩
  · have hlt := h.lt t ht
    rw [key t (by omega) (fun t' e => by have := (h.own o (by simp) t' e).2.1; omega)]
    exact h.old t ht
  · rcases List.mem_cons.1 ho with rfl | ho
    · cases e
      exact ⟨by rw [upd_same], hle, by omega⟩
    · obtain ⟨h1, h2, h3⟩ := h.own o' (by simp [ho]) t e
      refine ⟨?_, h2, by omega⟩
      rw [key t h3 (fun t' e' => fun e2 => by subst e2; exact hp.1 o' ho t e' e)]
      exact h1
  · refine List.pairwise_cons.2 ⟨fun b hb t e e' => ?_, hp.2⟩
    cases e
    have := (h.own b (by simp [hb]) _ e').2.2
    omega

theorem Stop.of_b {cx : Cx} {fid : FuncId} {args : List AV} {S : AState} {dst : Option Tmp} {K : AState → Prop} {v : AV} {tok' : Nat → Bool} {nt' : Nat} (h : ACalls P fid args ⟨S.box, cx.nb, S.tok, S.nt⟩ fun v' m' => v' = v ∧ m' = ⟨S.box, cx.nb, tok', nt'⟩)
    (hk : K ⟨putT S.tmps dst v, S.box, tok', nt'⟩) : Stop P cx false fid args S dst K := by
  refine h.mono ?_
  rintro v' m' ⟨rfl, rfl⟩
  exact hk

/-- A box that a call finds lies below its own. -/
theorem key_lt {nb k : Nat} {box : Nat → Option (List (List AV))} {r : List (List AV)} (hbox : lb nb box [] = box) (h : box k = some r) : k < nb := by
  rcases Nat.lt_or_ge k nb with h1 | h1
  · exact h1
  · rw [← hbox] at h
    have : ¬ k < nb := by omega
    simp [lb, lk, this] at h

/-! ### Data of this program -/
abbrev ints (xs : List Int) : D := .sl 1 (xs.map fun n => [D.raw (.int .i64 n)])
abbrev I (n : Int) : AV := .d (.raw (.int .i64 n))
abbrev B (b : Bool) : AV := .d (.raw (.bool b))
structure E where
  ty : Int
  fr : Int
  to : Int
  deriving DecidableEq, Inhabited

abbrev E.cells (e : E) : List D := [.raw (.int .i64 e.ty), .raw (.int .i64 e.fr), .raw (.int .i64 e.to)]
abbrev edges (es : List E) : D := .sl 3 (es.map E.cells)

structure Gr where
  nodes : List Int
  edges : List E
  deriving DecidableEq, Inhabited

structure Mo where
  nodes : List Int
  edges : List Int
  deriving DecidableEq, Inhabited

abbrev Gr.av (g : Gr) : AV := .agg [.d (ints g.nodes), .d (AM.edges g.edges)]
abbrev Mo.av (m : Mo) : AV := .agg [.d (ints m.nodes), .d (ints m.edges)]

@[simp] theorem map_at {α β : Type} (f : α → β) (l : List α) (i : Nat) (d : β) (h : i < l.length) : ((l.map f)[i]?).getD d = f l[i] := by simp [h]

end Go.AM
namespace Go.AM
open Go Go.Proofs
set_option linter.unusedSimpArgs false
set_option linter.unusedVariables false

/-! ### graph.within, fits; ref05.kind, right -/
def withinB (n most : Int) : Bool := decide (0 ≤ n) && decide (n ≤ most)
def fitsB (e : E) (nodes : Int) : Bool := withinB e.ty 99 && (withinB e.fr (nodes - 1) && withinB e.to (nodes - 1))

theorem within_c (n most : Int) (tok : Nat → Bool) (nt : Nat) : DCall Tryz.prog 63 [I n, I most] tok nt (B (withinB n most)) tok nt := by
  intro box nb
  refine ACalls.of_body Tryz.func63 rfl (by kernel_rfl) follows_Tryz (by kernel_rfl) (by simp [Tryz.ntmps63]) ?_
  intro hbox htok
  simp only at hbox htok
  apply AL.start
  repeat (first | refine AL.seq ?_ | refine AL.block ?_ | refine AL.skip ?_ | refine AL.blk ?_)
  refine AL.region follows_Tryz (Nat.le_refl _) (by kernel_rfl) ?_
  simp
  repeat (first | refine AL.seq ?_ | refine AL.block ?_ | refine AL.skip ?_ | refine AL.blk ?_)
  refine AL.region follows_Tryz (Nat.le_refl _) (by kernel_rfl) ?_
  simp
  first | refine Gd.dt (fun h => ?_) (fun h => ?_) | refine Gd.df (fun h => ?_) (fun h => ?_) | refine Gd.t (fun h => ?_) (fun h => ?_) | refine Gd.f (fun h => ?_) (fun h => ?_)
  · simp [h]
    repeat (first | refine AL.seq ?_ | refine AL.block ?_ | refine AL.skip ?_ | refine AL.blk ?_)
    refine AL.ret ?_
    try simp only [AU]
    refine ⟨by simp, Fin.data (by simp [resAs, resA]; rfl) hbox rfl htok (fun _ h => h) (Nat.le_refl _) ?_⟩
    simp [packA, withinB, h]
  · simp [h]
    repeat (first | refine AL.seq ?_ | refine AL.block ?_ | refine AL.skip ?_ | refine AL.blk ?_)
    refine AL.ret ?_
    try simp only [AU]
    refine ⟨by simp, Fin.data (by simp [resAs, resA]; rfl) hbox rfl htok (fun _ h => h) (Nat.le_refl _) ?_⟩
    simp [packA, withinB, h]

theorem fits_c (e : E) (nodes : Int) (h0 : 0 ≤ nodes) (h1 : nodes ≤ 1000000) (tok : Nat → Bool) (nt : Nat) : DCall Tryz.prog 66 [.agg [I e.ty, I e.fr, I e.to], I nodes] tok nt (B (fitsB e nodes)) tok nt := by
  intro box nb
  have hw : IntKind.i64.wrap (nodes - 1) = nodes - 1 := wrap_in (by omega) (by omega)
  refine ACalls.of_body Tryz.func66 rfl (by kernel_rfl) follows_Tryz (by kernel_rfl) (by simp [Tryz.ntmps66]) ?_
  intro hbox htok
  simp only at hbox htok
  apply AL.start
  repeat (first | refine AL.seq ?_ | refine AL.block ?_ | refine AL.skip ?_ | refine AL.blk ?_)
  refine AL.region follows_Tryz (Nat.le_refl _) (by kernel_rfl) ?_
  simp
  repeat (first | refine AL.seq ?_ | refine AL.block ?_ | refine AL.skip ?_ | refine AL.blk ?_)
  refine AL.region follows_Tryz (Nat.le_refl _) (by kernel_rfl) ?_
  simp [hw]
  refine Stop.of_d (within_c _ _ _ _) ?_
  simp [hw]
  first | refine Gd.dt (fun h2 => ?_) (fun h2 => ?_) | refine Gd.df (fun h2 => ?_) (fun h2 => ?_) | refine Gd.t (fun h2 => ?_) (fun h2 => ?_) | refine Gd.f (fun h2 => ?_) (fun h2 => ?_)
  · simp [hw, h2]
    refine Stop.of_d (within_c _ _ _ _) ?_
    simp [hw, h2]
    first | refine Gd.dt (fun h3 => ?_) (fun h3 => ?_) | refine Gd.df (fun h3 => ?_) (fun h3 => ?_) | refine Gd.t (fun h3 => ?_) (fun h3 => ?_) | refine Gd.f (fun h3 => ?_) (fun h3 => ?_)
    · simp [hw, h3]
      refine Stop.of_d (within_c _ _ _ _) ?_
      simp [hw, h2, h3]
      repeat (first | refine AL.seq ?_ | refine AL.block ?_ | refine AL.skip ?_ | refine AL.blk ?_)
      refine AL.ret ?_
      try simp only [AU]
      refine ⟨by simp, Fin.data (by simp [resAs, resA]; rfl) hbox rfl htok (fun _ h => h) (Nat.le_refl _) ?_⟩
      simp [packA, fitsB, h2, h3]
    · simp [h3]
      repeat (first | refine AL.seq ?_ | refine AL.block ?_ | refine AL.skip ?_ | refine AL.blk ?_)
      refine AL.ret ?_
      try simp only [AU]
      refine ⟨by simp, Fin.data (by simp [resAs, resA]; rfl) hbox rfl htok (fun _ h => h) (Nat.le_refl _) ?_⟩
      simp [packA, fitsB, h2, h3]
  · simp [h2]
    repeat (first | refine AL.seq ?_ | refine AL.block ?_ | refine AL.skip ?_ | refine AL.blk ?_)
    refine AL.ret ?_
    try simp only [AU]
    refine ⟨by simp, Fin.data (by simp [resAs, resA]; rfl) hbox rfl htok (fun _ h => h) (Nat.le_refl _) ?_⟩
    simp [packA, fitsB, h2]

theorem valid1_c (n : Int) (tok : Nat → Bool) (nt : Nat) : DCall Tryz.prog 62 [I n] tok nt (B (!withinB n 99)) tok nt := by
  intro box nb
  refine ACalls.of_body Tryz.func62 rfl (by kernel_rfl) follows_Tryz (by kernel_rfl) (by simp [Tryz.ntmps62]) ?_
  intro hbox htok
  simp only at hbox htok
  apply AL.start
  repeat (first | refine AL.seq ?_ | refine AL.block ?_ | refine AL.skip ?_ | refine AL.blk ?_)
  refine AL.region follows_Tryz (Nat.le_refl _) (by kernel_rfl) ?_
  simp
  repeat (first | refine AL.seq ?_ | refine AL.block ?_ | refine AL.skip ?_ | refine AL.blk ?_)
  refine AL.region follows_Tryz (Nat.le_refl _) (by kernel_rfl) ?_
  simp
  refine Stop.of_d (within_c _ _ _ _) ?_
  simp
  repeat (first | refine AL.seq ?_ | refine AL.block ?_ | refine AL.skip ?_ | refine AL.blk ?_)
  refine AL.ret ?_
  try simp only [AU]
  refine ⟨by simp, Fin.data (by simp [resAs, resA]; rfl) hbox rfl htok (fun _ h => h) (Nat.le_refl _) ?_⟩
  simp [packA]

theorem valid2_c (e : E) (g : Gr) (hg : g.nodes.length ≤ 1000000) (tok : Nat → Bool) (nt : Nat) (box : Nat → Option (List (List AV))) (nb k : Nat) (hk : box k = some [[.d (ints g.nodes), .d (AM.edges g.edges)]]) :
    ACalls Tryz.prog 65 [.agg [I e.ty, I e.fr, I e.to], .ptr k 0 0] ⟨box, nb, tok, nt⟩ fun v m => v = B (!fitsB e g.nodes.length) ∧ m = ⟨box, nb, tok, nt⟩ := by
  refine ACalls.of_body Tryz.func65 rfl (by kernel_rfl) follows_Tryz (by kernel_rfl) (by simp [Tryz.ntmps65]) ?_
  intro hbox htok
  simp only at hbox htok
  apply AL.start
  have hkn := key_lt hbox hk
  repeat (first | refine AL.seq ?_ | refine AL.block ?_ | refine AL.skip ?_ | refine AL.blk ?_)
  refine AL.region follows_Tryz (Nat.le_refl _) (by kernel_rfl) ?_
  simp
  repeat (first | refine AL.seq ?_ | refine AL.block ?_ | refine AL.skip ?_ | refine AL.blk ?_)
  refine AL.region follows_Tryz (Nat.le_refl _) (by kernel_rfl) ?_
  simp [lb_out hkn, hk]
  refine Stop.of_d (fits_c e g.nodes.length (by omega) (by omega) _ _) ?_
  simp
  repeat (first | refine AL.seq ?_ | refine AL.block ?_ | refine AL.skip ?_ | refine AL.blk ?_)
  refine AL.ret ?_
  try simp only [AU]
  refine ⟨by simp, Fin.data (by simp [resAs, resA]; rfl) hbox rfl htok (fun _ h => h) (Nat.le_refl _) ?_⟩
  simp [packA]
end Go.AM
/-
  The abstract machine, twentieth part: rows of typed data in boxes, freezing, and the ends of functions.
-/
namespace Go.AM
open Go
set_option linter.unusedSimpArgs false
set_option linter.unusedVariables false

variable {P : Program}

/-! ### Rows, one by one -/
def RowTo (p q : Nat → Prop) (fz : Option (Nat × Nat × List (List D))) (r r' : List AV) : Prop :=
  r.length = r'.length ∧ ∀ j (g1 : j < r.length) (g2 : j < r'.length), To p q fz r[j] r'[j]

section
variable {p q : Nat → Prop} {fz : Option (Nat × Nat × List (List D))}
@[simp] theorem rowTo_nil : RowTo p q fz [] [] := ⟨rfl, fun j h => by simp at h⟩
@[simp] theorem rowTo_cons {x y : AV} {xs ys : List AV} : RowTo p q fz (x :: xs) (y :: ys) ↔ To p q fz x y ∧ RowTo p q fz xs ys := by
  constructor
  · rintro ⟨h1, h2⟩
    refine ⟨h2 0 (by simp) (by simp), by simpa using h1, fun j g1 g2 => ?_⟩
    exact h2 (j + 1) (by simpa using g1) (by simpa using g2)
  · rintro ⟨h1, h2, h3⟩
    refine ⟨by simp [h2], fun j g1 g2 => ?_⟩
    cases j with
    | zero => exact h1
    | succ j => exact h3 j (by simpa using g1) (by simpa using g2)
@[simp] theorem rowsTo_nil : RowsTo p q fz [] [] := ⟨rfl, fun j h => by simp at h⟩
@[simp] theorem rowsTo_cons {x y : List AV} {xs ys : List (List AV)} : RowsTo p q fz (x :: xs) (y :: ys) ↔ RowTo p q fz x y ∧ RowsTo p q fz xs ys := by
  constructor
  · rintro ⟨h1, h2⟩
    refine ⟨h2 0 (by simp) (by simp), by simpa using h1, fun j g1 g2 => ?_⟩
    exact h2 (j + 1) (by simpa using g1) (by simpa using g2)
  · rintro ⟨h1, h2, h3⟩
    refine ⟨by simp [h2], fun j g1 g2 => ?_⟩
    cases j with
    | zero => exact h1
    | succ j => exact h3 j (by simpa using g1) (by simpa using g2)
theorem rowsTo_same {rows : List (List AV)} (h : ∀ r ∈ rows, ∀ x ∈ r, OkIn p q x) : RowsTo p q fz rows rows :=
  ⟨rfl, fun i h1 h2 => ⟨rfl, fun j g1 g2 => .same (h _ (List.getElem_mem _) _ (List.getElem_mem _))⟩⟩
end

/-! ### Rows of numbers, and of data in general -/
def rowsD (es : List (List D)) : List (List AV) := es.map fun e => e.map AV.d

@[simp] theorem rowsD_length (es : List (List D)) : (rowsD es).length = es.length := by simp [rowsD]
@[simp] theorem rowsD_get {es : List (List D)} {i : Nat} (h : i < es.length) : (rowsD es)[i]? = some ((es[i]).map AV.d) := by simp [rowsD, h]
@[simp] theorem rowsTo_D {p q : Nat → Prop} {fz : Option (Nat × Nat × List (List D))} (es : List (List D)) : RowsTo p q fz (rowsD es) (rowsD es) := by
  refine rowsTo_same fun r hr x hx => ?_
  obtain ⟨e, _, rfl⟩ := List.mem_map.1 hr
  obtain ⟨d, _, rfl⟩ := List.mem_map.1 hx
  exact .d

abbrev rI (xs : List Int) : List (List D) := xs.map fun n => [D.raw (.int .i64 n)]
abbrev rE (es : List E) : List (List D) := es.map E.cells

def rowsI (xs : List Int) : List (List AV) := xs.map fun n => [AV.d (.raw (.int .i64 n))]
def rowsE (xs : List E) : List (List AV) := xs.map fun e => [AV.d (.raw (.int .i64 e.ty)), AV.d (.raw (.int .i64 e.fr)), AV.d (.raw (.int .i64 e.to))]
theorem rowsI_eq (xs : List Int) : rowsI xs = rowsD (rI xs) := by simp [rowsI, rowsD, rI]
theorem rowsE_eq (xs : List E) : rowsE xs = rowsD (rE xs) := by simp [rowsE, rowsD, rE, E.cells]
@[simp] theorem rep_rI (n : Nat) : List.replicate n [AV.d (.raw (.int .i64 0))] = rowsI (List.replicate n 0) := by simp [rowsI]
@[simp] theorem rep_rE (n : Nat) : List.replicate n [AV.d (.raw (.int .i64 0)), AV.d (.raw (.int .i64 0)), AV.d (.raw (.int .i64 0))] = rowsE (List.replicate n ⟨0, 0, 0⟩) := by simp [rowsE]
@[simp] theorem set_rI (xs : List Int) (i : Nat) (v : Int) : (rowsI xs).set i [AV.d (.raw (.int .i64 v))] = rowsI (xs.set i v) := by simp [rowsI, List.map_set]
@[simp] theorem set_rE (xs : List E) (i : Nat) (a b c : Int) : (rowsE xs).set i [AV.d (.raw (.int .i64 a)), AV.d (.raw (.int .i64 b)), AV.d (.raw (.int .i64 c))] = rowsE (xs.set i ⟨a, b, c⟩) := by simp [rowsE, List.map_set]
@[simp] theorem rowsI_length (xs : List Int) : (rowsI xs).length = xs.length := by simp [rowsI]
@[simp] theorem rowsE_length (xs : List E) : (rowsE xs).length = xs.length := by simp [rowsE]
@[simp high] theorem rowsI_get {xs : List Int} {i : Nat} (h : i < xs.length) : (rowsI xs)[i]? = some [AV.d (.raw (.int .i64 xs[i]))] := by simp [rowsI, h]
@[simp high] theorem rowsE_get {xs : List E} {i : Nat} (h : i < xs.length) : (rowsE xs)[i]? = some [AV.d (.raw (.int .i64 xs[i].ty)), AV.d (.raw (.int .i64 xs[i].fr)), AV.d (.raw (.int .i64 xs[i].to))] := by simp [rowsE, h]
@[simp] theorem rowsTo_I {p q : Nat → Prop} {fz : Option (Nat × Nat × List (List D))} (xs : List Int) : RowsTo p q fz (rowsI xs) (rowsI xs) := by rw [rowsI_eq]; simp
@[simp] theorem rowsTo_E {p q : Nat → Prop} {fz : Option (Nat × Nat × List (List D))} (xs : List E) : RowsTo p q fz (rowsE xs) (rowsE xs) := by rw [rowsE_eq]; simp

theorem toDs_map : ∀ (e : List D), toDs (e.map AV.d) = some e
  | [] => rfl
  | d :: e => by simp [toDs, AV.toD, toDs_map e]

/-- A box of data becomes data. -/
theorem Weaks.frz {cx : Cx} {nt0 nt : Nat} {l l' : List (Nat × AV)} {out : Nat → Option (List (List AV))} {loc loc' : List (Nat × List (List AV))} {tok : Nat → Bool} (s sz : Nat) (es : List (List D)) (hnt : nt0 ≤ nt) (ho : out = cx.B0)
    (hs : lk loc s = some (rowsD es)) (hs' : lk loc' s = none) (hsz : ∀ e ∈ es, e.length = sz)
    (hl : ToL (fun k => lb cx.base out loc' k ≠ none) (fun _ => True) (some (cx.base + s, sz, es)) l l') (hb : BoxL (fun k => lb cx.base out loc' k ≠ none) (fun _ => True) (some (cx.base + s, sz, es)) loc loc') :
    Weaks cx nt0 ⟨tl l, lb cx.base out loc, tok, nt⟩ ⟨tl l', lb cx.base out loc', tok, nt⟩ := by
  refine ⟨out, loc, loc', some (s, sz, es), rfl, rfl, Nat.le_refl _, hnt, fun t h => ⟨h, .inl rfl⟩, ?_, ?_, ?_, ?_⟩
  · simp only [true_or, Option.map_some]; exact hl.all
  · simp only [true_or, Option.map_some]; exact hb.all
  · rintro s' sz' es' h
    cases h
    refine ⟨hs', rowsD es, hs, by simp, ?_, ?_⟩
    · intro r hr
      obtain ⟨e, he, rfl⟩ := List.mem_map.1 hr
      simpa using hsz e he
    · intro i h1 h2
      have : (rowsD es)[i] = (es[i]).map AV.d := by simp [rowsD]
      rw [this]
      exact toDs_map _
  · intro k rows _ h
    exact .inl (by rw [← ho]; exact h)

@[simp] theorem to_frz {p q : Nat → Prop} {k n sz : Nat} {es : List (List D)} (h : n = es.length) : To p q (some (k, sz, es)) (.msl k 0 n sz) (.d (.sl sz es)) := by
  subst h
  exact .frz rfl

/-- The end of a function in general. -/
theorem Fin.gen {cx : Cx} {nt0 nt nt' : Nat} {rs : List ResultVar} {l : List (Nat × AV)} {out : Nat → Option (List (List AV))} {loc : List (Nat × List (List AV))} {tok tok' : Nat → Bool} {vs : List AV} {av : AV}
    (hres : resAs P ⟨tl l, lb cx.base out loc, tok, nt⟩ rs = some vs) (hbox : lb cx.base out [] = out) (h0 : nt0 ≤ nt') (hnt : nt' ≤ nt) (htok : ∀ t, tok' t = true → tok t = true ∧ (nt' = nt ∨ t < nt'))
    (ho : ∀ k rows, k < cx.base → out k = some rows → cx.B0 k = some rows ∨ ∀ r ∈ rows, ∀ x ∈ r, OkIn (fun k => lb cx.base out [] k ≠ none) (fun t => nt' = nt ∨ t < nt') x)
    (hto : To (fun k => lb cx.base out [] k ≠ none) (fun t => nt' = nt ∨ t < nt') none (packA vs) av) : Fin P cx nt0 rs (fun v' m' => v' = av ∧ m' = ⟨out, cx.base, tok', nt'⟩) ⟨tl l, lb cx.base out loc, tok, nt⟩ :=
  ⟨vs, out, loc, none, av, ⟨out, cx.base, tok', nt'⟩, hres, ⟨rfl, rfl, hnt, h0, htok, fun _ => .bot, fun s rows' h => by simp [lk] at h, (fun _ _ _ h => by cases h),
    ho⟩, hbox.symm, rfl, by simpa using hto, rfl, rfl⟩

/-- The end of a function that hands out what may be appended to. -/
theorem Fin.own {cx : Cx} {nt0 nt : Nat} {rs : List ResultVar} {l : List (Nat × AV)} {out : Nat → Option (List (List AV))} {loc : List (Nat × List (List AV))} {tok : Nat → Bool} {vs : List AV} {av : AV}
    (hres : resAs P ⟨tl l, lb cx.base out loc, tok, nt⟩ rs = some vs) (hbox : lb cx.base out [] = out) (ho : out = cx.B0) (hnt : nt0 ≤ nt)
    (hto : To (fun k => lb cx.base out [] k ≠ none) (fun _ => True) none (packA vs) av) : Fin P cx nt0 rs (fun v' m' => v' = av ∧ m' = ⟨out, cx.base, tok, nt⟩) ⟨tl l, lb cx.base out loc, tok, nt⟩ :=
  Fin.gen hres hbox hnt (Nat.le_refl _) (fun t h => ⟨h, .inl rfl⟩) (fun k rows _ h => .inl (by rw [← ho]; exact h)) (by simpa using hto)

theorem Ext.lb {box box' : Nat → Option (List (List AV))} {nb : Nat} (h : Ext box box') (hb : lb nb box' [] = box') (loc : List (Nat × List (List AV))) : Ext box (AM.lb nb box' loc) := fun k r hk => by
  have h1 := h k r hk
  rw [lb_out (key_lt hb h1)]
  exact h1

theorem OkIn.mono {p p' q q' : Nat → Prop} (hp : ∀ k, p k → p' k) (hq : ∀ k, q k → q' k) {x : AV} (h : OkIn p q x) : OkIn p' q' x := by
  induction h with
  | bot => exact .bot
  | d => exact .d
  | osl h => exact .osl fun t e => hq _ (h t e)
  | cptr => exact .cptr
  | ptr h => exact .ptr (hp _ h)
  | msl h => exact .msl (hp _ h)
  | fn h ih => exact .fn ih
  | agg h ih => exact .agg ih
  | tup h ih => exact .tup ih
  | ex h => exact .ex (hq _ h)

theorem okFn {box : Nat → Option (List (List AV))} {nb : Nat} {caps : List AV} (h : ∀ c ∈ caps, OkIn (fun k => box k ≠ none) (fun _ => True) c) (hb : lb nb box [] = box) (loc : List (Nat × List (List AV))) {p q : Nat → Prop}
    (hp : p = fun k => lb nb box loc k ≠ none) (hq : q = fun _ => True) (f : Fn) : OkIn p q (.fn f caps) := by
  subst hp; subst hq
  refine .fn fun c hc => (h c hc).mono (fun k hk => ?_) fun _ h => h
  obtain ⟨r, hr⟩ := Option.ne_none_iff_exists'.1 hk
  rw [lb_out (key_lt hb hr), hr]
  simp

theorem Fin.mono {cx : Cx} {nt0 : Nat} {rs : List ResultVar} {Q Q' : AV → AMem → Prop} {S : AState} (h : Fin P cx nt0 rs Q S) (hq : ∀ v m, Q v m → Q' v m) : Fin P cx nt0 rs Q' S := by
  obtain ⟨vs, out, loc, fz, av, m', h1, h2, h3, h4, h5, h6⟩ := h
  exact ⟨vs, out, loc, fz, av, m', h1, h2, h3, h4, h5, hq _ _ h6⟩

/-- Another way to see what a call hands out. -/
def Conv (v : AV) (m : AMem) (v' : AV) (m' : AMem) : Prop := m'.nb = m.nb ∧ m'.box = m.box ∧ ∀ G w u, RelM G m w → RV G w v u → ∃ G', RelM G' m' w ∧ RV G' w v' u ∧ Le G w G' w ∧ ∀ k, G.bx k = none → G'.bx k = none

theorem Conv.refl (v : AV) (m : AMem) : Conv v m v m := ⟨rfl, rfl, fun G w u h1 h2 => ⟨G, h1, h2, Le.refl G w, fun _ h => h⟩⟩

theorem Conv.newtok (sz sz' : Nat) (box : Nat → Option (List (List AV))) (nb : Nat) (tok : Nat → Bool) (nt : Nat) : Conv (.osl sz [] .full) ⟨box, nb, tok, nt⟩ (.osl sz' [] (.tok nt)) ⟨box, nb, upd tok nt true, nt + 1⟩ := by
  refine ⟨rfl, rfl, fun G w u hm hv => ⟨G.newtok none, hm.newtok none (fun g h => by cases h), ?_, Le.newtok none, fun k h => h⟩⟩
  have hnt : G.nt = nt := hm.nt
  cases hv with
  | osl h ho =>
    cases h with
    | sl u hcap hmax hsz hA hc hr =>
      refine .osl (.sl (fun _ _ => default) hcap hmax (by simp) (by simp) (fun a _ i j hi _ => by simp at hi) (fun i j hi _ => by simp at hi)) ⟨by simp [Gh.newtok, hnt], fun x hx => ?_⟩
      simp only [Gh.newtok, hnt, upd_same, Option.some.injEq] at hx
      subst hx
      exact ho

theorem ACalls.conv {f : FuncId} {args : List AV} {m : AMem} {Q Q' : AV → AMem → Prop} (h : ACalls P f args m Q) (hq : ∀ v m1, Q v m1 → ∃ v' m', Conv v m1 v' m' ∧ Q' v' m') : ACalls P f args m Q' :=
  ⟨h.1, fun G w vals hm hr => (h.2 G w vals hm hr).mono fun e w' ⟨v, av, m1, G1, h1, h2, h3, h4, h5, h6, h7⟩ => by
    obtain ⟨v', m', ⟨c1, c2, c3⟩, hq'⟩ := hq _ _ h2
    obtain ⟨G2, k1, k2, k3, k4⟩ := c3 G1 w' v h4 h5
    exact ⟨v, v', m', G2, h1, hq', c1.trans h3, k1, k2, h6.trans k3, fun k hk => ⟨k4 k (h7 k hk).1, by rw [c2]; exact (h7 k hk).2⟩⟩⟩

theorem TK.perm {mtok : Nat → Bool} {nt0 : Nat} {tok : Nat → Bool} {nt : Nat} {os os' : List Own} (h : TK mtok nt0 tok nt os) (hp : os.Perm os') : TK mtok nt0 tok nt os' :=
  ⟨h.old, h.lt, h.le, fun o ho => h.own o (hp.mem_iff.2 ho), (List.Perm.pairwise_iff (fun {a b} hab t e e' => hab t e' e) hp).1 h.ne⟩
theorem TK.pick3 {mtok : Nat → Bool} {nt0 : Nat} {tok : Nat → Bool} {nt : Nat} {a b c : Own} {os : List Own} (h : TK mtok nt0 tok nt (a :: b :: c :: os)) : TK mtok nt0 tok nt (c :: a :: b :: os) :=
  h.perm (((List.Perm.swap c b os).cons a).trans (List.Perm.swap c a (b :: os)))
theorem TK.put3 {mtok : Nat → Bool} {nt0 : Nat} {tok : Nat → Bool} {nt : Nat} {a b c : Own} {os : List Own} (h : TK mtok nt0 tok nt (c :: a :: b :: os)) : TK mtok nt0 tok nt (a :: b :: c :: os) :=
  h.perm (((List.Perm.swap c b os).cons a).trans (List.Perm.swap c a (b :: os))).symm
attribute [simp] intsOf convF

end Go.AM
namespace Go.AM
open Go Go.Proofs
set_option linter.unusedSimpArgs false
set_option linter.unusedVariables false

/-! ### slices.Clone -/
theorem clone_c (xs : List Int) (hx : xs.length ≤ 1000000) (tok : Nat → Bool) (nt : Nat) : DCall Tryz.prog 85 [.d (ints xs)] tok nt (.osl 1 (rI xs) (.tok nt)) (upd tok nt true) (nt + 1) := by
  intro box nb
  have main : ACalls Tryz.prog 85 [.d (ints xs)] ⟨box, nb, tok, nt⟩ fun v m => (v = .osl 1 (rI xs) (.tok nt) ∧ m = ⟨box, nb, upd tok nt true, nt + 1⟩) ∨ (xs = [] ∧ v = .osl 0 [] .full ∧ m = ⟨box, nb, tok, nt⟩) := by
    refine ACalls.of_body Tryz.func85 rfl (by kernel_rfl) follows_Tryz (by kernel_rfl) (by simp [Tryz.ntmps85]) ?_
    intro hbox htok
    simp only at hbox htok
    apply AL.start
    repeat (first | refine AL.seq ?_ | refine AL.block ?_ | refine AL.skip ?_ | refine AL.blk ?_)
    refine AL.region follows_Tryz (Nat.le_refl _) (by kernel_rfl) ?_
    simp
    repeat (first | refine AL.seq ?_ | refine AL.block ?_ | refine AL.skip ?_ | refine AL.blk ?_)
    refine AL.region follows_Tryz (Nat.le_refl _) (by kernel_rfl) ?_
    simp
    refine ⟨?_, fun h => ?_⟩
    · repeat (first | refine AL.seq ?_ | refine AL.block ?_ | refine AL.skip ?_ | refine AL.blk ?_)
      refine AL.cond ?_
      simp
      repeat (first | refine AL.seq ?_ | refine AL.block ?_ | refine AL.skip ?_ | refine AL.blk ?_)
      refine AL.region follows_Tryz (Nat.le_refl _) (by kernel_rfl) ?_
      simp
      refine ⟨by omega, ?_⟩
      repeat (first | refine AL.seq ?_ | refine AL.block ?_ | refine AL.skip ?_ | refine AL.blk ?_)
      refine AL.ret ?_
      try simp only [AU]
      refine ⟨by simp, (Fin.own (by simp [resAs, resA]; rfl) hbox rfl (by simp) ?_).mono fun v m hq => .inl hq⟩
      simp [packA]
    · repeat (first | refine AL.seq ?_ | refine AL.block ?_ | refine AL.skip ?_ | refine AL.blk ?_)
      refine AL.cond ?_
      simp
      repeat (first | refine AL.seq ?_ | refine AL.block ?_ | refine AL.skip ?_ | refine AL.blk ?_)
      refine AL.region follows_Tryz (Nat.le_refl _) (by kernel_rfl) ?_
      simp
      repeat (first | refine AL.seq ?_ | refine AL.block ?_ | refine AL.skip ?_ | refine AL.blk ?_)
      refine AL.ret ?_
      try simp only [AU]
      refine ⟨by simp, (Fin.own (by simp [resAs, resA]; rfl) hbox rfl (Nat.le_refl _) ?_).mono fun v m hq => .inr ⟨h, hq.1, hq.2⟩⟩
      simp [packA]
  refine main.conv fun v m h => ?_
  rcases h with ⟨rfl, rfl⟩ | ⟨rfl, rfl, rfl⟩
  · exact ⟨_, _, Conv.refl _ _, rfl, rfl⟩
  · exact ⟨_, _, Conv.newtok 0 1 box nb tok nt, rfl, rfl⟩

theorem cloneE_c (xs : List E) (hx : xs.length ≤ 1000000) (tok : Nat → Bool) (nt : Nat) : DCall Tryz.prog 122 [.d (AM.edges xs)] tok nt (.osl 3 (rE xs) (.tok nt)) (upd tok nt true) (nt + 1) := by
  intro box nb
  have main : ACalls Tryz.prog 122 [.d (AM.edges xs)] ⟨box, nb, tok, nt⟩ fun v m => (v = .osl 3 (rE xs) (.tok nt) ∧ m = ⟨box, nb, upd tok nt true, nt + 1⟩) ∨ (xs = [] ∧ v = .osl 0 [] .full ∧ m = ⟨box, nb, tok, nt⟩) := by
    refine ACalls.of_body Tryz.func122 rfl (by kernel_rfl) follows_Tryz (by kernel_rfl) (by simp [Tryz.ntmps122]) ?_
    intro hbox htok
    simp only at hbox htok
    apply AL.start
    repeat (first | refine AL.seq ?_ | refine AL.block ?_ | refine AL.skip ?_ | refine AL.blk ?_)
    refine AL.region follows_Tryz (Nat.le_refl _) (by kernel_rfl) ?_
    simp
    repeat (first | refine AL.seq ?_ | refine AL.block ?_ | refine AL.skip ?_ | refine AL.blk ?_)
    refine AL.region follows_Tryz (Nat.le_refl _) (by kernel_rfl) ?_
    simp
    refine ⟨?_, fun h => ?_⟩
    · repeat (first | refine AL.seq ?_ | refine AL.block ?_ | refine AL.skip ?_ | refine AL.blk ?_)
      refine AL.cond ?_
      simp
      repeat (first | refine AL.seq ?_ | refine AL.block ?_ | refine AL.skip ?_ | refine AL.blk ?_)
      refine AL.region follows_Tryz (Nat.le_refl _) (by kernel_rfl) ?_
      simp
      refine ⟨by omega, ?_⟩
      repeat (first | refine AL.seq ?_ | refine AL.block ?_ | refine AL.skip ?_ | refine AL.blk ?_)
      refine AL.ret ?_
      try simp only [AU]
      refine ⟨by simp, (Fin.own (by simp [resAs, resA]; rfl) hbox rfl (by simp) ?_).mono fun v m hq => .inl hq⟩
      simp [packA]
    · repeat (first | refine AL.seq ?_ | refine AL.block ?_ | refine AL.skip ?_ | refine AL.blk ?_)
      refine AL.cond ?_
      simp
      repeat (first | refine AL.seq ?_ | refine AL.block ?_ | refine AL.skip ?_ | refine AL.blk ?_)
      refine AL.region follows_Tryz (Nat.le_refl _) (by kernel_rfl) ?_
      simp
      repeat (first | refine AL.seq ?_ | refine AL.block ?_ | refine AL.skip ?_ | refine AL.blk ?_)
      refine AL.ret ?_
      try simp only [AU]
      refine ⟨by simp, (Fin.own (by simp [resAs, resA]; rfl) hbox rfl (Nat.le_refl _) ?_).mono fun v m hq => .inr ⟨h, hq.1, hq.2⟩⟩
      simp [packA]
  refine main.conv fun v m h => ?_
  rcases h with ⟨rfl, rfl⟩ | ⟨rfl, rfl, rfl⟩
  · exact ⟨_, _, Conv.refl _ _, rfl, rfl⟩
  · exact ⟨_, _, Conv.newtok 0 3 box nb tok nt, rfl, rfl⟩

/-! ### slices.Index, Contains -/
def indexI (xs : List Int) (v : Int) : Int := if v ∈ xs then (xs.idxOf v : Int) else -1

def st66 (xs : List Int) (v : Int) (nb : Nat) (box : Nat → Option (List (List AV))) (tok : Nat → Bool) (nt : Nat) (i : Nat) : AState := ⟨tl [(0, .d (ints xs)), (1, I v), (7, I xs.length), (8, I i)], lb nb box [], tok, nt⟩

theorem index_c (xs : List Int) (v : Int) (hx : xs.length ≤ 1000000) (tok : Nat → Bool) (nt : Nat) : DCall Tryz.prog 89 [.d (ints xs), I v] tok nt (I (indexI xs v)) tok nt := by
  intro box nb
  refine ACalls.of_body Tryz.func89 rfl (by kernel_rfl) follows_Tryz (by kernel_rfl) (by simp [Tryz.ntmps89]) ?_
  intro hbox htok
  simp only at hbox htok
  apply AL.start
  repeat (first | refine AL.seq ?_ | refine AL.block ?_ | refine AL.skip ?_ | refine AL.blk ?_)
  refine AL.region follows_Tryz (Nat.le_refl _) (by kernel_rfl) ?_
  simp
  repeat (first | refine AL.seq ?_ | refine AL.block ?_ | refine AL.skip ?_ | refine AL.blk ?_)
  refine AL.region follows_Tryz (Nat.le_refl _) (by kernel_rfl) ?_
  simp
  repeat (first | refine AL.seq ?_ | refine AL.block ?_ | refine AL.skip ?_ | refine AL.blk ?_)
  refine AL.loopT (st66 xs v nb box tok nt) (fun i => i ≤ xs.length ∧ v ∉ xs.take i) (fun i => xs.length - i) 0 ⟨Nat.zero_le _, by simp⟩ (Weaks.mk (Nat.le_refl _) rfl (by simp [ToL]) trivial) ?_
  rintro i S ⟨hi, htk⟩ hS
  simp only [st66] at hS
  subst hS
  have hw : IntKind.i64.wrap (↑i + 1) = ((i + 1 : Nat) : Int) := by rw [wrap_in (by omega) (by omega)]; rfl
  repeat (first | refine AL.seq ?_ | refine AL.block ?_ | refine AL.skip ?_ | refine AL.blk ?_)
  refine AL.region follows_Tryz (Nat.le_refl _) (by kernel_rfl) ?_
  simp
  repeat (first | refine AL.seq ?_ | refine AL.block ?_ | refine AL.skip ?_ | refine AL.blk ?_)
  refine AL.cond ?_
  simp
  refine ⟨fun hlt => ?_, fun hge => ?_⟩
  · have hsp : xs = xs.take i ++ xs[i] :: xs.drop (i + 1) := by simp
    repeat (first | refine AL.seq ?_ | refine AL.block ?_ | refine AL.skip ?_ | refine AL.blk ?_)
    refine AL.region follows_Tryz (Nat.le_refl _) (by kernel_rfl) ?_
    simp
    repeat (first | refine AL.seq ?_ | refine AL.block ?_ | refine AL.skip ?_ | refine AL.blk ?_)
    refine AL.region follows_Tryz (Nat.le_refl _) (by kernel_rfl) ?_
    simp [hlt]
    repeat (first | refine AL.seq ?_ | refine AL.block ?_ | refine AL.skip ?_ | refine AL.blk ?_)
    refine AL.cond ?_
    simp
    refine ⟨fun he => ?_, fun hne => ?_⟩
    · repeat (first | refine AL.seq ?_ | refine AL.block ?_ | refine AL.skip ?_ | refine AL.blk ?_)
      refine AL.region follows_Tryz (Nat.le_refl _) (by kernel_rfl) ?_
      simp
      have hmem : v ∈ xs := by rw [he]; exact List.getElem_mem _
      have hid : xs.idxOf v = i := by
        unfold List.idxOf
        rw [List.findIdx_eq hlt]
        refine ⟨by simp [he], fun j hj => ?_⟩
        have : xs[j] ≠ v := fun e => htk (by rw [← e, List.mem_take_iff_getElem]; exact ⟨j, by omega, rfl⟩)
        simpa using this
      repeat (first | refine AL.seq ?_ | refine AL.block ?_ | refine AL.skip ?_ | refine AL.blk ?_)
      refine AL.ret ?_
      try simp only [AU]
      refine ⟨by simp, Fin.data (by simp [resAs, resA]; rfl) hbox rfl htok (fun _ h => h) (Nat.le_refl _) ?_⟩
      simp [packA, indexI, hmem, hid]
    · repeat (first | refine AL.seq ?_ | refine AL.block ?_ | refine AL.skip ?_ | refine AL.blk ?_)
      refine AL.region follows_Tryz (Nat.le_refl _) (by kernel_rfl) ?_
      simp [hw]
      repeat (first | refine AL.seq ?_ | refine AL.block ?_ | refine AL.skip ?_ | refine AL.blk ?_)
      refine AL.nil ?_
      refine ⟨i + 1, ⟨hlt, ?_⟩, by omega, Weaks.mk (Nat.le_refl _) rfl (by simp [ToL]) trivial⟩
      rw [List.take_succ_eq_append_getElem hlt]
      simp only [List.mem_append, List.mem_singleton, not_or]
      exact ⟨htk, hne⟩
  · repeat (first | refine AL.seq ?_ | refine AL.block ?_ | refine AL.skip ?_ | refine AL.blk ?_)
    refine AL.exit ?_
    simp only [AU, ↓reduceIte]
    repeat (first | refine AL.seq ?_ | refine AL.block ?_ | refine AL.skip ?_ | refine AL.blk ?_)
    refine AL.region follows_Tryz (Nat.le_refl _) (by kernel_rfl) ?_
    simp
    have hn : v ∉ xs := by rwa [List.take_of_length_le hge] at htk
    repeat (first | refine AL.seq ?_ | refine AL.block ?_ | refine AL.skip ?_ | refine AL.blk ?_)
    refine AL.ret ?_
    try simp only [AU]
    refine ⟨by simp, Fin.data (by simp [resAs, resA]; rfl) hbox rfl htok (fun _ h => h) (Nat.le_refl _) ?_⟩
    simp [packA, indexI, hn]

theorem indexI_nonneg (xs : List Int) (v : Int) : (0 ≤ indexI xs v) ↔ v ∈ xs := by
  unfold indexI
  split <;> simp [*]

theorem contains_c (xs : List Int) (v : Int) (hx : xs.length ≤ 1000000) (tok : Nat → Bool) (nt : Nat) : DCall Tryz.prog 73 [.d (ints xs), I v] tok nt (B (decide (v ∈ xs))) tok nt := by
  intro box nb
  refine ACalls.of_body Tryz.func73 rfl (by kernel_rfl) follows_Tryz (by kernel_rfl) (by simp [Tryz.ntmps73]) ?_
  intro hbox htok
  simp only at hbox htok
  apply AL.start
  repeat (first | refine AL.seq ?_ | refine AL.block ?_ | refine AL.skip ?_ | refine AL.blk ?_)
  refine AL.region follows_Tryz (Nat.le_refl _) (by kernel_rfl) ?_
  simp
  repeat (first | refine AL.seq ?_ | refine AL.block ?_ | refine AL.skip ?_ | refine AL.blk ?_)
  refine AL.region follows_Tryz (Nat.le_refl _) (by kernel_rfl) ?_
  simp
  refine Stop.of_d (index_c xs v hx _ _) ?_
  simp
  repeat (first | refine AL.seq ?_ | refine AL.block ?_ | refine AL.skip ?_ | refine AL.blk ?_)
  refine AL.ret ?_
  try simp only [AU]
  refine ⟨by simp, Fin.data (by simp [resAs, resA]; rfl) hbox rfl htok (fun _ h => h) (Nat.le_refl _) ?_⟩
  simp [packA, indexI_nonneg]

/-! ### slices.IndexFunc, ContainsFunc -/
def findI {α : Type} (p : α → Bool) (xs : List α) : Int := if xs.any p then (xs.findIdx p : Int) else -1

def anyB {α : Type} (p : α → Bool) (xs : List α) : Bool := xs.any p

theorem findI_nonneg {α : Type} (p : α → Bool) (xs : List α) : (0 ≤ findI p xs) ↔ xs.any p = true := by
  unfold findI
  split <;> simp [*]

theorem any_take {α : Type} {p : α → Bool} {xs : List α} {i : Nat} (h : i < xs.length) (h1 : ∀ x ∈ xs.take i, p x = false) (h2 : p xs[i] = true) : xs.any p = true ∧ xs.findIdx p = i := by
  have hany : xs.any p = true := List.any_eq_true.2 ⟨_, List.getElem_mem h, h2⟩
  refine ⟨hany, ?_⟩
  rw [List.findIdx_eq h]
  refine ⟨h2, fun j hj => ?_⟩
  have := h1 xs[j] (by
    rw [List.mem_take_iff_getElem]
    exact ⟨j, by omega, rfl⟩)
  simpa using this

def st96 (xs : List Int) (f : FuncId) (caps : List AV) (nb : Nat) (box : Nat → Option (List (List AV))) (tok : Nat → Bool) (nt : Nat) (i : Nat) : AState := ⟨tl [(0, .d (ints xs)), (1, .fn (.func f) caps), (7, I xs.length), (8, I i)], lb nb box [], tok, nt⟩

theorem indexFunc_c (xs : List Int) (f : FuncId) (caps : List AV) (p : Int → Bool) (hx : xs.length ≤ 1000000) (box : Nat → Option (List (List AV))) (nb : Nat) (tok : Nat → Bool) (nt : Nat) (hc : ∀ c ∈ caps, OkIn (fun k => box k ≠ none) (fun _ => True) c)
    (hf : ∀ x ∈ xs, ∀ box' nb', Ext box box' → ACalls Tryz.prog f (I x :: caps) ⟨box', nb', tok, nt⟩ fun v m => v = B (p x) ∧ m = ⟨box', nb', tok, nt⟩) :
    ACalls Tryz.prog 80 [.d (ints xs), .fn (.func f) caps] ⟨box, nb, tok, nt⟩ fun v m => v = I (findI p xs) ∧ m = ⟨box, nb, tok, nt⟩ := by
  refine ACalls.of_body Tryz.func80 rfl (by kernel_rfl) follows_Tryz (by kernel_rfl) (by simp [Tryz.ntmps80]) ?_
  intro hbox htok
  simp only at hbox htok
  apply AL.start
  repeat (first | refine AL.seq ?_ | refine AL.block ?_ | refine AL.skip ?_ | refine AL.blk ?_)
  refine AL.region follows_Tryz (Nat.le_refl _) (by kernel_rfl) ?_
  simp
  repeat (first | refine AL.seq ?_ | refine AL.block ?_ | refine AL.skip ?_ | refine AL.blk ?_)
  refine AL.region follows_Tryz (Nat.le_refl _) (by kernel_rfl) ?_
  simp
  repeat (first | refine AL.seq ?_ | refine AL.block ?_ | refine AL.skip ?_ | refine AL.blk ?_)
  refine AL.loopT (st96 xs f caps nb box tok nt) (fun i => i ≤ xs.length ∧ ∀ x ∈ xs.take i, p x = false) (fun i => xs.length - i) 0 ⟨Nat.zero_le _, by simp⟩ (Weaks.mk (Nat.le_refl _) rfl (by simp [ToL]; exact .same (okFn hc hbox [] (by simp) rfl _)) trivial) ?_
  rintro i S ⟨hi, htk⟩ hS
  simp only [st96] at hS
  subst hS
  have hw : IntKind.i64.wrap (↑i + 1) = ((i + 1 : Nat) : Int) := by rw [wrap_in (by omega) (by omega)]; rfl
  repeat (first | refine AL.seq ?_ | refine AL.block ?_ | refine AL.skip ?_ | refine AL.blk ?_)
  refine AL.region follows_Tryz (Nat.le_refl _) (by kernel_rfl) ?_
  simp
  repeat (first | refine AL.seq ?_ | refine AL.block ?_ | refine AL.skip ?_ | refine AL.blk ?_)
  refine AL.cond ?_
  simp
  refine ⟨fun hlt => ?_, fun hge => ?_⟩
  · repeat (first | refine AL.seq ?_ | refine AL.block ?_ | refine AL.skip ?_ | refine AL.blk ?_)
    refine AL.region follows_Tryz (Nat.le_refl _) (by kernel_rfl) ?_
    simp
    repeat (first | refine AL.seq ?_ | refine AL.block ?_ | refine AL.skip ?_ | refine AL.blk ?_)
    refine AL.region follows_Tryz (Nat.le_refl _) (by kernel_rfl) ?_
    simp [hlt]
    refine Stop.of_b (hf xs[i] (List.getElem_mem _) _ _ ((Ext.refl box).lb hbox [])) ?_
    simp
    repeat (first | refine AL.seq ?_ | refine AL.block ?_ | refine AL.skip ?_ | refine AL.blk ?_)
    refine AL.cond ?_
    simp
    refine ⟨fun he => ?_, fun hne => ?_⟩
    · repeat (first | refine AL.seq ?_ | refine AL.block ?_ | refine AL.skip ?_ | refine AL.blk ?_)
      refine AL.region follows_Tryz (Nat.le_refl _) (by kernel_rfl) ?_
      simp
      obtain ⟨h1, h2⟩ := any_take hlt htk he
      repeat (first | refine AL.seq ?_ | refine AL.block ?_ | refine AL.skip ?_ | refine AL.blk ?_)
      refine AL.ret ?_
      try simp only [AU]
      refine ⟨by simp, Fin.data (by simp [resAs, resA]; rfl) hbox rfl htok (fun _ h => h) (Nat.le_refl _) ?_⟩
      simp [packA, findI, h1, h2]
    · repeat (first | refine AL.seq ?_ | refine AL.block ?_ | refine AL.skip ?_ | refine AL.blk ?_)
      refine AL.region follows_Tryz (Nat.le_refl _) (by kernel_rfl) ?_
      simp [hw]
      repeat (first | refine AL.seq ?_ | refine AL.block ?_ | refine AL.skip ?_ | refine AL.blk ?_)
      refine AL.nil ?_
      refine ⟨i + 1, ⟨hlt, ?_⟩, by omega, Weaks.mk (Nat.le_refl _) rfl (by simp [ToL]; exact .same (okFn hc hbox [] (by simp) rfl _)) trivial⟩
      rw [List.take_succ_eq_append_getElem hlt]
      intro x hx
      rcases List.mem_append.1 hx with hx | hx
      · exact htk x hx
      · simp at hx; rw [hx]; exact hne
  · repeat (first | refine AL.seq ?_ | refine AL.block ?_ | refine AL.skip ?_ | refine AL.blk ?_)
    refine AL.exit ?_
    simp only [AU, ↓reduceIte]
    repeat (first | refine AL.seq ?_ | refine AL.block ?_ | refine AL.skip ?_ | refine AL.blk ?_)
    refine AL.region follows_Tryz (Nat.le_refl _) (by kernel_rfl) ?_
    simp
    have hn : xs.any p = false := by
      rw [List.take_of_length_le hge] at htk
      simpa using htk
    repeat (first | refine AL.seq ?_ | refine AL.block ?_ | refine AL.skip ?_ | refine AL.blk ?_)
    refine AL.ret ?_
    try simp only [AU]
    refine ⟨by simp, Fin.data (by simp [resAs, resA]; rfl) hbox rfl htok (fun _ h => h) (Nat.le_refl _) ?_⟩
    simp [packA, findI, hn]

theorem containsFunc_c (xs : List Int) (f : FuncId) (caps : List AV) (p : Int → Bool) (hx : xs.length ≤ 1000000) (box : Nat → Option (List (List AV))) (nb : Nat) (tok : Nat → Bool) (nt : Nat) (hc : ∀ c ∈ caps, OkIn (fun k => box k ≠ none) (fun _ => True) c)
    (hf : ∀ x ∈ xs, ∀ box' nb', Ext box box' → ACalls Tryz.prog f (I x :: caps) ⟨box', nb', tok, nt⟩ fun v m => v = B (p x) ∧ m = ⟨box', nb', tok, nt⟩) :
    ACalls Tryz.prog 61 [.d (ints xs), .fn (.func f) caps] ⟨box, nb, tok, nt⟩ fun v m => v = B (anyB p xs) ∧ m = ⟨box, nb, tok, nt⟩ := by
  refine ACalls.of_body Tryz.func61 rfl (by kernel_rfl) follows_Tryz (by kernel_rfl) (by simp [Tryz.ntmps61]) ?_
  intro hbox htok
  simp only at hbox htok
  apply AL.start
  repeat (first | refine AL.seq ?_ | refine AL.block ?_ | refine AL.skip ?_ | refine AL.blk ?_)
  refine AL.region follows_Tryz (Nat.le_refl _) (by kernel_rfl) ?_
  simp
  repeat (first | refine AL.seq ?_ | refine AL.block ?_ | refine AL.skip ?_ | refine AL.blk ?_)
  refine AL.region follows_Tryz (Nat.le_refl _) (by kernel_rfl) ?_
  simp
  refine Stop.of_b (indexFunc_c xs f caps p hx (lb nb box []) _ _ _ (fun c h => (hc c h).mono (fun k hk => by rw [hbox]; exact hk) fun _ h => h) (fun x hx' box' nb' he => hf x hx' box' nb' (by rw [hbox] at he; exact he))) ?_
  simp
  have hany : decide (∃ x, x ∈ xs ∧ p x = true) = anyB p xs := by rw [Bool.eq_iff_iff]; simp [anyB]
  repeat (first | refine AL.seq ?_ | refine AL.block ?_ | refine AL.skip ?_ | refine AL.blk ?_)
  refine AL.ret ?_
  try simp only [AU]
  refine ⟨by simp, Fin.data (by simp [resAs, resA]; rfl) hbox rfl htok (fun _ h => h) (Nat.le_refl _) ?_⟩
  simp [packA, findI_nonneg, hany]
def st97 (xs : List E) (f : FuncId) (caps : List AV) (nb : Nat) (box : Nat → Option (List (List AV))) (tok : Nat → Bool) (nt : Nat) (i : Nat) : AState := ⟨tl [(0, .d (AM.edges xs)), (1, .fn (.func f) caps), (7, I xs.length), (8, I i)], lb nb box [], tok, nt⟩

theorem indexFuncE_c (xs : List E) (f : FuncId) (caps : List AV) (p : E → Bool) (hx : xs.length ≤ 1000000) (box : Nat → Option (List (List AV))) (nb : Nat) (tok : Nat → Bool) (nt : Nat) (hc : ∀ c ∈ caps, OkIn (fun k => box k ≠ none) (fun _ => True) c)
    (hf : ∀ x ∈ xs, ∀ box' nb', Ext box box' → ACalls Tryz.prog f (.agg [I x.ty, I x.fr, I x.to] :: caps) ⟨box', nb', tok, nt⟩ fun v m => v = B (p x) ∧ m = ⟨box', nb', tok, nt⟩) :
    ACalls Tryz.prog 81 [.d (AM.edges xs), .fn (.func f) caps] ⟨box, nb, tok, nt⟩ fun v m => v = I (findI p xs) ∧ m = ⟨box, nb, tok, nt⟩ := by
  refine ACalls.of_body Tryz.func81 rfl (by kernel_rfl) follows_Tryz (by kernel_rfl) (by simp [Tryz.ntmps81]) ?_
  intro hbox htok
  simp only at hbox htok
  apply AL.start
  repeat (first | refine AL.seq ?_ | refine AL.block ?_ | refine AL.skip ?_ | refine AL.blk ?_)
  refine AL.region follows_Tryz (Nat.le_refl _) (by kernel_rfl) ?_
  simp
  repeat (first | refine AL.seq ?_ | refine AL.block ?_ | refine AL.skip ?_ | refine AL.blk ?_)
  refine AL.region follows_Tryz (Nat.le_refl _) (by kernel_rfl) ?_
  simp
  repeat (first | refine AL.seq ?_ | refine AL.block ?_ | refine AL.skip ?_ | refine AL.blk ?_)
  refine AL.loopT (st97 xs f caps nb box tok nt) (fun i => i ≤ xs.length ∧ ∀ x ∈ xs.take i, p x = false) (fun i => xs.length - i) 0 ⟨Nat.zero_le _, by simp⟩ (Weaks.mk (Nat.le_refl _) rfl (by simp [ToL]; exact .same (okFn hc hbox [] (by simp) rfl _)) trivial) ?_
  rintro i S ⟨hi, htk⟩ hS
  simp only [st97] at hS
  subst hS
  have hw : IntKind.i64.wrap (↑i + 1) = ((i + 1 : Nat) : Int) := by rw [wrap_in (by omega) (by omega)]; rfl
  repeat (first | refine AL.seq ?_ | refine AL.block ?_ | refine AL.skip ?_ | refine AL.blk ?_)
  refine AL.region follows_Tryz (Nat.le_refl _) (by kernel_rfl) ?_
  simp
  repeat (first | refine AL.seq ?_ | refine AL.block ?_ | refine AL.skip ?_ | refine AL.blk ?_)
  refine AL.cond ?_
  simp
  refine ⟨fun hlt => ?_, fun hge => ?_⟩
  · repeat (first | refine AL.seq ?_ | refine AL.block ?_ | refine AL.skip ?_ | refine AL.blk ?_)
    refine AL.region follows_Tryz (Nat.le_refl _) (by kernel_rfl) ?_
    simp
    repeat (first | refine AL.seq ?_ | refine AL.block ?_ | refine AL.skip ?_ | refine AL.blk ?_)
    refine AL.region follows_Tryz (Nat.le_refl _) (by kernel_rfl) ?_
    simp [hlt]
    refine Stop.of_b (hf xs[i] (List.getElem_mem _) _ _ ((Ext.refl box).lb hbox [])) ?_
    simp
    repeat (first | refine AL.seq ?_ | refine AL.block ?_ | refine AL.skip ?_ | refine AL.blk ?_)
    refine AL.cond ?_
    simp
    refine ⟨fun he => ?_, fun hne => ?_⟩
    · repeat (first | refine AL.seq ?_ | refine AL.block ?_ | refine AL.skip ?_ | refine AL.blk ?_)
      refine AL.region follows_Tryz (Nat.le_refl _) (by kernel_rfl) ?_
      simp
      obtain ⟨h1, h2⟩ := any_take hlt htk he
      repeat (first | refine AL.seq ?_ | refine AL.block ?_ | refine AL.skip ?_ | refine AL.blk ?_)
      refine AL.ret ?_
      try simp only [AU]
      refine ⟨by simp, Fin.data (by simp [resAs, resA]; rfl) hbox rfl htok (fun _ h => h) (Nat.le_refl _) ?_⟩
      simp [packA, findI, h1, h2]
    · repeat (first | refine AL.seq ?_ | refine AL.block ?_ | refine AL.skip ?_ | refine AL.blk ?_)
      refine AL.region follows_Tryz (Nat.le_refl _) (by kernel_rfl) ?_
      simp [hw]
      repeat (first | refine AL.seq ?_ | refine AL.block ?_ | refine AL.skip ?_ | refine AL.blk ?_)
      refine AL.nil ?_
      refine ⟨i + 1, ⟨hlt, ?_⟩, by omega, Weaks.mk (Nat.le_refl _) rfl (by simp [ToL]; exact .same (okFn hc hbox [] (by simp) rfl _)) trivial⟩
      rw [List.take_succ_eq_append_getElem hlt]
      intro x hx
      rcases List.mem_append.1 hx with hx | hx
      · exact htk x hx
      · simp at hx; rw [hx]; exact hne
  · repeat (first | refine AL.seq ?_ | refine AL.block ?_ | refine AL.skip ?_ | refine AL.blk ?_)
    refine AL.exit ?_
    simp only [AU, ↓reduceIte]
    repeat (first | refine AL.seq ?_ | refine AL.block ?_ | refine AL.skip ?_ | refine AL.blk ?_)
    refine AL.region follows_Tryz (Nat.le_refl _) (by kernel_rfl) ?_
    simp
    have hn : xs.any p = false := by
      rw [List.take_of_length_le hge] at htk
      simpa using htk
    repeat (first | refine AL.seq ?_ | refine AL.block ?_ | refine AL.skip ?_ | refine AL.blk ?_)
    refine AL.ret ?_
    try simp only [AU]
    refine ⟨by simp, Fin.data (by simp [resAs, resA]; rfl) hbox rfl htok (fun _ h => h) (Nat.le_refl _) ?_⟩
    simp [packA, findI, hn]

theorem containsFuncE_c (xs : List E) (f : FuncId) (caps : List AV) (p : E → Bool) (hx : xs.length ≤ 1000000) (box : Nat → Option (List (List AV))) (nb : Nat) (tok : Nat → Bool) (nt : Nat) (hc : ∀ c ∈ caps, OkIn (fun k => box k ≠ none) (fun _ => True) c)
    (hf : ∀ x ∈ xs, ∀ box' nb', Ext box box' → ACalls Tryz.prog f (.agg [I x.ty, I x.fr, I x.to] :: caps) ⟨box', nb', tok, nt⟩ fun v m => v = B (p x) ∧ m = ⟨box', nb', tok, nt⟩) :
    ACalls Tryz.prog 64 [.d (AM.edges xs), .fn (.func f) caps] ⟨box, nb, tok, nt⟩ fun v m => v = B (anyB p xs) ∧ m = ⟨box, nb, tok, nt⟩ := by
  refine ACalls.of_body Tryz.func64 rfl (by kernel_rfl) follows_Tryz (by kernel_rfl) (by simp [Tryz.ntmps64]) ?_
  intro hbox htok
  simp only at hbox htok
  apply AL.start
  repeat (first | refine AL.seq ?_ | refine AL.block ?_ | refine AL.skip ?_ | refine AL.blk ?_)
  refine AL.region follows_Tryz (Nat.le_refl _) (by kernel_rfl) ?_
  simp
  repeat (first | refine AL.seq ?_ | refine AL.block ?_ | refine AL.skip ?_ | refine AL.blk ?_)
  refine AL.region follows_Tryz (Nat.le_refl _) (by kernel_rfl) ?_
  simp
  refine Stop.of_b (indexFuncE_c xs f caps p hx (lb nb box []) _ _ _ (fun c h => (hc c h).mono (fun k hk => by rw [hbox]; exact hk) fun _ h => h) (fun x hx' box' nb' he => hf x hx' box' nb' (by rw [hbox] at he; exact he))) ?_
  simp
  have hany : decide (∃ x, x ∈ xs ∧ p x = true) = anyB p xs := by rw [Bool.eq_iff_iff]; simp [anyB]
  repeat (first | refine AL.seq ?_ | refine AL.block ?_ | refine AL.skip ?_ | refine AL.blk ?_)
  refine AL.ret ?_
  try simp only [AU]
  refine ⟨by simp, Fin.data (by simp [resAs, resA]; rfl) hbox rfl htok (fun _ h => h) (Nat.le_refl _) ?_⟩
  simp [packA, findI_nonneg, hany]
end Go.AM
