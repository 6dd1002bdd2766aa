import Derived.Test.YtbihadcpidlfoaaPST3
import Derived.Test.YtbihadcpidlfoaaRows
/-
  The types of this seat's program, as the abstract machine asks for them. Written by a program (wip/am/gentab.py).
-/
namespace Go.AM
open Go Go.Proofs
theorem follows_Try : Try.prog.follows .mixedOrders = true := by kernel_rfl
@[simp] theorem szOf_1 : szOf Try.prog 1 = some 1 := by kernel_rfl
@[simp] theorem aggT_1 : aggT Try.prog 1 = some false := by kernel_rfl
@[simp] theorem zeroT_1 : zeroT Try.prog 1 = some [.nilFunc] := by kernel_rfl
@[simp] theorem szOf_2 : szOf Try.prog 2 = some 1 := by kernel_rfl
@[simp] theorem aggT_2 : aggT Try.prog 2 = some false := by kernel_rfl
@[simp] theorem strT_2 : strT Try.prog 2 = false := by kernel_rfl
@[simp] theorem boolT_2 : boolT Try.prog 2 = false := by kernel_rfl
@[simp] theorem elemT_2 : elemT Try.prog 2 = none := by kernel_rfl
@[simp] theorem rowT_2 : rowT Try.prog 2 = none := by kernel_rfl
@[simp] theorem kindT_2 : kindT Try.prog 2 = some .i64 := by kernel_rfl
@[simp] theorem zeroT_2 : zeroT Try.prog 2 = some [.int .i64 0] := by kernel_rfl
@[simp] theorem szOf_3 : szOf Try.prog 3 = some 1 := by kernel_rfl
@[simp] theorem aggT_3 : aggT Try.prog 3 = some false := by kernel_rfl
@[simp] theorem strT_3 : strT Try.prog 3 = false := by kernel_rfl
@[simp] theorem boolT_3 : boolT Try.prog 3 = false := by kernel_rfl
@[simp] theorem elemT_3 : elemT Try.prog 3 = none := by kernel_rfl
@[simp] theorem rowT_3 : rowT Try.prog 3 = none := by kernel_rfl
@[simp] theorem kindT_3 : kindT Try.prog 3 = some .i64 := by kernel_rfl
@[simp] theorem zeroT_3 : zeroT Try.prog 3 = some [.int .i64 0] := by kernel_rfl
@[simp] theorem szOf_4 : szOf Try.prog 4 = some 1 := by kernel_rfl
@[simp] theorem aggT_4 : aggT Try.prog 4 = some false := by kernel_rfl
@[simp] theorem strT_4 : strT Try.prog 4 = false := by kernel_rfl
@[simp] theorem boolT_4 : boolT Try.prog 4 = true := by kernel_rfl
@[simp] theorem elemT_4 : elemT Try.prog 4 = none := by kernel_rfl
@[simp] theorem rowT_4 : rowT Try.prog 4 = none := by kernel_rfl
@[simp] theorem zeroT_4 : zeroT Try.prog 4 = some [.bool false] := by kernel_rfl
@[simp] theorem szOf_5 : szOf Try.prog 5 = some 1 := by kernel_rfl
@[simp] theorem aggT_5 : aggT Try.prog 5 = some false := by kernel_rfl
@[simp] theorem strT_5 : strT Try.prog 5 = false := by kernel_rfl
@[simp] theorem boolT_5 : boolT Try.prog 5 = false := by kernel_rfl
@[simp] theorem elemT_5 : elemT Try.prog 5 = none := by kernel_rfl
@[simp] theorem rowT_5 : rowT Try.prog 5 = none := by kernel_rfl
@[simp] theorem kindT_5 : kindT Try.prog 5 = some .u8 := by kernel_rfl
@[simp] theorem zeroT_5 : zeroT Try.prog 5 = some [.int .u8 0] := by kernel_rfl
@[simp] theorem szOf_6 : szOf Try.prog 6 = some 1 := by kernel_rfl
@[simp] theorem aggT_6 : aggT Try.prog 6 = some false := by kernel_rfl
@[simp] theorem strT_6 : strT Try.prog 6 = false := by kernel_rfl
@[simp] theorem boolT_6 : boolT Try.prog 6 = false := by kernel_rfl
@[simp] theorem elemT_6 : elemT Try.prog 6 = none := by kernel_rfl
@[simp] theorem rowT_6 : rowT Try.prog 6 = none := by kernel_rfl
@[simp] theorem kindT_6 : kindT Try.prog 6 = some .u8 := by kernel_rfl
@[simp] theorem zeroT_6 : zeroT Try.prog 6 = some [.int .u8 0] := by kernel_rfl
@[simp] theorem szOf_7 : szOf Try.prog 7 = some 4 := by kernel_rfl
@[simp] theorem aggT_7 : aggT Try.prog 7 = some true := by kernel_rfl
@[simp] theorem strT_7 : strT Try.prog 7 = false := by kernel_rfl
@[simp] theorem boolT_7 : boolT Try.prog 7 = false := by kernel_rfl
@[simp] theorem elemT_7 : elemT Try.prog 7 = none := by kernel_rfl
@[simp] theorem rowT_7 : rowT Try.prog 7 = none := by kernel_rfl
@[simp] theorem structT_7 : structT Try.prog 7 = some [(0, 1), (1, 1), (2, 1), (3, 1)] := by kernel_rfl
@[simp] theorem fieldT_7_0 : fieldT Try.prog 7 0 = some (2, 0) := by kernel_rfl
@[simp] theorem fieldT_7_1 : fieldT Try.prog 7 1 = some (3, 1) := by kernel_rfl
@[simp] theorem fieldT_7_2 : fieldT Try.prog 7 2 = some (4, 2) := by kernel_rfl
@[simp] theorem fieldT_7_3 : fieldT Try.prog 7 3 = some (6, 3) := by kernel_rfl
@[simp] theorem zeroT_7 : zeroT Try.prog 7 = some [.int .i64 0, .int .i64 0, .bool false, .int .u8 0] := by kernel_rfl
@[simp] theorem szOf_8 : szOf Try.prog 8 = some 4 := by kernel_rfl
@[simp] theorem aggT_8 : aggT Try.prog 8 = some true := by kernel_rfl
@[simp] theorem strT_8 : strT Try.prog 8 = false := by kernel_rfl
@[simp] theorem boolT_8 : boolT Try.prog 8 = false := by kernel_rfl
@[simp] theorem elemT_8 : elemT Try.prog 8 = none := by kernel_rfl
@[simp] theorem rowT_8 : rowT Try.prog 8 = none := by kernel_rfl
@[simp] theorem structT_8 : structT Try.prog 8 = some [(0, 1), (1, 1), (2, 1), (3, 1)] := by kernel_rfl
@[simp] theorem fieldT_8_0 : fieldT Try.prog 8 0 = some (2, 0) := by kernel_rfl
@[simp] theorem fieldT_8_1 : fieldT Try.prog 8 1 = some (3, 1) := by kernel_rfl
@[simp] theorem fieldT_8_2 : fieldT Try.prog 8 2 = some (4, 2) := by kernel_rfl
@[simp] theorem fieldT_8_3 : fieldT Try.prog 8 3 = some (6, 3) := by kernel_rfl
@[simp] theorem zeroT_8 : zeroT Try.prog 8 = some [.int .i64 0, .int .i64 0, .bool false, .int .u8 0] := by kernel_rfl
@[simp] theorem szOf_9 : szOf Try.prog 9 = some 1 := by kernel_rfl
@[simp] theorem aggT_9 : aggT Try.prog 9 = some false := by kernel_rfl
@[simp] theorem strT_9 : strT Try.prog 9 = true := by kernel_rfl
@[simp] theorem boolT_9 : boolT Try.prog 9 = false := by kernel_rfl
@[simp] theorem elemT_9 : elemT Try.prog 9 = none := by kernel_rfl
@[simp] theorem rowT_9 : rowT Try.prog 9 = none := by kernel_rfl
@[simp] theorem zeroT_9 : zeroT Try.prog 9 = some [.string ⟨#[]⟩] := by kernel_rfl
@[simp] theorem szOf_10 : szOf Try.prog 10 = some 1 := by kernel_rfl
@[simp] theorem aggT_10 : aggT Try.prog 10 = some false := by kernel_rfl
@[simp] theorem strT_10 : strT Try.prog 10 = true := by kernel_rfl
@[simp] theorem boolT_10 : boolT Try.prog 10 = false := by kernel_rfl
@[simp] theorem elemT_10 : elemT Try.prog 10 = none := by kernel_rfl
@[simp] theorem rowT_10 : rowT Try.prog 10 = none := by kernel_rfl
@[simp] theorem zeroT_10 : zeroT Try.prog 10 = some [.string ⟨#[]⟩] := by kernel_rfl
@[simp] theorem szOf_11 : szOf Try.prog 11 = some 1 := by kernel_rfl
@[simp] theorem aggT_11 : aggT Try.prog 11 = some false := by kernel_rfl
@[simp] theorem strT_11 : strT Try.prog 11 = true := by kernel_rfl
@[simp] theorem boolT_11 : boolT Try.prog 11 = false := by kernel_rfl
@[simp] theorem elemT_11 : elemT Try.prog 11 = none := by kernel_rfl
@[simp] theorem rowT_11 : rowT Try.prog 11 = none := by kernel_rfl
@[simp] theorem zeroT_11 : zeroT Try.prog 11 = some [.string ⟨#[]⟩] := by kernel_rfl
@[simp] theorem szOf_12 : szOf Try.prog 12 = some 1 := by kernel_rfl
@[simp] theorem aggT_12 : aggT Try.prog 12 = some false := by kernel_rfl
@[simp] theorem strT_12 : strT Try.prog 12 = false := by kernel_rfl
@[simp] theorem boolT_12 : boolT Try.prog 12 = false := by kernel_rfl
@[simp] theorem elemT_12 : elemT Try.prog 12 = none := by kernel_rfl
@[simp] theorem rowT_12 : rowT Try.prog 12 = none := by kernel_rfl
@[simp] theorem kindT_12 : kindT Try.prog 12 = some .u64 := by kernel_rfl
@[simp] theorem zeroT_12 : zeroT Try.prog 12 = some [.int .u64 0] := by kernel_rfl
@[simp] theorem szOf_13 : szOf Try.prog 13 = some 2 := by kernel_rfl
@[simp] theorem aggT_13 : aggT Try.prog 13 = some true := by kernel_rfl
@[simp] theorem strT_13 : strT Try.prog 13 = false := by kernel_rfl
@[simp] theorem boolT_13 : boolT Try.prog 13 = false := by kernel_rfl
@[simp] theorem elemT_13 : elemT Try.prog 13 = none := by kernel_rfl
@[simp] theorem rowT_13 : rowT Try.prog 13 = none := by kernel_rfl
@[simp] theorem structT_13 : structT Try.prog 13 = some [(0, 1), (1, 1)] := by kernel_rfl
@[simp] theorem fieldT_13_0 : fieldT Try.prog 13 0 = some (9, 0) := by kernel_rfl
@[simp] theorem fieldT_13_1 : fieldT Try.prog 13 1 = some (12, 1) := by kernel_rfl
@[simp] theorem zeroT_13 : zeroT Try.prog 13 = some [.string ⟨#[]⟩, .int .u64 0] := by kernel_rfl
@[simp] theorem szOf_14 : szOf Try.prog 14 = some 2 := by kernel_rfl
@[simp] theorem aggT_14 : aggT Try.prog 14 = some true := by kernel_rfl
@[simp] theorem strT_14 : strT Try.prog 14 = false := by kernel_rfl
@[simp] theorem boolT_14 : boolT Try.prog 14 = false := by kernel_rfl
@[simp] theorem elemT_14 : elemT Try.prog 14 = none := by kernel_rfl
@[simp] theorem rowT_14 : rowT Try.prog 14 = none := by kernel_rfl
@[simp] theorem structT_14 : structT Try.prog 14 = some [(0, 1), (1, 1)] := by kernel_rfl
@[simp] theorem fieldT_14_0 : fieldT Try.prog 14 0 = some (9, 0) := by kernel_rfl
@[simp] theorem fieldT_14_1 : fieldT Try.prog 14 1 = some (12, 1) := by kernel_rfl
@[simp] theorem zeroT_14 : zeroT Try.prog 14 = some [.string ⟨#[]⟩, .int .u64 0] := by kernel_rfl
@[simp] theorem szOf_15 : szOf Try.prog 15 = some 1 := by kernel_rfl
@[simp] theorem aggT_15 : aggT Try.prog 15 = some false := by kernel_rfl
@[simp] theorem strT_15 : strT Try.prog 15 = false := by kernel_rfl
@[simp] theorem boolT_15 : boolT Try.prog 15 = false := by kernel_rfl
@[simp] theorem elemT_15 : elemT Try.prog 15 = none := by kernel_rfl
@[simp] theorem rowT_15 : rowT Try.prog 15 = none := by kernel_rfl
@[simp] theorem zeroT_15 : zeroT Try.prog 15 = some [.pointer none] := by kernel_rfl
@[simp] theorem szOf_16 : szOf Try.prog 16 = some 1 := by kernel_rfl
@[simp] theorem aggT_16 : aggT Try.prog 16 = some false := by kernel_rfl
@[simp] theorem strT_16 : strT Try.prog 16 = false := by kernel_rfl
@[simp] theorem boolT_16 : boolT Try.prog 16 = false := by kernel_rfl
@[simp] theorem elemT_16 : elemT Try.prog 16 = none := by kernel_rfl
@[simp] theorem rowT_16 : rowT Try.prog 16 = none := by kernel_rfl
@[simp] theorem zeroT_16 : zeroT Try.prog 16 = some [.pointer none] := by kernel_rfl
@[simp] theorem szOf_17 : szOf Try.prog 17 = some 1 := by kernel_rfl
@[simp] theorem aggT_17 : aggT Try.prog 17 = some false := by kernel_rfl
@[simp] theorem strT_17 : strT Try.prog 17 = false := by kernel_rfl
@[simp] theorem boolT_17 : boolT Try.prog 17 = false := by kernel_rfl
@[simp] theorem elemT_17 : elemT Try.prog 17 = none := by kernel_rfl
@[simp] theorem rowT_17 : rowT Try.prog 17 = none := by kernel_rfl
@[simp] theorem zeroT_17 : zeroT Try.prog 17 = some [.pointer none] := by kernel_rfl
@[simp] theorem szOf_18 : szOf Try.prog 18 = some 1 := by kernel_rfl
@[simp] theorem aggT_18 : aggT Try.prog 18 = some true := by kernel_rfl
@[simp] theorem strT_18 : strT Try.prog 18 = false := by kernel_rfl
@[simp] theorem boolT_18 : boolT Try.prog 18 = false := by kernel_rfl
@[simp] theorem elemT_18 : elemT Try.prog 18 = none := by kernel_rfl
@[simp] theorem rowT_18 : rowT Try.prog 18 = none := by kernel_rfl
@[simp] theorem structT_18 : structT Try.prog 18 = some [(0, 1)] := by kernel_rfl
@[simp] theorem fieldT_18_0 : fieldT Try.prog 18 0 = some (17, 0) := by kernel_rfl
@[simp] theorem zeroT_18 : zeroT Try.prog 18 = some [.pointer none] := by kernel_rfl
@[simp] theorem szOf_19 : szOf Try.prog 19 = some 1 := by kernel_rfl
@[simp] theorem aggT_19 : aggT Try.prog 19 = some true := by kernel_rfl
@[simp] theorem strT_19 : strT Try.prog 19 = false := by kernel_rfl
@[simp] theorem boolT_19 : boolT Try.prog 19 = false := by kernel_rfl
@[simp] theorem elemT_19 : elemT Try.prog 19 = none := by kernel_rfl
@[simp] theorem rowT_19 : rowT Try.prog 19 = none := by kernel_rfl
@[simp] theorem structT_19 : structT Try.prog 19 = some [(0, 1)] := by kernel_rfl
@[simp] theorem fieldT_19_0 : fieldT Try.prog 19 0 = some (17, 0) := by kernel_rfl
@[simp] theorem zeroT_19 : zeroT Try.prog 19 = some [.pointer none] := by kernel_rfl
@[simp] theorem szOf_20 : szOf Try.prog 20 = some 1 := by kernel_rfl
@[simp] theorem aggT_20 : aggT Try.prog 20 = some false := by kernel_rfl
@[simp] theorem strT_20 : strT Try.prog 20 = false := by kernel_rfl
@[simp] theorem boolT_20 : boolT Try.prog 20 = false := by kernel_rfl
@[simp] theorem elemT_20 : elemT Try.prog 20 = none := by kernel_rfl
@[simp] theorem rowT_20 : rowT Try.prog 20 = none := by kernel_rfl
@[simp] theorem zeroT_20 : zeroT Try.prog 20 = some [.nilIface] := by kernel_rfl
@[simp] theorem szOf_21 : szOf Try.prog 21 = some 1 := by kernel_rfl
@[simp] theorem aggT_21 : aggT Try.prog 21 = some false := by kernel_rfl
@[simp] theorem strT_21 : strT Try.prog 21 = false := by kernel_rfl
@[simp] theorem boolT_21 : boolT Try.prog 21 = false := by kernel_rfl
@[simp] theorem elemT_21 : elemT Try.prog 21 = none := by kernel_rfl
@[simp] theorem rowT_21 : rowT Try.prog 21 = none := by kernel_rfl
@[simp] theorem kindT_21 : kindT Try.prog 21 = some .i32 := by kernel_rfl
@[simp] theorem zeroT_21 : zeroT Try.prog 21 = some [.int .i32 0] := by kernel_rfl
@[simp] theorem szOf_22 : szOf Try.prog 22 = some 1 := by kernel_rfl
@[simp] theorem aggT_22 : aggT Try.prog 22 = some false := by kernel_rfl
@[simp] theorem strT_22 : strT Try.prog 22 = false := by kernel_rfl
@[simp] theorem boolT_22 : boolT Try.prog 22 = false := by kernel_rfl
@[simp] theorem elemT_22 : elemT Try.prog 22 = some 3 := by kernel_rfl
@[simp] theorem rowT_22 : rowT Try.prog 22 = some (3, 1, 8) := by kernel_rfl
@[simp] theorem makeT_22 : makeT Try.prog 22 = some (1, 8, [.int .i64 0]) := by kernel_rfl
@[simp] theorem zeroT_22 : zeroT Try.prog 22 = some [.slice none 0 0] := by kernel_rfl
@[simp] theorem szOf_23 : szOf Try.prog 23 = some 1 := by kernel_rfl
@[simp] theorem aggT_23 : aggT Try.prog 23 = some false := by kernel_rfl
@[simp] theorem strT_23 : strT Try.prog 23 = false := by kernel_rfl
@[simp] theorem boolT_23 : boolT Try.prog 23 = false := by kernel_rfl
@[simp] theorem elemT_23 : elemT Try.prog 23 = some 81 := by kernel_rfl
@[simp] theorem rowT_23 : rowT Try.prog 23 = some (81, 3, 24) := by kernel_rfl
@[simp] theorem makeT_23 : makeT Try.prog 23 = some (3, 24, [.int .i64 0, .int .i64 0, .int .i64 0]) := by kernel_rfl
@[simp] theorem zeroT_23 : zeroT Try.prog 23 = some [.slice none 0 0] := by kernel_rfl
@[simp] theorem szOf_24 : szOf Try.prog 24 = some 2 := by kernel_rfl
@[simp] theorem aggT_24 : aggT Try.prog 24 = some true := by kernel_rfl
@[simp] theorem strT_24 : strT Try.prog 24 = false := by kernel_rfl
@[simp] theorem boolT_24 : boolT Try.prog 24 = false := by kernel_rfl
@[simp] theorem elemT_24 : elemT Try.prog 24 = none := by kernel_rfl
@[simp] theorem rowT_24 : rowT Try.prog 24 = none := by kernel_rfl
@[simp] theorem structT_24 : structT Try.prog 24 = some [(0, 1), (1, 1)] := by kernel_rfl
@[simp] theorem fieldT_24_0 : fieldT Try.prog 24 0 = some (22, 0) := by kernel_rfl
@[simp] theorem fieldT_24_1 : fieldT Try.prog 24 1 = some (23, 1) := by kernel_rfl
@[simp] theorem zeroT_24 : zeroT Try.prog 24 = some [.slice none 0 0, .slice none 0 0] := by kernel_rfl
@[simp] theorem szOf_25 : szOf Try.prog 25 = some 2 := by kernel_rfl
@[simp] theorem aggT_25 : aggT Try.prog 25 = some true := by kernel_rfl
@[simp] theorem strT_25 : strT Try.prog 25 = false := by kernel_rfl
@[simp] theorem boolT_25 : boolT Try.prog 25 = false := by kernel_rfl
@[simp] theorem elemT_25 : elemT Try.prog 25 = none := by kernel_rfl
@[simp] theorem rowT_25 : rowT Try.prog 25 = none := by kernel_rfl
@[simp] theorem structT_25 : structT Try.prog 25 = some [(0, 1), (1, 1)] := by kernel_rfl
@[simp] theorem fieldT_25_0 : fieldT Try.prog 25 0 = some (22, 0) := by kernel_rfl
@[simp] theorem fieldT_25_1 : fieldT Try.prog 25 1 = some (23, 1) := by kernel_rfl
@[simp] theorem zeroT_25 : zeroT Try.prog 25 = some [.slice none 0 0, .slice none 0 0] := by kernel_rfl
@[simp] theorem szOf_26 : szOf Try.prog 26 = some 1 := by kernel_rfl
@[simp] theorem aggT_26 : aggT Try.prog 26 = some false := by kernel_rfl
@[simp] theorem strT_26 : strT Try.prog 26 = false := by kernel_rfl
@[simp] theorem boolT_26 : boolT Try.prog 26 = false := by kernel_rfl
@[simp] theorem elemT_26 : elemT Try.prog 26 = some 34 := by kernel_rfl
@[simp] theorem rowT_26 : rowT Try.prog 26 = some (34, 9, 184) := by kernel_rfl
@[simp] theorem makeT_26 : makeT Try.prog 26 = some (9, 184, [.int .i64 0, .slice none 0 0, .slice none 0 0, .slice none 0 0, .slice none 0 0, .slice none 0 0, .slice none 0 0, .int .i64 0, .slice none 0 0]) := by kernel_rfl
@[simp] theorem zeroT_26 : zeroT Try.prog 26 = some [.slice none 0 0] := by kernel_rfl
@[simp] theorem szOf_27 : szOf Try.prog 27 = some 2 := by kernel_rfl
@[simp] theorem aggT_27 : aggT Try.prog 27 = some true := by kernel_rfl
@[simp] theorem strT_27 : strT Try.prog 27 = false := by kernel_rfl
@[simp] theorem boolT_27 : boolT Try.prog 27 = false := by kernel_rfl
@[simp] theorem elemT_27 : elemT Try.prog 27 = none := by kernel_rfl
@[simp] theorem rowT_27 : rowT Try.prog 27 = none := by kernel_rfl
@[simp] theorem structT_27 : structT Try.prog 27 = some [(0, 1), (1, 1)] := by kernel_rfl
@[simp] theorem fieldT_27_0 : fieldT Try.prog 27 0 = some (22, 0) := by kernel_rfl
@[simp] theorem fieldT_27_1 : fieldT Try.prog 27 1 = some (22, 1) := by kernel_rfl
@[simp] theorem zeroT_27 : zeroT Try.prog 27 = some [.slice none 0 0, .slice none 0 0] := by kernel_rfl
@[simp] theorem szOf_28 : szOf Try.prog 28 = some 2 := by kernel_rfl
@[simp] theorem aggT_28 : aggT Try.prog 28 = some true := by kernel_rfl
@[simp] theorem strT_28 : strT Try.prog 28 = false := by kernel_rfl
@[simp] theorem boolT_28 : boolT Try.prog 28 = false := by kernel_rfl
@[simp] theorem elemT_28 : elemT Try.prog 28 = none := by kernel_rfl
@[simp] theorem rowT_28 : rowT Try.prog 28 = none := by kernel_rfl
@[simp] theorem structT_28 : structT Try.prog 28 = some [(0, 1), (1, 1)] := by kernel_rfl
@[simp] theorem fieldT_28_0 : fieldT Try.prog 28 0 = some (22, 0) := by kernel_rfl
@[simp] theorem fieldT_28_1 : fieldT Try.prog 28 1 = some (22, 1) := by kernel_rfl
@[simp] theorem zeroT_28 : zeroT Try.prog 28 = some [.slice none 0 0, .slice none 0 0] := by kernel_rfl
@[simp] theorem szOf_29 : szOf Try.prog 29 = some 1 := by kernel_rfl
@[simp] theorem aggT_29 : aggT Try.prog 29 = some false := by kernel_rfl
@[simp] theorem strT_29 : strT Try.prog 29 = false := by kernel_rfl
@[simp] theorem boolT_29 : boolT Try.prog 29 = false := by kernel_rfl
@[simp] theorem elemT_29 : elemT Try.prog 29 = some 87 := by kernel_rfl
@[simp] theorem rowT_29 : rowT Try.prog 29 = some (87, 4, 32) := by kernel_rfl
@[simp] theorem makeT_29 : makeT Try.prog 29 = some (4, 32, [.int .i64 0, .int .i64 0, .int .i64 0, .int .i64 0]) := by kernel_rfl
@[simp] theorem zeroT_29 : zeroT Try.prog 29 = some [.slice none 0 0] := by kernel_rfl
@[simp] theorem szOf_30 : szOf Try.prog 30 = some 1 := by kernel_rfl
@[simp] theorem aggT_30 : aggT Try.prog 30 = some false := by kernel_rfl
@[simp] theorem strT_30 : strT Try.prog 30 = false := by kernel_rfl
@[simp] theorem boolT_30 : boolT Try.prog 30 = false := by kernel_rfl
@[simp] theorem elemT_30 : elemT Try.prog 30 = some 89 := by kernel_rfl
@[simp] theorem rowT_30 : rowT Try.prog 30 = some (89, 5, 40) := by kernel_rfl
@[simp] theorem makeT_30 : makeT Try.prog 30 = some (5, 40, [.int .i64 0, .int .i64 0, .int .i64 0, .int .i64 0, .int .i64 0]) := by kernel_rfl
@[simp] theorem zeroT_30 : zeroT Try.prog 30 = some [.slice none 0 0] := by kernel_rfl
@[simp] theorem szOf_31 : szOf Try.prog 31 = some 5 := by kernel_rfl
@[simp] theorem aggT_31 : aggT Try.prog 31 = some true := by kernel_rfl
@[simp] theorem strT_31 : strT Try.prog 31 = false := by kernel_rfl
@[simp] theorem boolT_31 : boolT Try.prog 31 = false := by kernel_rfl
@[simp] theorem elemT_31 : elemT Try.prog 31 = none := by kernel_rfl
@[simp] theorem rowT_31 : rowT Try.prog 31 = none := by kernel_rfl
@[simp] theorem structT_31 : structT Try.prog 31 = some [(0, 2), (2, 1), (3, 1), (4, 1)] := by kernel_rfl
@[simp] theorem fieldT_31_0 : fieldT Try.prog 31 0 = some (25, 0) := by kernel_rfl
@[simp] theorem fieldT_31_1 : fieldT Try.prog 31 1 = some (29, 2) := by kernel_rfl
@[simp] theorem fieldT_31_2 : fieldT Try.prog 31 2 = some (3, 3) := by kernel_rfl
@[simp] theorem fieldT_31_3 : fieldT Try.prog 31 3 = some (30, 4) := by kernel_rfl
@[simp] theorem zeroT_31 : zeroT Try.prog 31 = some [.slice none 0 0, .slice none 0 0, .slice none 0 0, .int .i64 0, .slice none 0 0] := by kernel_rfl
@[simp] theorem szOf_32 : szOf Try.prog 32 = some 5 := by kernel_rfl
@[simp] theorem aggT_32 : aggT Try.prog 32 = some true := by kernel_rfl
@[simp] theorem strT_32 : strT Try.prog 32 = false := by kernel_rfl
@[simp] theorem boolT_32 : boolT Try.prog 32 = false := by kernel_rfl
@[simp] theorem elemT_32 : elemT Try.prog 32 = none := by kernel_rfl
@[simp] theorem rowT_32 : rowT Try.prog 32 = none := by kernel_rfl
@[simp] theorem structT_32 : structT Try.prog 32 = some [(0, 2), (2, 1), (3, 1), (4, 1)] := by kernel_rfl
@[simp] theorem fieldT_32_0 : fieldT Try.prog 32 0 = some (25, 0) := by kernel_rfl
@[simp] theorem fieldT_32_1 : fieldT Try.prog 32 1 = some (29, 2) := by kernel_rfl
@[simp] theorem fieldT_32_2 : fieldT Try.prog 32 2 = some (3, 3) := by kernel_rfl
@[simp] theorem fieldT_32_3 : fieldT Try.prog 32 3 = some (30, 4) := by kernel_rfl
@[simp] theorem zeroT_32 : zeroT Try.prog 32 = some [.slice none 0 0, .slice none 0 0, .slice none 0 0, .int .i64 0, .slice none 0 0] := by kernel_rfl
@[simp] theorem szOf_33 : szOf Try.prog 33 = some 9 := by kernel_rfl
@[simp] theorem aggT_33 : aggT Try.prog 33 = some true := by kernel_rfl
@[simp] theorem strT_33 : strT Try.prog 33 = false := by kernel_rfl
@[simp] theorem boolT_33 : boolT Try.prog 33 = false := by kernel_rfl
@[simp] theorem elemT_33 : elemT Try.prog 33 = none := by kernel_rfl
@[simp] theorem rowT_33 : rowT Try.prog 33 = none := by kernel_rfl
@[simp] theorem structT_33 : structT Try.prog 33 = some [(0, 1), (1, 1), (2, 2), (4, 5)] := by kernel_rfl
@[simp] theorem fieldT_33_0 : fieldT Try.prog 33 0 = some (3, 0) := by kernel_rfl
@[simp] theorem fieldT_33_1 : fieldT Try.prog 33 1 = some (26, 1) := by kernel_rfl
@[simp] theorem fieldT_33_2 : fieldT Try.prog 33 2 = some (28, 2) := by kernel_rfl
@[simp] theorem fieldT_33_3 : fieldT Try.prog 33 3 = some (32, 4) := by kernel_rfl
@[simp] theorem zeroT_33 : zeroT Try.prog 33 = some [.int .i64 0, .slice none 0 0, .slice none 0 0, .slice none 0 0, .slice none 0 0, .slice none 0 0, .slice none 0 0, .int .i64 0, .slice none 0 0] := by kernel_rfl
@[simp] theorem szOf_34 : szOf Try.prog 34 = some 9 := by kernel_rfl
@[simp] theorem aggT_34 : aggT Try.prog 34 = some true := by kernel_rfl
@[simp] theorem strT_34 : strT Try.prog 34 = false := by kernel_rfl
@[simp] theorem boolT_34 : boolT Try.prog 34 = false := by kernel_rfl
@[simp] theorem elemT_34 : elemT Try.prog 34 = none := by kernel_rfl
@[simp] theorem rowT_34 : rowT Try.prog 34 = none := by kernel_rfl
@[simp] theorem structT_34 : structT Try.prog 34 = some [(0, 1), (1, 1), (2, 2), (4, 5)] := by kernel_rfl
@[simp] theorem fieldT_34_0 : fieldT Try.prog 34 0 = some (3, 0) := by kernel_rfl
@[simp] theorem fieldT_34_1 : fieldT Try.prog 34 1 = some (26, 1) := by kernel_rfl
@[simp] theorem fieldT_34_2 : fieldT Try.prog 34 2 = some (28, 2) := by kernel_rfl
@[simp] theorem fieldT_34_3 : fieldT Try.prog 34 3 = some (32, 4) := by kernel_rfl
@[simp] theorem zeroT_34 : zeroT Try.prog 34 = some [.int .i64 0, .slice none 0 0, .slice none 0 0, .slice none 0 0, .slice none 0 0, .slice none 0 0, .slice none 0 0, .int .i64 0, .slice none 0 0] := by kernel_rfl
@[simp] theorem szOf_35 : szOf Try.prog 35 = some 1 := by kernel_rfl
@[simp] theorem aggT_35 : aggT Try.prog 35 = some false := by kernel_rfl
@[simp] theorem zeroT_35 : zeroT Try.prog 35 = some [.nilFunc] := by kernel_rfl
@[simp] theorem szOf_36 : szOf Try.prog 36 = some 1 := by kernel_rfl
@[simp] theorem aggT_36 : aggT Try.prog 36 = some false := by kernel_rfl
@[simp] theorem zeroT_36 : zeroT Try.prog 36 = some [.nilFunc] := by kernel_rfl
@[simp] theorem szOf_37 : szOf Try.prog 37 = some 1 := by kernel_rfl
@[simp] theorem aggT_37 : aggT Try.prog 37 = some false := by kernel_rfl
@[simp] theorem strT_37 : strT Try.prog 37 = false := by kernel_rfl
@[simp] theorem boolT_37 : boolT Try.prog 37 = false := by kernel_rfl
@[simp] theorem elemT_37 : elemT Try.prog 37 = none := by kernel_rfl
@[simp] theorem rowT_37 : rowT Try.prog 37 = none := by kernel_rfl
@[simp] theorem kindT_37 : kindT Try.prog 37 = some .i64 := by kernel_rfl
@[simp] theorem zeroT_37 : zeroT Try.prog 37 = some [.int .i64 0] := by kernel_rfl
@[simp] theorem szOf_39 : szOf Try.prog 39 = some 1 := by kernel_rfl
@[simp] theorem aggT_39 : aggT Try.prog 39 = some false := by kernel_rfl
@[simp] theorem zeroT_39 : zeroT Try.prog 39 = some [.nilFunc] := by kernel_rfl
@[simp] theorem szOf_40 : szOf Try.prog 40 = some 1 := by kernel_rfl
@[simp] theorem aggT_40 : aggT Try.prog 40 = some false := by kernel_rfl
@[simp] theorem zeroT_40 : zeroT Try.prog 40 = some [.nilFunc] := by kernel_rfl
@[simp] theorem szOf_41 : szOf Try.prog 41 = some 1 := by kernel_rfl
@[simp] theorem aggT_41 : aggT Try.prog 41 = some false := by kernel_rfl
@[simp] theorem zeroT_41 : zeroT Try.prog 41 = some [.nilFunc] := by kernel_rfl
@[simp] theorem szOf_42 : szOf Try.prog 42 = some 1 := by kernel_rfl
@[simp] theorem aggT_42 : aggT Try.prog 42 = some false := by kernel_rfl
@[simp] theorem strT_42 : strT Try.prog 42 = false := by kernel_rfl
@[simp] theorem boolT_42 : boolT Try.prog 42 = false := by kernel_rfl
@[simp] theorem elemT_42 : elemT Try.prog 42 = some 5 := by kernel_rfl
@[simp] theorem rowT_42 : rowT Try.prog 42 = some (5, 1, 1) := by kernel_rfl
@[simp] theorem makeT_42 : makeT Try.prog 42 = some (1, 1, [.int .u8 0]) := by kernel_rfl
@[simp] theorem zeroT_42 : zeroT Try.prog 42 = some [.slice none 0 0] := by kernel_rfl
@[simp] theorem szOf_43 : szOf Try.prog 43 = some 1 := by kernel_rfl
@[simp] theorem aggT_43 : aggT Try.prog 43 = some false := by kernel_rfl
@[simp] theorem strT_43 : strT Try.prog 43 = false := by kernel_rfl
@[simp] theorem boolT_43 : boolT Try.prog 43 = false := by kernel_rfl
@[simp] theorem elemT_43 : elemT Try.prog 43 = some 97 := by kernel_rfl
@[simp] theorem rowT_43 : rowT Try.prog 43 = some (97, 3, 3) := by kernel_rfl
@[simp] theorem makeT_43 : makeT Try.prog 43 = some (3, 3, [.int .u8 0, .int .u8 0, .int .u8 0]) := by kernel_rfl
@[simp] theorem zeroT_43 : zeroT Try.prog 43 = some [.slice none 0 0] := by kernel_rfl
@[simp] theorem szOf_44 : szOf Try.prog 44 = some 2 := by kernel_rfl
@[simp] theorem aggT_44 : aggT Try.prog 44 = some true := by kernel_rfl
@[simp] theorem strT_44 : strT Try.prog 44 = false := by kernel_rfl
@[simp] theorem boolT_44 : boolT Try.prog 44 = false := by kernel_rfl
@[simp] theorem elemT_44 : elemT Try.prog 44 = none := by kernel_rfl
@[simp] theorem rowT_44 : rowT Try.prog 44 = none := by kernel_rfl
@[simp] theorem structT_44 : structT Try.prog 44 = some [(0, 1), (1, 1)] := by kernel_rfl
@[simp] theorem fieldT_44_0 : fieldT Try.prog 44 0 = some (42, 0) := by kernel_rfl
@[simp] theorem fieldT_44_1 : fieldT Try.prog 44 1 = some (43, 1) := by kernel_rfl
@[simp] theorem zeroT_44 : zeroT Try.prog 44 = some [.slice none 0 0, .slice none 0 0] := by kernel_rfl
@[simp] theorem szOf_45 : szOf Try.prog 45 = some 2 := by kernel_rfl
@[simp] theorem aggT_45 : aggT Try.prog 45 = some true := by kernel_rfl
@[simp] theorem strT_45 : strT Try.prog 45 = false := by kernel_rfl
@[simp] theorem boolT_45 : boolT Try.prog 45 = false := by kernel_rfl
@[simp] theorem elemT_45 : elemT Try.prog 45 = none := by kernel_rfl
@[simp] theorem rowT_45 : rowT Try.prog 45 = none := by kernel_rfl
@[simp] theorem structT_45 : structT Try.prog 45 = some [(0, 1), (1, 1)] := by kernel_rfl
@[simp] theorem fieldT_45_0 : fieldT Try.prog 45 0 = some (42, 0) := by kernel_rfl
@[simp] theorem fieldT_45_1 : fieldT Try.prog 45 1 = some (43, 1) := by kernel_rfl
@[simp] theorem zeroT_45 : zeroT Try.prog 45 = some [.slice none 0 0, .slice none 0 0] := by kernel_rfl
@[simp] theorem szOf_46 : szOf Try.prog 46 = some 5 := by kernel_rfl
@[simp] theorem aggT_46 : aggT Try.prog 46 = some true := by kernel_rfl
@[simp] theorem strT_46 : strT Try.prog 46 = false := by kernel_rfl
@[simp] theorem boolT_46 : boolT Try.prog 46 = false := by kernel_rfl
@[simp] theorem elemT_46 : elemT Try.prog 46 = none := by kernel_rfl
@[simp] theorem rowT_46 : rowT Try.prog 46 = none := by kernel_rfl
@[simp] theorem structT_46 : structT Try.prog 46 = some [(0, 2), (2, 1), (3, 1), (4, 1)] := by kernel_rfl
@[simp] theorem fieldT_46_0 : fieldT Try.prog 46 0 = some (45, 0) := by kernel_rfl
@[simp] theorem fieldT_46_1 : fieldT Try.prog 46 1 = some (42, 2) := by kernel_rfl
@[simp] theorem fieldT_46_2 : fieldT Try.prog 46 2 = some (42, 3) := by kernel_rfl
@[simp] theorem fieldT_46_3 : fieldT Try.prog 46 3 = some (42, 4) := by kernel_rfl
@[simp] theorem zeroT_46 : zeroT Try.prog 46 = some [.slice none 0 0, .slice none 0 0, .slice none 0 0, .slice none 0 0, .slice none 0 0] := by kernel_rfl
@[simp] theorem szOf_47 : szOf Try.prog 47 = some 5 := by kernel_rfl
@[simp] theorem aggT_47 : aggT Try.prog 47 = some true := by kernel_rfl
@[simp] theorem strT_47 : strT Try.prog 47 = false := by kernel_rfl
@[simp] theorem boolT_47 : boolT Try.prog 47 = false := by kernel_rfl
@[simp] theorem elemT_47 : elemT Try.prog 47 = none := by kernel_rfl
@[simp] theorem rowT_47 : rowT Try.prog 47 = none := by kernel_rfl
@[simp] theorem structT_47 : structT Try.prog 47 = some [(0, 2), (2, 1), (3, 1), (4, 1)] := by kernel_rfl
@[simp] theorem fieldT_47_0 : fieldT Try.prog 47 0 = some (45, 0) := by kernel_rfl
@[simp] theorem fieldT_47_1 : fieldT Try.prog 47 1 = some (42, 2) := by kernel_rfl
@[simp] theorem fieldT_47_2 : fieldT Try.prog 47 2 = some (42, 3) := by kernel_rfl
@[simp] theorem fieldT_47_3 : fieldT Try.prog 47 3 = some (42, 4) := by kernel_rfl
@[simp] theorem zeroT_47 : zeroT Try.prog 47 = some [.slice none 0 0, .slice none 0 0, .slice none 0 0, .slice none 0 0, .slice none 0 0] := by kernel_rfl
@[simp] theorem szOf_49 : szOf Try.prog 49 = some 1 := by kernel_rfl
@[simp] theorem aggT_49 : aggT Try.prog 49 = some false := by kernel_rfl
@[simp] theorem zeroT_49 : zeroT Try.prog 49 = some [.nilFunc] := by kernel_rfl
@[simp] theorem szOf_51 : szOf Try.prog 51 = some 1 := by kernel_rfl
@[simp] theorem aggT_51 : aggT Try.prog 51 = some false := by kernel_rfl
@[simp] theorem zeroT_51 : zeroT Try.prog 51 = some [.nilFunc] := by kernel_rfl
@[simp] theorem szOf_52 : szOf Try.prog 52 = some 1 := by kernel_rfl
@[simp] theorem aggT_52 : aggT Try.prog 52 = some false := by kernel_rfl
@[simp] theorem zeroT_52 : zeroT Try.prog 52 = some [.nilFunc] := by kernel_rfl
@[simp] theorem szOf_53 : szOf Try.prog 53 = some 1 := by kernel_rfl
@[simp] theorem aggT_53 : aggT Try.prog 53 = some false := by kernel_rfl
@[simp] theorem strT_53 : strT Try.prog 53 = false := by kernel_rfl
@[simp] theorem boolT_53 : boolT Try.prog 53 = false := by kernel_rfl
@[simp] theorem elemT_53 : elemT Try.prog 53 = some 28 := by kernel_rfl
@[simp] theorem rowT_53 : rowT Try.prog 53 = some (28, 2, 48) := by kernel_rfl
@[simp] theorem makeT_53 : makeT Try.prog 53 = some (2, 48, [.slice none 0 0, .slice none 0 0]) := by kernel_rfl
@[simp] theorem zeroT_53 : zeroT Try.prog 53 = some [.slice none 0 0] := by kernel_rfl
@[simp] theorem szOf_54 : szOf Try.prog 54 = some 1 := by kernel_rfl
@[simp] theorem aggT_54 : aggT Try.prog 54 = some false := by kernel_rfl
@[simp] theorem zeroT_54 : zeroT Try.prog 54 = some [.nilFunc] := by kernel_rfl
@[simp] theorem szOf_56 : szOf Try.prog 56 = some 1 := by kernel_rfl
@[simp] theorem aggT_56 : aggT Try.prog 56 = some false := by kernel_rfl
@[simp] theorem zeroT_56 : zeroT Try.prog 56 = some [.nilFunc] := by kernel_rfl
@[simp] theorem szOf_57 : szOf Try.prog 57 = some 1 := by kernel_rfl
@[simp] theorem aggT_57 : aggT Try.prog 57 = some false := by kernel_rfl
@[simp] theorem zeroT_57 : zeroT Try.prog 57 = some [.nilFunc] := by kernel_rfl
@[simp] theorem szOf_58 : szOf Try.prog 58 = some 1 := by kernel_rfl
@[simp] theorem aggT_58 : aggT Try.prog 58 = some false := by kernel_rfl
@[simp] theorem zeroT_58 : zeroT Try.prog 58 = some [.nilFunc] := by kernel_rfl
@[simp] theorem szOf_59 : szOf Try.prog 59 = some 1 := by kernel_rfl
@[simp] theorem aggT_59 : aggT Try.prog 59 = some false := by kernel_rfl
@[simp] theorem zeroT_59 : zeroT Try.prog 59 = some [.nilFunc] := by kernel_rfl
@[simp] theorem szOf_60 : szOf Try.prog 60 = some 1 := by kernel_rfl
@[simp] theorem aggT_60 : aggT Try.prog 60 = some false := by kernel_rfl
@[simp] theorem zeroT_60 : zeroT Try.prog 60 = some [.nilFunc] := by kernel_rfl
@[simp] theorem szOf_61 : szOf Try.prog 61 = some 1 := by kernel_rfl
@[simp] theorem aggT_61 : aggT Try.prog 61 = some false := by kernel_rfl
@[simp] theorem zeroT_61 : zeroT Try.prog 61 = some [.nilFunc] := by kernel_rfl
@[simp] theorem szOf_62 : szOf Try.prog 62 = some 1 := by kernel_rfl
@[simp] theorem aggT_62 : aggT Try.prog 62 = some false := by kernel_rfl
@[simp] theorem zeroT_62 : zeroT Try.prog 62 = some [.nilFunc] := by kernel_rfl
@[simp] theorem szOf_63 : szOf Try.prog 63 = some 1 := by kernel_rfl
@[simp] theorem aggT_63 : aggT Try.prog 63 = some false := by kernel_rfl
@[simp] theorem zeroT_63 : zeroT Try.prog 63 = some [.nilFunc] := by kernel_rfl
@[simp] theorem szOf_65 : szOf Try.prog 65 = some 1 := by kernel_rfl
@[simp] theorem aggT_65 : aggT Try.prog 65 = some false := by kernel_rfl
@[simp] theorem zeroT_65 : zeroT Try.prog 65 = some [.nilFunc] := by kernel_rfl
@[simp] theorem szOf_66 : szOf Try.prog 66 = some 1 := by kernel_rfl
@[simp] theorem aggT_66 : aggT Try.prog 66 = some false := by kernel_rfl
@[simp] theorem zeroT_66 : zeroT Try.prog 66 = some [.nilFunc] := by kernel_rfl
@[simp] theorem szOf_67 : szOf Try.prog 67 = some 1 := by kernel_rfl
@[simp] theorem aggT_67 : aggT Try.prog 67 = some false := by kernel_rfl
@[simp] theorem zeroT_67 : zeroT Try.prog 67 = some [.nilFunc] := by kernel_rfl
@[simp] theorem szOf_68 : szOf Try.prog 68 = some 1 := by kernel_rfl
@[simp] theorem aggT_68 : aggT Try.prog 68 = some false := by kernel_rfl
@[simp] theorem zeroT_68 : zeroT Try.prog 68 = some [.nilFunc] := by kernel_rfl
@[simp] theorem szOf_69 : szOf Try.prog 69 = some 1 := by kernel_rfl
@[simp] theorem aggT_69 : aggT Try.prog 69 = some false := by kernel_rfl
@[simp] theorem zeroT_69 : zeroT Try.prog 69 = some [.nilFunc] := by kernel_rfl
@[simp] theorem szOf_70 : szOf Try.prog 70 = some 1 := by kernel_rfl
@[simp] theorem aggT_70 : aggT Try.prog 70 = some false := by kernel_rfl
@[simp] theorem zeroT_70 : zeroT Try.prog 70 = some [.nilFunc] := by kernel_rfl
@[simp] theorem szOf_71 : szOf Try.prog 71 = some 1 := by kernel_rfl
@[simp] theorem aggT_71 : aggT Try.prog 71 = some false := by kernel_rfl
@[simp] theorem zeroT_71 : zeroT Try.prog 71 = some [.nilFunc] := by kernel_rfl
@[simp] theorem szOf_72 : szOf Try.prog 72 = some 1 := by kernel_rfl
@[simp] theorem aggT_72 : aggT Try.prog 72 = some false := by kernel_rfl
@[simp] theorem zeroT_72 : zeroT Try.prog 72 = some [.nilFunc] := by kernel_rfl
@[simp] theorem szOf_73 : szOf Try.prog 73 = some 1 := by kernel_rfl
@[simp] theorem aggT_73 : aggT Try.prog 73 = some false := by kernel_rfl
@[simp] theorem zeroT_73 : zeroT Try.prog 73 = some [.nilFunc] := by kernel_rfl
@[simp] theorem szOf_74 : szOf Try.prog 74 = some 1 := by kernel_rfl
@[simp] theorem aggT_74 : aggT Try.prog 74 = some false := by kernel_rfl
@[simp] theorem zeroT_74 : zeroT Try.prog 74 = some [.nilFunc] := by kernel_rfl
@[simp] theorem szOf_75 : szOf Try.prog 75 = some 1 := by kernel_rfl
@[simp] theorem aggT_75 : aggT Try.prog 75 = some false := by kernel_rfl
@[simp] theorem strT_75 : strT Try.prog 75 = false := by kernel_rfl
@[simp] theorem boolT_75 : boolT Try.prog 75 = false := by kernel_rfl
@[simp] theorem elemT_75 : elemT Try.prog 75 = none := by kernel_rfl
@[simp] theorem rowT_75 : rowT Try.prog 75 = none := by kernel_rfl
@[simp] theorem zeroT_75 : zeroT Try.prog 75 = some [.pointer none] := by kernel_rfl
@[simp] theorem szOf_76 : szOf Try.prog 76 = some 9 := by kernel_rfl
@[simp] theorem aggT_76 : aggT Try.prog 76 = some true := by kernel_rfl
@[simp] theorem strT_76 : strT Try.prog 76 = false := by kernel_rfl
@[simp] theorem boolT_76 : boolT Try.prog 76 = false := by kernel_rfl
@[simp] theorem elemT_76 : elemT Try.prog 76 = none := by kernel_rfl
@[simp] theorem rowT_76 : rowT Try.prog 76 = none := by kernel_rfl
@[simp] theorem structT_76 : structT Try.prog 76 = some [(0, 2), (2, 2), (4, 2), (6, 2), (8, 1)] := by kernel_rfl
@[simp] theorem fieldT_76_0 : fieldT Try.prog 76 0 = some (25, 0) := by kernel_rfl
@[simp] theorem fieldT_76_1 : fieldT Try.prog 76 1 = some (25, 2) := by kernel_rfl
@[simp] theorem fieldT_76_2 : fieldT Try.prog 76 2 = some (28, 4) := by kernel_rfl
@[simp] theorem fieldT_76_3 : fieldT Try.prog 76 3 = some (28, 6) := by kernel_rfl
@[simp] theorem fieldT_76_4 : fieldT Try.prog 76 4 = some (53, 8) := by kernel_rfl
@[simp] theorem zeroT_76 : zeroT Try.prog 76 = some [.slice none 0 0, .slice none 0 0, .slice none 0 0, .slice none 0 0, .slice none 0 0, .slice none 0 0, .slice none 0 0, .slice none 0 0, .slice none 0 0] := by kernel_rfl
@[simp] theorem szOf_77 : szOf Try.prog 77 = some 9 := by kernel_rfl
@[simp] theorem aggT_77 : aggT Try.prog 77 = some true := by kernel_rfl
@[simp] theorem strT_77 : strT Try.prog 77 = false := by kernel_rfl
@[simp] theorem boolT_77 : boolT Try.prog 77 = false := by kernel_rfl
@[simp] theorem elemT_77 : elemT Try.prog 77 = none := by kernel_rfl
@[simp] theorem rowT_77 : rowT Try.prog 77 = none := by kernel_rfl
@[simp] theorem structT_77 : structT Try.prog 77 = some [(0, 2), (2, 2), (4, 2), (6, 2), (8, 1)] := by kernel_rfl
@[simp] theorem fieldT_77_0 : fieldT Try.prog 77 0 = some (25, 0) := by kernel_rfl
@[simp] theorem fieldT_77_1 : fieldT Try.prog 77 1 = some (25, 2) := by kernel_rfl
@[simp] theorem fieldT_77_2 : fieldT Try.prog 77 2 = some (28, 4) := by kernel_rfl
@[simp] theorem fieldT_77_3 : fieldT Try.prog 77 3 = some (28, 6) := by kernel_rfl
@[simp] theorem fieldT_77_4 : fieldT Try.prog 77 4 = some (53, 8) := by kernel_rfl
@[simp] theorem zeroT_77 : zeroT Try.prog 77 = some [.slice none 0 0, .slice none 0 0, .slice none 0 0, .slice none 0 0, .slice none 0 0, .slice none 0 0, .slice none 0 0, .slice none 0 0, .slice none 0 0] := by kernel_rfl
@[simp] theorem szOf_78 : szOf Try.prog 78 = some 1 := by kernel_rfl
@[simp] theorem aggT_78 : aggT Try.prog 78 = some false := by kernel_rfl
@[simp] theorem zeroT_78 : zeroT Try.prog 78 = some [.nilFunc] := by kernel_rfl
@[simp] theorem szOf_79 : szOf Try.prog 79 = some 1 := by kernel_rfl
@[simp] theorem aggT_79 : aggT Try.prog 79 = some false := by kernel_rfl
@[simp] theorem zeroT_79 : zeroT Try.prog 79 = some [.nilFunc] := by kernel_rfl
@[simp] theorem szOf_80 : szOf Try.prog 80 = some 3 := by kernel_rfl
@[simp] theorem aggT_80 : aggT Try.prog 80 = some true := by kernel_rfl
@[simp] theorem strT_80 : strT Try.prog 80 = false := by kernel_rfl
@[simp] theorem boolT_80 : boolT Try.prog 80 = false := by kernel_rfl
@[simp] theorem elemT_80 : elemT Try.prog 80 = none := by kernel_rfl
@[simp] theorem rowT_80 : rowT Try.prog 80 = none := by kernel_rfl
@[simp] theorem eqT_80 : eqT Try.prog 80 = some 3 := by kernel_rfl
@[simp] theorem structT_80 : structT Try.prog 80 = some [(0, 1), (1, 1), (2, 1)] := by kernel_rfl
@[simp] theorem fieldT_80_0 : fieldT Try.prog 80 0 = some (3, 0) := by kernel_rfl
@[simp] theorem fieldT_80_1 : fieldT Try.prog 80 1 = some (3, 1) := by kernel_rfl
@[simp] theorem fieldT_80_2 : fieldT Try.prog 80 2 = some (3, 2) := by kernel_rfl
@[simp] theorem zeroT_80 : zeroT Try.prog 80 = some [.int .i64 0, .int .i64 0, .int .i64 0] := by kernel_rfl
@[simp] theorem szOf_81 : szOf Try.prog 81 = some 3 := by kernel_rfl
@[simp] theorem aggT_81 : aggT Try.prog 81 = some true := by kernel_rfl
@[simp] theorem strT_81 : strT Try.prog 81 = false := by kernel_rfl
@[simp] theorem boolT_81 : boolT Try.prog 81 = false := by kernel_rfl
@[simp] theorem elemT_81 : elemT Try.prog 81 = none := by kernel_rfl
@[simp] theorem rowT_81 : rowT Try.prog 81 = none := by kernel_rfl
@[simp] theorem eqT_81 : eqT Try.prog 81 = some 3 := by kernel_rfl
@[simp] theorem structT_81 : structT Try.prog 81 = some [(0, 1), (1, 1), (2, 1)] := by kernel_rfl
@[simp] theorem fieldT_81_0 : fieldT Try.prog 81 0 = some (3, 0) := by kernel_rfl
@[simp] theorem fieldT_81_1 : fieldT Try.prog 81 1 = some (3, 1) := by kernel_rfl
@[simp] theorem fieldT_81_2 : fieldT Try.prog 81 2 = some (3, 2) := by kernel_rfl
@[simp] theorem zeroT_81 : zeroT Try.prog 81 = some [.int .i64 0, .int .i64 0, .int .i64 0] := by kernel_rfl
@[simp] theorem szOf_82 : szOf Try.prog 82 = some 1 := by kernel_rfl
@[simp] theorem aggT_82 : aggT Try.prog 82 = some false := by kernel_rfl
@[simp] theorem zeroT_82 : zeroT Try.prog 82 = some [.nilFunc] := by kernel_rfl
@[simp] theorem szOf_83 : szOf Try.prog 83 = some 1 := by kernel_rfl
@[simp] theorem aggT_83 : aggT Try.prog 83 = some false := by kernel_rfl
@[simp] theorem zeroT_83 : zeroT Try.prog 83 = some [.nilFunc] := by kernel_rfl
@[simp] theorem szOf_84 : szOf Try.prog 84 = some 2 := by kernel_rfl
@[simp] theorem aggT_84 : aggT Try.prog 84 = some true := by kernel_rfl
@[simp] theorem strT_84 : strT Try.prog 84 = false := by kernel_rfl
@[simp] theorem boolT_84 : boolT Try.prog 84 = false := by kernel_rfl
@[simp] theorem elemT_84 : elemT Try.prog 84 = none := by kernel_rfl
@[simp] theorem rowT_84 : rowT Try.prog 84 = none := by kernel_rfl
@[simp] theorem eqT_84 : eqT Try.prog 84 = some 2 := by kernel_rfl
@[simp] theorem structT_84 : structT Try.prog 84 = some [(0, 1), (1, 1)] := by kernel_rfl
@[simp] theorem fieldT_84_0 : fieldT Try.prog 84 0 = some (3, 0) := by kernel_rfl
@[simp] theorem fieldT_84_1 : fieldT Try.prog 84 1 = some (3, 1) := by kernel_rfl
@[simp] theorem zeroT_84 : zeroT Try.prog 84 = some [.int .i64 0, .int .i64 0] := by kernel_rfl
@[simp] theorem szOf_85 : szOf Try.prog 85 = some 2 := by kernel_rfl
@[simp] theorem aggT_85 : aggT Try.prog 85 = some true := by kernel_rfl
@[simp] theorem strT_85 : strT Try.prog 85 = false := by kernel_rfl
@[simp] theorem boolT_85 : boolT Try.prog 85 = false := by kernel_rfl
@[simp] theorem elemT_85 : elemT Try.prog 85 = none := by kernel_rfl
@[simp] theorem rowT_85 : rowT Try.prog 85 = none := by kernel_rfl
@[simp] theorem eqT_85 : eqT Try.prog 85 = some 2 := by kernel_rfl
@[simp] theorem structT_85 : structT Try.prog 85 = some [(0, 1), (1, 1)] := by kernel_rfl
@[simp] theorem fieldT_85_0 : fieldT Try.prog 85 0 = some (3, 0) := by kernel_rfl
@[simp] theorem fieldT_85_1 : fieldT Try.prog 85 1 = some (3, 1) := by kernel_rfl
@[simp] theorem zeroT_85 : zeroT Try.prog 85 = some [.int .i64 0, .int .i64 0] := by kernel_rfl
@[simp] theorem szOf_86 : szOf Try.prog 86 = some 4 := by kernel_rfl
@[simp] theorem aggT_86 : aggT Try.prog 86 = some true := by kernel_rfl
@[simp] theorem strT_86 : strT Try.prog 86 = false := by kernel_rfl
@[simp] theorem boolT_86 : boolT Try.prog 86 = false := by kernel_rfl
@[simp] theorem elemT_86 : elemT Try.prog 86 = none := by kernel_rfl
@[simp] theorem rowT_86 : rowT Try.prog 86 = none := by kernel_rfl
@[simp] theorem structT_86 : structT Try.prog 86 = some [(0, 1), (1, 1), (2, 2)] := by kernel_rfl
@[simp] theorem fieldT_86_0 : fieldT Try.prog 86 0 = some (3, 0) := by kernel_rfl
@[simp] theorem fieldT_86_1 : fieldT Try.prog 86 1 = some (3, 1) := by kernel_rfl
@[simp] theorem fieldT_86_2 : fieldT Try.prog 86 2 = some (85, 2) := by kernel_rfl
@[simp] theorem zeroT_86 : zeroT Try.prog 86 = some [.int .i64 0, .int .i64 0, .int .i64 0, .int .i64 0] := by kernel_rfl
@[simp] theorem szOf_87 : szOf Try.prog 87 = some 4 := by kernel_rfl
@[simp] theorem aggT_87 : aggT Try.prog 87 = some true := by kernel_rfl
@[simp] theorem strT_87 : strT Try.prog 87 = false := by kernel_rfl
@[simp] theorem boolT_87 : boolT Try.prog 87 = false := by kernel_rfl
@[simp] theorem elemT_87 : elemT Try.prog 87 = none := by kernel_rfl
@[simp] theorem rowT_87 : rowT Try.prog 87 = none := by kernel_rfl
@[simp] theorem structT_87 : structT Try.prog 87 = some [(0, 1), (1, 1), (2, 2)] := by kernel_rfl
@[simp] theorem fieldT_87_0 : fieldT Try.prog 87 0 = some (3, 0) := by kernel_rfl
@[simp] theorem fieldT_87_1 : fieldT Try.prog 87 1 = some (3, 1) := by kernel_rfl
@[simp] theorem fieldT_87_2 : fieldT Try.prog 87 2 = some (85, 2) := by kernel_rfl
@[simp] theorem zeroT_87 : zeroT Try.prog 87 = some [.int .i64 0, .int .i64 0, .int .i64 0, .int .i64 0] := by kernel_rfl
@[simp] theorem szOf_88 : szOf Try.prog 88 = some 5 := by kernel_rfl
@[simp] theorem aggT_88 : aggT Try.prog 88 = some true := by kernel_rfl
@[simp] theorem strT_88 : strT Try.prog 88 = false := by kernel_rfl
@[simp] theorem boolT_88 : boolT Try.prog 88 = false := by kernel_rfl
@[simp] theorem elemT_88 : elemT Try.prog 88 = none := by kernel_rfl
@[simp] theorem rowT_88 : rowT Try.prog 88 = none := by kernel_rfl
@[simp] theorem structT_88 : structT Try.prog 88 = some [(0, 1), (1, 2), (3, 2)] := by kernel_rfl
@[simp] theorem fieldT_88_0 : fieldT Try.prog 88 0 = some (3, 0) := by kernel_rfl
@[simp] theorem fieldT_88_1 : fieldT Try.prog 88 1 = some (85, 1) := by kernel_rfl
@[simp] theorem fieldT_88_2 : fieldT Try.prog 88 2 = some (85, 3) := by kernel_rfl
@[simp] theorem zeroT_88 : zeroT Try.prog 88 = some [.int .i64 0, .int .i64 0, .int .i64 0, .int .i64 0, .int .i64 0] := by kernel_rfl
@[simp] theorem szOf_89 : szOf Try.prog 89 = some 5 := by kernel_rfl
@[simp] theorem aggT_89 : aggT Try.prog 89 = some true := by kernel_rfl
@[simp] theorem strT_89 : strT Try.prog 89 = false := by kernel_rfl
@[simp] theorem boolT_89 : boolT Try.prog 89 = false := by kernel_rfl
@[simp] theorem elemT_89 : elemT Try.prog 89 = none := by kernel_rfl
@[simp] theorem rowT_89 : rowT Try.prog 89 = none := by kernel_rfl
@[simp] theorem structT_89 : structT Try.prog 89 = some [(0, 1), (1, 2), (3, 2)] := by kernel_rfl
@[simp] theorem fieldT_89_0 : fieldT Try.prog 89 0 = some (3, 0) := by kernel_rfl
@[simp] theorem fieldT_89_1 : fieldT Try.prog 89 1 = some (85, 1) := by kernel_rfl
@[simp] theorem fieldT_89_2 : fieldT Try.prog 89 2 = some (85, 3) := by kernel_rfl
@[simp] theorem zeroT_89 : zeroT Try.prog 89 = some [.int .i64 0, .int .i64 0, .int .i64 0, .int .i64 0, .int .i64 0] := by kernel_rfl
@[simp] theorem szOf_90 : szOf Try.prog 90 = some 1 := by kernel_rfl
@[simp] theorem aggT_90 : aggT Try.prog 90 = some false := by kernel_rfl
@[simp] theorem zeroT_90 : zeroT Try.prog 90 = some [.nilFunc] := by kernel_rfl
@[simp] theorem szOf_91 : szOf Try.prog 91 = some 1 := by kernel_rfl
@[simp] theorem aggT_91 : aggT Try.prog 91 = some false := by kernel_rfl
@[simp] theorem zeroT_91 : zeroT Try.prog 91 = some [.nilFunc] := by kernel_rfl
@[simp] theorem szOf_92 : szOf Try.prog 92 = some 1 := by kernel_rfl
@[simp] theorem aggT_92 : aggT Try.prog 92 = some false := by kernel_rfl
@[simp] theorem zeroT_92 : zeroT Try.prog 92 = some [.nilFunc] := by kernel_rfl
@[simp] theorem szOf_93 : szOf Try.prog 93 = some 1 := by kernel_rfl
@[simp] theorem aggT_93 : aggT Try.prog 93 = some false := by kernel_rfl
@[simp] theorem zeroT_93 : zeroT Try.prog 93 = some [.nilFunc] := by kernel_rfl
@[simp] theorem szOf_94 : szOf Try.prog 94 = some 1 := by kernel_rfl
@[simp] theorem aggT_94 : aggT Try.prog 94 = some false := by kernel_rfl
@[simp] theorem zeroT_94 : zeroT Try.prog 94 = some [.nilFunc] := by kernel_rfl
@[simp] theorem szOf_95 : szOf Try.prog 95 = some 1 := by kernel_rfl
@[simp] theorem aggT_95 : aggT Try.prog 95 = some false := by kernel_rfl
@[simp] theorem zeroT_95 : zeroT Try.prog 95 = some [.nilFunc] := by kernel_rfl
@[simp] theorem szOf_96 : szOf Try.prog 96 = some 1 := by kernel_rfl
@[simp] theorem aggT_96 : aggT Try.prog 96 = some false := by kernel_rfl
@[simp] theorem zeroT_96 : zeroT Try.prog 96 = some [.nilFunc] := by kernel_rfl
@[simp] theorem szOf_97 : szOf Try.prog 97 = some 3 := by kernel_rfl
@[simp] theorem aggT_97 : aggT Try.prog 97 = some true := by kernel_rfl
@[simp] theorem strT_97 : strT Try.prog 97 = false := by kernel_rfl
@[simp] theorem boolT_97 : boolT Try.prog 97 = false := by kernel_rfl
@[simp] theorem elemT_97 : elemT Try.prog 97 = none := by kernel_rfl
@[simp] theorem rowT_97 : rowT Try.prog 97 = none := by kernel_rfl
@[simp] theorem arrT_97 : arrT Try.prog 97 = some (3, 5) := by kernel_rfl
@[simp] theorem zeroT_97 : zeroT Try.prog 97 = some [.int .u8 0, .int .u8 0, .int .u8 0] := by kernel_rfl
@[simp] theorem szOf_98 : szOf Try.prog 98 = some 1 := by kernel_rfl
@[simp] theorem aggT_98 : aggT Try.prog 98 = some false := by kernel_rfl
@[simp] theorem strT_98 : strT Try.prog 98 = false := by kernel_rfl
@[simp] theorem boolT_98 : boolT Try.prog 98 = false := by kernel_rfl
@[simp] theorem elemT_98 : elemT Try.prog 98 = none := by kernel_rfl
@[simp] theorem rowT_98 : rowT Try.prog 98 = none := by kernel_rfl
@[simp] theorem zeroT_98 : zeroT Try.prog 98 = some [.pointer none] := by kernel_rfl
@[simp] theorem szOf_99 : szOf Try.prog 99 = some 3 := by kernel_rfl
@[simp] theorem aggT_99 : aggT Try.prog 99 = some true := by kernel_rfl
@[simp] theorem strT_99 : strT Try.prog 99 = false := by kernel_rfl
@[simp] theorem boolT_99 : boolT Try.prog 99 = false := by kernel_rfl
@[simp] theorem elemT_99 : elemT Try.prog 99 = none := by kernel_rfl
@[simp] theorem rowT_99 : rowT Try.prog 99 = none := by kernel_rfl
@[simp] theorem structT_99 : structT Try.prog 99 = some [(0, 1), (1, 1), (2, 1)] := by kernel_rfl
@[simp] theorem fieldT_99_0 : fieldT Try.prog 99 0 = some (42, 0) := by kernel_rfl
@[simp] theorem fieldT_99_1 : fieldT Try.prog 99 1 = some (3, 1) := by kernel_rfl
@[simp] theorem fieldT_99_2 : fieldT Try.prog 99 2 = some (3, 2) := by kernel_rfl
@[simp] theorem zeroT_99 : zeroT Try.prog 99 = some [.slice none 0 0, .int .i64 0, .int .i64 0] := by kernel_rfl
@[simp] theorem szOf_100 : szOf Try.prog 100 = some 3 := by kernel_rfl
@[simp] theorem aggT_100 : aggT Try.prog 100 = some true := by kernel_rfl
@[simp] theorem strT_100 : strT Try.prog 100 = false := by kernel_rfl
@[simp] theorem boolT_100 : boolT Try.prog 100 = false := by kernel_rfl
@[simp] theorem elemT_100 : elemT Try.prog 100 = none := by kernel_rfl
@[simp] theorem rowT_100 : rowT Try.prog 100 = none := by kernel_rfl
@[simp] theorem structT_100 : structT Try.prog 100 = some [(0, 1), (1, 1), (2, 1)] := by kernel_rfl
@[simp] theorem fieldT_100_0 : fieldT Try.prog 100 0 = some (42, 0) := by kernel_rfl
@[simp] theorem fieldT_100_1 : fieldT Try.prog 100 1 = some (3, 1) := by kernel_rfl
@[simp] theorem fieldT_100_2 : fieldT Try.prog 100 2 = some (3, 2) := by kernel_rfl
@[simp] theorem zeroT_100 : zeroT Try.prog 100 = some [.slice none 0 0, .int .i64 0, .int .i64 0] := by kernel_rfl
@[simp] theorem szOf_101 : szOf Try.prog 101 = some 1 := by kernel_rfl
@[simp] theorem aggT_101 : aggT Try.prog 101 = some false := by kernel_rfl
@[simp] theorem zeroT_101 : zeroT Try.prog 101 = some [.nilFunc] := by kernel_rfl
@[simp] theorem szOf_102 : szOf Try.prog 102 = some 1 := by kernel_rfl
@[simp] theorem aggT_102 : aggT Try.prog 102 = some false := by kernel_rfl
@[simp] theorem strT_102 : strT Try.prog 102 = false := by kernel_rfl
@[simp] theorem boolT_102 : boolT Try.prog 102 = false := by kernel_rfl
@[simp] theorem elemT_102 : elemT Try.prog 102 = none := by kernel_rfl
@[simp] theorem rowT_102 : rowT Try.prog 102 = none := by kernel_rfl
@[simp] theorem zeroT_102 : zeroT Try.prog 102 = some [.pointer none] := by kernel_rfl
@[simp] theorem szOf_103 : szOf Try.prog 103 = some 2 := by kernel_rfl
@[simp] theorem aggT_103 : aggT Try.prog 103 = some true := by kernel_rfl
@[simp] theorem strT_103 : strT Try.prog 103 = false := by kernel_rfl
@[simp] theorem boolT_103 : boolT Try.prog 103 = false := by kernel_rfl
@[simp] theorem elemT_103 : elemT Try.prog 103 = none := by kernel_rfl
@[simp] theorem rowT_103 : rowT Try.prog 103 = none := by kernel_rfl
@[simp] theorem eqT_103 : eqT Try.prog 103 = some 2 := by kernel_rfl
@[simp] theorem structT_103 : structT Try.prog 103 = some [(0, 1), (1, 1)] := by kernel_rfl
@[simp] theorem fieldT_103_0 : fieldT Try.prog 103 0 = some (3, 0) := by kernel_rfl
@[simp] theorem fieldT_103_1 : fieldT Try.prog 103 1 = some (37, 1) := by kernel_rfl
@[simp] theorem zeroT_103 : zeroT Try.prog 103 = some [.int .i64 0, .int .i64 0] := by kernel_rfl
@[simp] theorem szOf_104 : szOf Try.prog 104 = some 2 := by kernel_rfl
@[simp] theorem aggT_104 : aggT Try.prog 104 = some true := by kernel_rfl
@[simp] theorem strT_104 : strT Try.prog 104 = false := by kernel_rfl
@[simp] theorem boolT_104 : boolT Try.prog 104 = false := by kernel_rfl
@[simp] theorem elemT_104 : elemT Try.prog 104 = none := by kernel_rfl
@[simp] theorem rowT_104 : rowT Try.prog 104 = none := by kernel_rfl
@[simp] theorem eqT_104 : eqT Try.prog 104 = some 2 := by kernel_rfl
@[simp] theorem structT_104 : structT Try.prog 104 = some [(0, 1), (1, 1)] := by kernel_rfl
@[simp] theorem fieldT_104_0 : fieldT Try.prog 104 0 = some (3, 0) := by kernel_rfl
@[simp] theorem fieldT_104_1 : fieldT Try.prog 104 1 = some (37, 1) := by kernel_rfl
@[simp] theorem zeroT_104 : zeroT Try.prog 104 = some [.int .i64 0, .int .i64 0] := by kernel_rfl
@[simp] theorem szOf_105 : szOf Try.prog 105 = some 1 := by kernel_rfl
@[simp] theorem aggT_105 : aggT Try.prog 105 = some false := by kernel_rfl
@[simp] theorem zeroT_105 : zeroT Try.prog 105 = some [.nilFunc] := by kernel_rfl
@[simp] theorem szOf_106 : szOf Try.prog 106 = some 1 := by kernel_rfl
@[simp] theorem aggT_106 : aggT Try.prog 106 = some false := by kernel_rfl
@[simp] theorem zeroT_106 : zeroT Try.prog 106 = some [.nilFunc] := by kernel_rfl
@[simp] theorem szOf_107 : szOf Try.prog 107 = some 1 := by kernel_rfl
@[simp] theorem aggT_107 : aggT Try.prog 107 = some false := by kernel_rfl
@[simp] theorem zeroT_107 : zeroT Try.prog 107 = some [.nilFunc] := by kernel_rfl
@[simp] theorem szOf_108 : szOf Try.prog 108 = some 1 := by kernel_rfl
@[simp] theorem aggT_108 : aggT Try.prog 108 = some false := by kernel_rfl
@[simp] theorem zeroT_108 : zeroT Try.prog 108 = some [.nilFunc] := by kernel_rfl
@[simp] theorem szOf_109 : szOf Try.prog 109 = some 1 := by kernel_rfl
@[simp] theorem aggT_109 : aggT Try.prog 109 = some false := by kernel_rfl
@[simp] theorem zeroT_109 : zeroT Try.prog 109 = some [.nilFunc] := by kernel_rfl
@[simp] theorem szOf_110 : szOf Try.prog 110 = some 1 := by kernel_rfl
@[simp] theorem aggT_110 : aggT Try.prog 110 = some false := by kernel_rfl
@[simp] theorem zeroT_110 : zeroT Try.prog 110 = some [.nilFunc] := by kernel_rfl
@[simp] theorem szOf_111 : szOf Try.prog 111 = some 1 := by kernel_rfl
@[simp] theorem aggT_111 : aggT Try.prog 111 = some false := by kernel_rfl
@[simp] theorem strT_111 : strT Try.prog 111 = false := by kernel_rfl
@[simp] theorem boolT_111 : boolT Try.prog 111 = false := by kernel_rfl
@[simp] theorem elemT_111 : elemT Try.prog 111 = none := by kernel_rfl
@[simp] theorem rowT_111 : rowT Try.prog 111 = none := by kernel_rfl
@[simp] theorem zeroT_111 : zeroT Try.prog 111 = some [.pointer none] := by kernel_rfl
@[simp] theorem szOf_112 : szOf Try.prog 112 = some 1 := by kernel_rfl
@[simp] theorem aggT_112 : aggT Try.prog 112 = some false := by kernel_rfl
@[simp] theorem zeroT_112 : zeroT Try.prog 112 = some [.nilFunc] := by kernel_rfl
@[simp] theorem szOf_113 : szOf Try.prog 113 = some 1 := by kernel_rfl
@[simp] theorem aggT_113 : aggT Try.prog 113 = some false := by kernel_rfl
@[simp] theorem zeroT_113 : zeroT Try.prog 113 = some [.nilFunc] := by kernel_rfl
@[simp] theorem szOf_114 : szOf Try.prog 114 = some 7 := by kernel_rfl
@[simp] theorem aggT_114 : aggT Try.prog 114 = some true := by kernel_rfl
@[simp] theorem strT_114 : strT Try.prog 114 = false := by kernel_rfl
@[simp] theorem boolT_114 : boolT Try.prog 114 = false := by kernel_rfl
@[simp] theorem elemT_114 : elemT Try.prog 114 = none := by kernel_rfl
@[simp] theorem rowT_114 : rowT Try.prog 114 = none := by kernel_rfl
@[simp] theorem structT_114 : structT Try.prog 114 = some [(0, 2), (2, 2), (4, 1), (5, 1), (6, 1)] := by kernel_rfl
@[simp] theorem fieldT_114_0 : fieldT Try.prog 114 0 = some (25, 0) := by kernel_rfl
@[simp] theorem fieldT_114_1 : fieldT Try.prog 114 1 = some (25, 2) := by kernel_rfl
@[simp] theorem fieldT_114_2 : fieldT Try.prog 114 2 = some (22, 4) := by kernel_rfl
@[simp] theorem fieldT_114_3 : fieldT Try.prog 114 3 = some (22, 5) := by kernel_rfl
@[simp] theorem fieldT_114_4 : fieldT Try.prog 114 4 = some (113, 6) := by kernel_rfl
@[simp] theorem zeroT_114 : zeroT Try.prog 114 = some [.slice none 0 0, .slice none 0 0, .slice none 0 0, .slice none 0 0, .slice none 0 0, .slice none 0 0, .nilFunc] := by kernel_rfl
@[simp] theorem szOf_115 : szOf Try.prog 115 = some 7 := by kernel_rfl
@[simp] theorem aggT_115 : aggT Try.prog 115 = some true := by kernel_rfl
@[simp] theorem strT_115 : strT Try.prog 115 = false := by kernel_rfl
@[simp] theorem boolT_115 : boolT Try.prog 115 = false := by kernel_rfl
@[simp] theorem elemT_115 : elemT Try.prog 115 = none := by kernel_rfl
@[simp] theorem rowT_115 : rowT Try.prog 115 = none := by kernel_rfl
@[simp] theorem structT_115 : structT Try.prog 115 = some [(0, 2), (2, 2), (4, 1), (5, 1), (6, 1)] := by kernel_rfl
@[simp] theorem fieldT_115_0 : fieldT Try.prog 115 0 = some (25, 0) := by kernel_rfl
@[simp] theorem fieldT_115_1 : fieldT Try.prog 115 1 = some (25, 2) := by kernel_rfl
@[simp] theorem fieldT_115_2 : fieldT Try.prog 115 2 = some (22, 4) := by kernel_rfl
@[simp] theorem fieldT_115_3 : fieldT Try.prog 115 3 = some (22, 5) := by kernel_rfl
@[simp] theorem fieldT_115_4 : fieldT Try.prog 115 4 = some (113, 6) := by kernel_rfl
@[simp] theorem zeroT_115 : zeroT Try.prog 115 = some [.slice none 0 0, .slice none 0 0, .slice none 0 0, .slice none 0 0, .slice none 0 0, .slice none 0 0, .nilFunc] := by kernel_rfl
@[simp] theorem szOf_116 : szOf Try.prog 116 = some 1 := by kernel_rfl
@[simp] theorem aggT_116 : aggT Try.prog 116 = some false := by kernel_rfl
@[simp] theorem zeroT_116 : zeroT Try.prog 116 = some [.nilFunc] := by kernel_rfl
@[simp] theorem szOf_117 : szOf Try.prog 117 = some 1 := by kernel_rfl
@[simp] theorem aggT_117 : aggT Try.prog 117 = some false := by kernel_rfl
@[simp] theorem zeroT_117 : zeroT Try.prog 117 = some [.nilFunc] := by kernel_rfl
@[simp] theorem szOf_118 : szOf Try.prog 118 = some 1 := by kernel_rfl
@[simp] theorem aggT_118 : aggT Try.prog 118 = some false := by kernel_rfl
@[simp] theorem zeroT_118 : zeroT Try.prog 118 = some [.nilFunc] := by kernel_rfl
@[simp] theorem szOf_119 : szOf Try.prog 119 = some 1 := by kernel_rfl
@[simp] theorem aggT_119 : aggT Try.prog 119 = some false := by kernel_rfl
@[simp] theorem zeroT_119 : zeroT Try.prog 119 = some [.nilFunc] := by kernel_rfl
@[simp] theorem szOf_120 : szOf Try.prog 120 = some 1 := by kernel_rfl
@[simp] theorem aggT_120 : aggT Try.prog 120 = some false := by kernel_rfl
@[simp] theorem zeroT_120 : zeroT Try.prog 120 = some [.nilFunc] := by kernel_rfl
@[simp] theorem szOf_121 : szOf Try.prog 121 = some 1 := by kernel_rfl
@[simp] theorem aggT_121 : aggT Try.prog 121 = some false := by kernel_rfl
@[simp] theorem zeroT_121 : zeroT Try.prog 121 = some [.nilFunc] := by kernel_rfl
@[simp] theorem szOf_122 : szOf Try.prog 122 = some 1 := by kernel_rfl
@[simp] theorem aggT_122 : aggT Try.prog 122 = some false := by kernel_rfl
@[simp] theorem zeroT_122 : zeroT Try.prog 122 = some [.nilFunc] := by kernel_rfl
@[simp] theorem szOf_123 : szOf Try.prog 123 = some 1 := by kernel_rfl
@[simp] theorem aggT_123 : aggT Try.prog 123 = some false := by kernel_rfl
@[simp] theorem strT_123 : strT Try.prog 123 = false := by kernel_rfl
@[simp] theorem boolT_123 : boolT Try.prog 123 = false := by kernel_rfl
@[simp] theorem elemT_123 : elemT Try.prog 123 = some 127 := by kernel_rfl
@[simp] theorem rowT_123 : rowT Try.prog 123 = some (127, 6, 144) := by kernel_rfl
@[simp] theorem makeT_123 : makeT Try.prog 123 = some (6, 144, [.slice none 0 0, .slice none 0 0, .slice none 0 0, .slice none 0 0, .slice none 0 0, .slice none 0 0]) := by kernel_rfl
@[simp] theorem zeroT_123 : zeroT Try.prog 123 = some [.slice none 0 0] := by kernel_rfl
@[simp] theorem szOf_125 : szOf Try.prog 125 = some 1 := by kernel_rfl
@[simp] theorem aggT_125 : aggT Try.prog 125 = some false := by kernel_rfl
@[simp] theorem zeroT_125 : zeroT Try.prog 125 = some [.nilFunc] := by kernel_rfl
@[simp] theorem szOf_126 : szOf Try.prog 126 = some 6 := by kernel_rfl
@[simp] theorem aggT_126 : aggT Try.prog 126 = some true := by kernel_rfl
@[simp] theorem strT_126 : strT Try.prog 126 = false := by kernel_rfl
@[simp] theorem boolT_126 : boolT Try.prog 126 = false := by kernel_rfl
@[simp] theorem elemT_126 : elemT Try.prog 126 = none := by kernel_rfl
@[simp] theorem rowT_126 : rowT Try.prog 126 = none := by kernel_rfl
@[simp] theorem structT_126 : structT Try.prog 126 = some [(0, 2), (2, 2), (4, 2)] := by kernel_rfl
@[simp] theorem fieldT_126_0 : fieldT Try.prog 126 0 = some (25, 0) := by kernel_rfl
@[simp] theorem fieldT_126_1 : fieldT Try.prog 126 1 = some (28, 2) := by kernel_rfl
@[simp] theorem fieldT_126_2 : fieldT Try.prog 126 2 = some (28, 4) := by kernel_rfl
@[simp] theorem zeroT_126 : zeroT Try.prog 126 = some [.slice none 0 0, .slice none 0 0, .slice none 0 0, .slice none 0 0, .slice none 0 0, .slice none 0 0] := by kernel_rfl
@[simp] theorem szOf_127 : szOf Try.prog 127 = some 6 := by kernel_rfl
@[simp] theorem aggT_127 : aggT Try.prog 127 = some true := by kernel_rfl
@[simp] theorem strT_127 : strT Try.prog 127 = false := by kernel_rfl
@[simp] theorem boolT_127 : boolT Try.prog 127 = false := by kernel_rfl
@[simp] theorem elemT_127 : elemT Try.prog 127 = none := by kernel_rfl
@[simp] theorem rowT_127 : rowT Try.prog 127 = none := by kernel_rfl
@[simp] theorem structT_127 : structT Try.prog 127 = some [(0, 2), (2, 2), (4, 2)] := by kernel_rfl
@[simp] theorem fieldT_127_0 : fieldT Try.prog 127 0 = some (25, 0) := by kernel_rfl
@[simp] theorem fieldT_127_1 : fieldT Try.prog 127 1 = some (28, 2) := by kernel_rfl
@[simp] theorem fieldT_127_2 : fieldT Try.prog 127 2 = some (28, 4) := by kernel_rfl
@[simp] theorem zeroT_127 : zeroT Try.prog 127 = some [.slice none 0 0, .slice none 0 0, .slice none 0 0, .slice none 0 0, .slice none 0 0, .slice none 0 0] := by kernel_rfl
@[simp] theorem szOf_128 : szOf Try.prog 128 = some 1 := by kernel_rfl
@[simp] theorem aggT_128 : aggT Try.prog 128 = some false := by kernel_rfl
@[simp] theorem zeroT_128 : zeroT Try.prog 128 = some [.nilFunc] := by kernel_rfl
@[simp] theorem szOf_129 : szOf Try.prog 129 = some 1 := by kernel_rfl
@[simp] theorem aggT_129 : aggT Try.prog 129 = some false := by kernel_rfl
@[simp] theorem zeroT_129 : zeroT Try.prog 129 = some [.nilFunc] := by kernel_rfl
@[simp] theorem szOf_130 : szOf Try.prog 130 = some 1 := by kernel_rfl
@[simp] theorem aggT_130 : aggT Try.prog 130 = some false := by kernel_rfl
@[simp] theorem zeroT_130 : zeroT Try.prog 130 = some [.nilFunc] := by kernel_rfl
@[simp] theorem szOf_131 : szOf Try.prog 131 = some 1 := by kernel_rfl
@[simp] theorem aggT_131 : aggT Try.prog 131 = some false := by kernel_rfl
@[simp] theorem zeroT_131 : zeroT Try.prog 131 = some [.nilFunc] := by kernel_rfl
@[simp] theorem szOf_132 : szOf Try.prog 132 = some 1 := by kernel_rfl
@[simp] theorem aggT_132 : aggT Try.prog 132 = some false := by kernel_rfl
@[simp] theorem strT_132 : strT Try.prog 132 = false := by kernel_rfl
@[simp] theorem boolT_132 : boolT Try.prog 132 = false := by kernel_rfl
@[simp] theorem elemT_132 : elemT Try.prog 132 = some 25 := by kernel_rfl
@[simp] theorem rowT_132 : rowT Try.prog 132 = some (25, 2, 48) := by kernel_rfl
@[simp] theorem makeT_132 : makeT Try.prog 132 = some (2, 48, [.slice none 0 0, .slice none 0 0]) := by kernel_rfl
@[simp] theorem zeroT_132 : zeroT Try.prog 132 = some [.slice none 0 0] := by kernel_rfl
@[simp] theorem szOf_133 : szOf Try.prog 133 = some 1 := by kernel_rfl
@[simp] theorem aggT_133 : aggT Try.prog 133 = some false := by kernel_rfl
@[simp] theorem strT_133 : strT Try.prog 133 = false := by kernel_rfl
@[simp] theorem boolT_133 : boolT Try.prog 133 = false := by kernel_rfl
@[simp] theorem elemT_133 : elemT Try.prog 133 = none := by kernel_rfl
@[simp] theorem rowT_133 : rowT Try.prog 133 = none := by kernel_rfl
@[simp] theorem zeroT_133 : zeroT Try.prog 133 = some [.pointer none] := by kernel_rfl
@[simp] theorem szOf_134 : szOf Try.prog 134 = some 5 := by kernel_rfl
@[simp] theorem aggT_134 : aggT Try.prog 134 = some true := by kernel_rfl
@[simp] theorem strT_134 : strT Try.prog 134 = false := by kernel_rfl
@[simp] theorem boolT_134 : boolT Try.prog 134 = false := by kernel_rfl
@[simp] theorem elemT_134 : elemT Try.prog 134 = none := by kernel_rfl
@[simp] theorem rowT_134 : rowT Try.prog 134 = none := by kernel_rfl
@[simp] theorem structT_134 : structT Try.prog 134 = some [(0, 2), (2, 2), (4, 1)] := by kernel_rfl
@[simp] theorem fieldT_134_0 : fieldT Try.prog 134 0 = some (25, 0) := by kernel_rfl
@[simp] theorem fieldT_134_1 : fieldT Try.prog 134 1 = some (25, 2) := by kernel_rfl
@[simp] theorem fieldT_134_2 : fieldT Try.prog 134 2 = some (123, 4) := by kernel_rfl
@[simp] theorem zeroT_134 : zeroT Try.prog 134 = some [.slice none 0 0, .slice none 0 0, .slice none 0 0, .slice none 0 0, .slice none 0 0] := by kernel_rfl
@[simp] theorem szOf_135 : szOf Try.prog 135 = some 5 := by kernel_rfl
@[simp] theorem aggT_135 : aggT Try.prog 135 = some true := by kernel_rfl
@[simp] theorem strT_135 : strT Try.prog 135 = false := by kernel_rfl
@[simp] theorem boolT_135 : boolT Try.prog 135 = false := by kernel_rfl
@[simp] theorem elemT_135 : elemT Try.prog 135 = none := by kernel_rfl
@[simp] theorem rowT_135 : rowT Try.prog 135 = none := by kernel_rfl
@[simp] theorem structT_135 : structT Try.prog 135 = some [(0, 2), (2, 2), (4, 1)] := by kernel_rfl
@[simp] theorem fieldT_135_0 : fieldT Try.prog 135 0 = some (25, 0) := by kernel_rfl
@[simp] theorem fieldT_135_1 : fieldT Try.prog 135 1 = some (25, 2) := by kernel_rfl
@[simp] theorem fieldT_135_2 : fieldT Try.prog 135 2 = some (123, 4) := by kernel_rfl
@[simp] theorem zeroT_135 : zeroT Try.prog 135 = some [.slice none 0 0, .slice none 0 0, .slice none 0 0, .slice none 0 0, .slice none 0 0] := by kernel_rfl
@[simp] theorem szOf_136 : szOf Try.prog 136 = some 1 := by kernel_rfl
@[simp] theorem aggT_136 : aggT Try.prog 136 = some false := by kernel_rfl
@[simp] theorem strT_136 : strT Try.prog 136 = false := by kernel_rfl
@[simp] theorem boolT_136 : boolT Try.prog 136 = false := by kernel_rfl
@[simp] theorem elemT_136 : elemT Try.prog 136 = none := by kernel_rfl
@[simp] theorem rowT_136 : rowT Try.prog 136 = none := by kernel_rfl
@[simp] theorem kindT_136 : kindT Try.prog 136 = some .u64 := by kernel_rfl
@[simp] theorem zeroT_136 : zeroT Try.prog 136 = some [.int .u64 0] := by kernel_rfl
@[simp] theorem szOf_138 : szOf Try.prog 138 = some 1 := by kernel_rfl
@[simp] theorem aggT_138 : aggT Try.prog 138 = some false := by kernel_rfl
@[simp] theorem zeroT_138 : zeroT Try.prog 138 = some [.nilFunc] := by kernel_rfl
@[simp] theorem szOf_139 : szOf Try.prog 139 = some 1 := by kernel_rfl
@[simp] theorem aggT_139 : aggT Try.prog 139 = some false := by kernel_rfl
@[simp] theorem zeroT_139 : zeroT Try.prog 139 = some [.nilFunc] := by kernel_rfl
@[simp] theorem szOf_140 : szOf Try.prog 140 = some 1 := by kernel_rfl
@[simp] theorem aggT_140 : aggT Try.prog 140 = some false := by kernel_rfl
@[simp] theorem zeroT_140 : zeroT Try.prog 140 = some [.nilFunc] := by kernel_rfl
@[simp] theorem szOf_141 : szOf Try.prog 141 = some 1 := by kernel_rfl
@[simp] theorem aggT_141 : aggT Try.prog 141 = some false := by kernel_rfl
@[simp] theorem strT_141 : strT Try.prog 141 = false := by kernel_rfl
@[simp] theorem boolT_141 : boolT Try.prog 141 = false := by kernel_rfl
@[simp] theorem elemT_141 : elemT Try.prog 141 = none := by kernel_rfl
@[simp] theorem rowT_141 : rowT Try.prog 141 = none := by kernel_rfl
@[simp] theorem kindT_141 : kindT Try.prog 141 = some .u32 := by kernel_rfl
@[simp] theorem zeroT_141 : zeroT Try.prog 141 = some [.int .u32 0] := by kernel_rfl
@[simp] theorem szOf_143 : szOf Try.prog 143 = some 1 := by kernel_rfl
@[simp] theorem aggT_143 : aggT Try.prog 143 = some false := by kernel_rfl
@[simp] theorem zeroT_143 : zeroT Try.prog 143 = some [.nilFunc] := by kernel_rfl
@[simp] theorem szOf_144 : szOf Try.prog 144 = some 1 := by kernel_rfl
@[simp] theorem aggT_144 : aggT Try.prog 144 = some false := by kernel_rfl
@[simp] theorem strT_144 : strT Try.prog 144 = false := by kernel_rfl
@[simp] theorem boolT_144 : boolT Try.prog 144 = false := by kernel_rfl
@[simp] theorem elemT_144 : elemT Try.prog 144 = none := by kernel_rfl
@[simp] theorem rowT_144 : rowT Try.prog 144 = none := by kernel_rfl
@[simp] theorem kindT_144 : kindT Try.prog 144 = some .u64 := by kernel_rfl
@[simp] theorem zeroT_144 : zeroT Try.prog 144 = some [.int .u64 0] := by kernel_rfl
@[simp] theorem szOf_146 : szOf Try.prog 146 = some 1 := by kernel_rfl
@[simp] theorem aggT_146 : aggT Try.prog 146 = some false := by kernel_rfl
@[simp] theorem zeroT_146 : zeroT Try.prog 146 = some [.nilFunc] := by kernel_rfl
@[simp] theorem szOf_147 : szOf Try.prog 147 = some 1 := by kernel_rfl
@[simp] theorem aggT_147 : aggT Try.prog 147 = some false := by kernel_rfl
@[simp] theorem zeroT_147 : zeroT Try.prog 147 = some [.nilFunc] := by kernel_rfl
@[simp] theorem szOf_148 : szOf Try.prog 148 = some 1 := by kernel_rfl
@[simp] theorem aggT_148 : aggT Try.prog 148 = some false := by kernel_rfl
@[simp] theorem strT_148 : strT Try.prog 148 = false := by kernel_rfl
@[simp] theorem boolT_148 : boolT Try.prog 148 = false := by kernel_rfl
@[simp] theorem elemT_148 : elemT Try.prog 148 = none := by kernel_rfl
@[simp] theorem rowT_148 : rowT Try.prog 148 = none := by kernel_rfl
@[simp] theorem kindT_148 : kindT Try.prog 148 = some .i64 := by kernel_rfl
@[simp] theorem zeroT_148 : zeroT Try.prog 148 = some [.int .i64 0] := by kernel_rfl
@[simp] theorem szOf_150 : szOf Try.prog 150 = some 1 := by kernel_rfl
@[simp] theorem aggT_150 : aggT Try.prog 150 = some false := by kernel_rfl
@[simp] theorem zeroT_150 : zeroT Try.prog 150 = some [.nilFunc] := by kernel_rfl
@[simp] theorem szOf_151 : szOf Try.prog 151 = some 1 := by kernel_rfl
@[simp] theorem aggT_151 : aggT Try.prog 151 = some false := by kernel_rfl
@[simp] theorem zeroT_151 : zeroT Try.prog 151 = some [.nilFunc] := by kernel_rfl
@[simp] theorem szOf_152 : szOf Try.prog 152 = some 1 := by kernel_rfl
@[simp] theorem aggT_152 : aggT Try.prog 152 = some false := by kernel_rfl
@[simp] theorem zeroT_152 : zeroT Try.prog 152 = some [.nilFunc] := by kernel_rfl
@[simp] theorem szOf_154 : szOf Try.prog 154 = some 1 := by kernel_rfl
@[simp] theorem aggT_154 : aggT Try.prog 154 = some false := by kernel_rfl
@[simp] theorem zeroT_154 : zeroT Try.prog 154 = some [.nilFunc] := by kernel_rfl
@[simp] theorem szOf_155 : szOf Try.prog 155 = some 1 := by kernel_rfl
@[simp] theorem aggT_155 : aggT Try.prog 155 = some false := by kernel_rfl
@[simp] theorem zeroT_155 : zeroT Try.prog 155 = some [.nilFunc] := by kernel_rfl
@[simp] theorem szOf_156 : szOf Try.prog 156 = some 1 := by kernel_rfl
@[simp] theorem aggT_156 : aggT Try.prog 156 = some false := by kernel_rfl
@[simp] theorem zeroT_156 : zeroT Try.prog 156 = some [.nilFunc] := by kernel_rfl
@[simp] theorem szOf_157 : szOf Try.prog 157 = some 1 := by kernel_rfl
@[simp] theorem aggT_157 : aggT Try.prog 157 = some false := by kernel_rfl
@[simp] theorem zeroT_157 : zeroT Try.prog 157 = some [.nilFunc] := by kernel_rfl
@[simp] theorem szOf_158 : szOf Try.prog 158 = some 1 := by kernel_rfl
@[simp] theorem aggT_158 : aggT Try.prog 158 = some false := by kernel_rfl
@[simp] theorem strT_158 : strT Try.prog 158 = false := by kernel_rfl
@[simp] theorem boolT_158 : boolT Try.prog 158 = false := by kernel_rfl
@[simp] theorem elemT_158 : elemT Try.prog 158 = none := by kernel_rfl
@[simp] theorem rowT_158 : rowT Try.prog 158 = none := by kernel_rfl
@[simp] theorem kindT_158 : kindT Try.prog 158 = some .u64 := by kernel_rfl
@[simp] theorem zeroT_158 : zeroT Try.prog 158 = some [.int .u64 0] := by kernel_rfl
@[simp] theorem szOf_159 : szOf Try.prog 159 = some 1 := by kernel_rfl
@[simp] theorem aggT_159 : aggT Try.prog 159 = some false := by kernel_rfl
@[simp] theorem zeroT_159 : zeroT Try.prog 159 = some [.nilFunc] := by kernel_rfl
@[simp] theorem szOf_160 : szOf Try.prog 160 = some 1 := by kernel_rfl
@[simp] theorem aggT_160 : aggT Try.prog 160 = some false := by kernel_rfl
@[simp] theorem zeroT_160 : zeroT Try.prog 160 = some [.nilFunc] := by kernel_rfl
@[simp] theorem szOf_161 : szOf Try.prog 161 = some 1 := by kernel_rfl
@[simp] theorem aggT_161 : aggT Try.prog 161 = some false := by kernel_rfl
@[simp] theorem zeroT_161 : zeroT Try.prog 161 = some [.nilFunc] := by kernel_rfl
@[simp] theorem szOf_162 : szOf Try.prog 162 = some 1 := by kernel_rfl
@[simp] theorem aggT_162 : aggT Try.prog 162 = some false := by kernel_rfl
@[simp] theorem strT_162 : strT Try.prog 162 = false := by kernel_rfl
@[simp] theorem boolT_162 : boolT Try.prog 162 = false := by kernel_rfl
@[simp] theorem elemT_162 : elemT Try.prog 162 = none := by kernel_rfl
@[simp] theorem rowT_162 : rowT Try.prog 162 = none := by kernel_rfl
@[simp] theorem zeroT_162 : zeroT Try.prog 162 = some [.pointer none] := by kernel_rfl
@[simp] theorem szOf_163 : szOf Try.prog 163 = some 1 := by kernel_rfl
@[simp] theorem aggT_163 : aggT Try.prog 163 = some false := by kernel_rfl
@[simp] theorem zeroT_163 : zeroT Try.prog 163 = some [.nilFunc] := by kernel_rfl
@[simp] theorem szOf_165 : szOf Try.prog 165 = some 1 := by kernel_rfl
@[simp] theorem aggT_165 : aggT Try.prog 165 = some false := by kernel_rfl
@[simp] theorem zeroT_165 : zeroT Try.prog 165 = some [.nilFunc] := by kernel_rfl
@[simp] theorem szOf_166 : szOf Try.prog 166 = some 1 := by kernel_rfl
@[simp] theorem aggT_166 : aggT Try.prog 166 = some false := by kernel_rfl
@[simp] theorem zeroT_166 : zeroT Try.prog 166 = some [.nilFunc] := by kernel_rfl
@[simp] theorem szOf_167 : szOf Try.prog 167 = some 1 := by kernel_rfl
@[simp] theorem aggT_167 : aggT Try.prog 167 = some false := by kernel_rfl
@[simp] theorem strT_167 : strT Try.prog 167 = false := by kernel_rfl
@[simp] theorem boolT_167 : boolT Try.prog 167 = false := by kernel_rfl
@[simp] theorem elemT_167 : elemT Try.prog 167 = none := by kernel_rfl
@[simp] theorem rowT_167 : rowT Try.prog 167 = none := by kernel_rfl
@[simp] theorem zeroT_167 : zeroT Try.prog 167 = some [.pointer none] := by kernel_rfl
@[simp] theorem szOf_168 : szOf Try.prog 168 = some 1 := by kernel_rfl
@[simp] theorem aggT_168 : aggT Try.prog 168 = some false := by kernel_rfl
@[simp] theorem zeroT_168 : zeroT Try.prog 168 = some [.nilFunc] := by kernel_rfl
@[simp] theorem szOf_169 : szOf Try.prog 169 = some 1 := by kernel_rfl
@[simp] theorem aggT_169 : aggT Try.prog 169 = some false := by kernel_rfl
@[simp] theorem zeroT_169 : zeroT Try.prog 169 = some [.nilFunc] := by kernel_rfl
@[simp] theorem szOf_170 : szOf Try.prog 170 = some 4 := by kernel_rfl
@[simp] theorem aggT_170 : aggT Try.prog 170 = some true := by kernel_rfl
@[simp] theorem strT_170 : strT Try.prog 170 = false := by kernel_rfl
@[simp] theorem boolT_170 : boolT Try.prog 170 = false := by kernel_rfl
@[simp] theorem elemT_170 : elemT Try.prog 170 = none := by kernel_rfl
@[simp] theorem rowT_170 : rowT Try.prog 170 = none := by kernel_rfl
@[simp] theorem structT_170 : structT Try.prog 170 = some [(0, 1), (1, 1), (2, 1), (3, 1)] := by kernel_rfl
@[simp] theorem fieldT_170_0 : fieldT Try.prog 170 0 = some (17, 0) := by kernel_rfl
@[simp] theorem fieldT_170_1 : fieldT Try.prog 170 1 = some (17, 1) := by kernel_rfl
@[simp] theorem fieldT_170_2 : fieldT Try.prog 170 2 = some (17, 2) := by kernel_rfl
@[simp] theorem fieldT_170_3 : fieldT Try.prog 170 3 = some (9, 3) := by kernel_rfl
@[simp] theorem zeroT_170 : zeroT Try.prog 170 = some [.pointer none, .pointer none, .pointer none, .string ⟨#[]⟩] := by kernel_rfl
@[simp] theorem szOf_171 : szOf Try.prog 171 = some 4 := by kernel_rfl
@[simp] theorem aggT_171 : aggT Try.prog 171 = some true := by kernel_rfl
@[simp] theorem strT_171 : strT Try.prog 171 = false := by kernel_rfl
@[simp] theorem boolT_171 : boolT Try.prog 171 = false := by kernel_rfl
@[simp] theorem elemT_171 : elemT Try.prog 171 = none := by kernel_rfl
@[simp] theorem rowT_171 : rowT Try.prog 171 = none := by kernel_rfl
@[simp] theorem structT_171 : structT Try.prog 171 = some [(0, 1), (1, 1), (2, 1), (3, 1)] := by kernel_rfl
@[simp] theorem fieldT_171_0 : fieldT Try.prog 171 0 = some (17, 0) := by kernel_rfl
@[simp] theorem fieldT_171_1 : fieldT Try.prog 171 1 = some (17, 1) := by kernel_rfl
@[simp] theorem fieldT_171_2 : fieldT Try.prog 171 2 = some (17, 2) := by kernel_rfl
@[simp] theorem fieldT_171_3 : fieldT Try.prog 171 3 = some (9, 3) := by kernel_rfl
@[simp] theorem zeroT_171 : zeroT Try.prog 171 = some [.pointer none, .pointer none, .pointer none, .string ⟨#[]⟩] := by kernel_rfl
@[simp] theorem szOf_172 : szOf Try.prog 172 = some 0 := by kernel_rfl
@[simp] theorem aggT_172 : aggT Try.prog 172 = some true := by kernel_rfl
@[simp] theorem strT_172 : strT Try.prog 172 = false := by kernel_rfl
@[simp] theorem boolT_172 : boolT Try.prog 172 = false := by kernel_rfl
@[simp] theorem elemT_172 : elemT Try.prog 172 = none := by kernel_rfl
@[simp] theorem rowT_172 : rowT Try.prog 172 = none := by kernel_rfl
@[simp] theorem arrT_172 : arrT Try.prog 172 = some (0, 16) := by kernel_rfl
@[simp] theorem zeroT_172 : zeroT Try.prog 172 = some [] := by kernel_rfl
@[simp] theorem szOf_173 : szOf Try.prog 173 = some 0 := by kernel_rfl
@[simp] theorem aggT_173 : aggT Try.prog 173 = some true := by kernel_rfl
@[simp] theorem strT_173 : strT Try.prog 173 = false := by kernel_rfl
@[simp] theorem boolT_173 : boolT Try.prog 173 = false := by kernel_rfl
@[simp] theorem elemT_173 : elemT Try.prog 173 = none := by kernel_rfl
@[simp] theorem rowT_173 : rowT Try.prog 173 = none := by kernel_rfl
@[simp] theorem structT_173 : structT Try.prog 173 = some [(0, 0)] := by kernel_rfl
@[simp] theorem fieldT_173_0 : fieldT Try.prog 173 0 = some (172, 0) := by kernel_rfl
@[simp] theorem zeroT_173 : zeroT Try.prog 173 = some [] := by kernel_rfl
@[simp] theorem szOf_174 : szOf Try.prog 174 = some 0 := by kernel_rfl
@[simp] theorem aggT_174 : aggT Try.prog 174 = some true := by kernel_rfl
@[simp] theorem strT_174 : strT Try.prog 174 = false := by kernel_rfl
@[simp] theorem boolT_174 : boolT Try.prog 174 = false := by kernel_rfl
@[simp] theorem elemT_174 : elemT Try.prog 174 = none := by kernel_rfl
@[simp] theorem rowT_174 : rowT Try.prog 174 = none := by kernel_rfl
@[simp] theorem structT_174 : structT Try.prog 174 = some [(0, 0)] := by kernel_rfl
@[simp] theorem fieldT_174_0 : fieldT Try.prog 174 0 = some (172, 0) := by kernel_rfl
@[simp] theorem zeroT_174 : zeroT Try.prog 174 = some [] := by kernel_rfl
@[simp] theorem szOf_175 : szOf Try.prog 175 = some 1 := by kernel_rfl
@[simp] theorem aggT_175 : aggT Try.prog 175 = some false := by kernel_rfl
@[simp] theorem strT_175 : strT Try.prog 175 = false := by kernel_rfl
@[simp] theorem boolT_175 : boolT Try.prog 175 = false := by kernel_rfl
@[simp] theorem elemT_175 : elemT Try.prog 175 = none := by kernel_rfl
@[simp] theorem rowT_175 : rowT Try.prog 175 = none := by kernel_rfl
@[simp] theorem kindT_175 : kindT Try.prog 175 = some .u8 := by kernel_rfl
@[simp] theorem zeroT_175 : zeroT Try.prog 175 = some [.int .u8 0] := by kernel_rfl
@[simp] theorem szOf_176 : szOf Try.prog 176 = some 1 := by kernel_rfl
@[simp] theorem aggT_176 : aggT Try.prog 176 = some false := by kernel_rfl
@[simp] theorem strT_176 : strT Try.prog 176 = false := by kernel_rfl
@[simp] theorem boolT_176 : boolT Try.prog 176 = false := by kernel_rfl
@[simp] theorem elemT_176 : elemT Try.prog 176 = none := by kernel_rfl
@[simp] theorem rowT_176 : rowT Try.prog 176 = none := by kernel_rfl
@[simp] theorem kindT_176 : kindT Try.prog 176 = some .u8 := by kernel_rfl
@[simp] theorem zeroT_176 : zeroT Try.prog 176 = some [.int .u8 0] := by kernel_rfl
@[simp] theorem szOf_177 : szOf Try.prog 177 = some 1 := by kernel_rfl
@[simp] theorem aggT_177 : aggT Try.prog 177 = some false := by kernel_rfl
@[simp] theorem zeroT_177 : zeroT Try.prog 177 = some [.nilFunc] := by kernel_rfl
@[simp] theorem szOf_178 : szOf Try.prog 178 = some 1 := by kernel_rfl
@[simp] theorem aggT_178 : aggT Try.prog 178 = some false := by kernel_rfl
@[simp] theorem strT_178 : strT Try.prog 178 = false := by kernel_rfl
@[simp] theorem boolT_178 : boolT Try.prog 178 = false := by kernel_rfl
@[simp] theorem elemT_178 : elemT Try.prog 178 = none := by kernel_rfl
@[simp] theorem rowT_178 : rowT Try.prog 178 = none := by kernel_rfl
@[simp] theorem zeroT_178 : zeroT Try.prog 178 = some [.pointer none] := by kernel_rfl
@[simp] theorem szOf_179 : szOf Try.prog 179 = some 1 := by kernel_rfl
@[simp] theorem aggT_179 : aggT Try.prog 179 = some false := by kernel_rfl
@[simp] theorem strT_179 : strT Try.prog 179 = false := by kernel_rfl
@[simp] theorem boolT_179 : boolT Try.prog 179 = false := by kernel_rfl
@[simp] theorem elemT_179 : elemT Try.prog 179 = none := by kernel_rfl
@[simp] theorem rowT_179 : rowT Try.prog 179 = none := by kernel_rfl
@[simp] theorem kindT_179 : kindT Try.prog 179 = some .i32 := by kernel_rfl
@[simp] theorem zeroT_179 : zeroT Try.prog 179 = some [.int .i32 0] := by kernel_rfl
@[simp] theorem szOf_180 : szOf Try.prog 180 = some 1 := by kernel_rfl
@[simp] theorem aggT_180 : aggT Try.prog 180 = some false := by kernel_rfl
@[simp] theorem strT_180 : strT Try.prog 180 = false := by kernel_rfl
@[simp] theorem boolT_180 : boolT Try.prog 180 = false := by kernel_rfl
@[simp] theorem elemT_180 : elemT Try.prog 180 = none := by kernel_rfl
@[simp] theorem rowT_180 : rowT Try.prog 180 = none := by kernel_rfl
@[simp] theorem kindT_180 : kindT Try.prog 180 = some .i32 := by kernel_rfl
@[simp] theorem zeroT_180 : zeroT Try.prog 180 = some [.int .i32 0] := by kernel_rfl
@[simp] theorem szOf_181 : szOf Try.prog 181 = some 11 := by kernel_rfl
@[simp] theorem aggT_181 : aggT Try.prog 181 = some true := by kernel_rfl
@[simp] theorem strT_181 : strT Try.prog 181 = false := by kernel_rfl
@[simp] theorem boolT_181 : boolT Try.prog 181 = false := by kernel_rfl
@[simp] theorem elemT_181 : elemT Try.prog 181 = none := by kernel_rfl
@[simp] theorem rowT_181 : rowT Try.prog 181 = none := by kernel_rfl
@[simp] theorem structT_181 : structT Try.prog 181 = some [(0, 1), (1, 1), (2, 1), (3, 1), (4, 1), (5, 1), (6, 1), (7, 1), (8, 1), (9, 1), (10, 1)] := by kernel_rfl
@[simp] theorem fieldT_181_0 : fieldT Try.prog 181 0 = some (12, 0) := by kernel_rfl
@[simp] theorem fieldT_181_1 : fieldT Try.prog 181 1 = some (12, 1) := by kernel_rfl
@[simp] theorem fieldT_181_2 : fieldT Try.prog 181 2 = some (141, 2) := by kernel_rfl
@[simp] theorem fieldT_181_3 : fieldT Try.prog 181 3 = some (175, 3) := by kernel_rfl
@[simp] theorem fieldT_181_4 : fieldT Try.prog 181 4 = some (5, 4) := by kernel_rfl
@[simp] theorem fieldT_181_5 : fieldT Try.prog 181 5 = some (5, 5) := by kernel_rfl
@[simp] theorem fieldT_181_6 : fieldT Try.prog 181 6 = some (176, 6) := by kernel_rfl
@[simp] theorem fieldT_181_7 : fieldT Try.prog 181 7 = some (177, 7) := by kernel_rfl
@[simp] theorem fieldT_181_8 : fieldT Try.prog 181 8 = some (178, 8) := by kernel_rfl
@[simp] theorem fieldT_181_9 : fieldT Try.prog 181 9 = some (179, 9) := by kernel_rfl
@[simp] theorem fieldT_181_10 : fieldT Try.prog 181 10 = some (180, 10) := by kernel_rfl
@[simp] theorem zeroT_181 : zeroT Try.prog 181 = some [.int .u64 0, .int .u64 0, .int .u32 0, .int .u8 0, .int .u8 0, .int .u8 0, .int .u8 0, .nilFunc, .pointer none, .int .i32 0, .int .i32 0] := by kernel_rfl
@[simp] theorem szOf_182 : szOf Try.prog 182 = some 11 := by kernel_rfl
@[simp] theorem aggT_182 : aggT Try.prog 182 = some true := by kernel_rfl
@[simp] theorem strT_182 : strT Try.prog 182 = false := by kernel_rfl
@[simp] theorem boolT_182 : boolT Try.prog 182 = false := by kernel_rfl
@[simp] theorem elemT_182 : elemT Try.prog 182 = none := by kernel_rfl
@[simp] theorem rowT_182 : rowT Try.prog 182 = none := by kernel_rfl
@[simp] theorem structT_182 : structT Try.prog 182 = some [(0, 1), (1, 1), (2, 1), (3, 1), (4, 1), (5, 1), (6, 1), (7, 1), (8, 1), (9, 1), (10, 1)] := by kernel_rfl
@[simp] theorem fieldT_182_0 : fieldT Try.prog 182 0 = some (12, 0) := by kernel_rfl
@[simp] theorem fieldT_182_1 : fieldT Try.prog 182 1 = some (12, 1) := by kernel_rfl
@[simp] theorem fieldT_182_2 : fieldT Try.prog 182 2 = some (141, 2) := by kernel_rfl
@[simp] theorem fieldT_182_3 : fieldT Try.prog 182 3 = some (175, 3) := by kernel_rfl
@[simp] theorem fieldT_182_4 : fieldT Try.prog 182 4 = some (5, 4) := by kernel_rfl
@[simp] theorem fieldT_182_5 : fieldT Try.prog 182 5 = some (5, 5) := by kernel_rfl
@[simp] theorem fieldT_182_6 : fieldT Try.prog 182 6 = some (176, 6) := by kernel_rfl
@[simp] theorem fieldT_182_7 : fieldT Try.prog 182 7 = some (177, 7) := by kernel_rfl
@[simp] theorem fieldT_182_8 : fieldT Try.prog 182 8 = some (178, 8) := by kernel_rfl
@[simp] theorem fieldT_182_9 : fieldT Try.prog 182 9 = some (179, 9) := by kernel_rfl
@[simp] theorem fieldT_182_10 : fieldT Try.prog 182 10 = some (180, 10) := by kernel_rfl
@[simp] theorem zeroT_182 : zeroT Try.prog 182 = some [.int .u64 0, .int .u64 0, .int .u32 0, .int .u8 0, .int .u8 0, .int .u8 0, .int .u8 0, .nilFunc, .pointer none, .int .i32 0, .int .i32 0] := by kernel_rfl
end Go.AM
/-
  The abstract machine, nineteenth part: what makes it short to use.
-/
namespace Go.AM
open Go
set_option linter.unusedSimpArgs false
set_option linter.unusedVariables false

variable {P : Program}

attribute [simp] nilCmp FReg preF FOne FSkip Gd.tt Gd.tf Gd.ft Gd.ff fN fR fW fA AState.ev putT_tl putT_none tlArgs tl_cons tl_nil ofVal ofVal1 lenF idxF sliceF boundF rawOf rawsOf binF unF loadD loadA lb_at lk_cons lk_nil upd_lb yieldA AV.cells? AV.elems? toDs AV.toD rowsOf fillA setCells FCond copySrc

@[simp] theorem FOps_nil {cx : Cx} {ops : Array Oper} {dr : Bool} {K : AState → Prop} {t : Nat → AV} {b : Nat → Option (List (List AV))} {k : Nat → Bool} {n : Nat} : FOps P cx ops dr [] K ⟨t, b, k, n⟩ = K ⟨t, b, k, n⟩ := by simp only [FOps]
@[simp] theorem FOps_cons {cx : Cx} {ops : Array Oper} {dr : Bool} {o : Oper} {r : List Oper} {K : AState → Prop} {t : Nat → AV} {b : Nat → Option (List (List AV))} {k : Nat → Bool} {n : Nat} : FOps P cx ops dr (o :: r) K ⟨t, b, k, n⟩ = match o.guard with
    | none => FOne P cx dr o (FOps P cx ops dr r K) ⟨t, b, k, n⟩
    | some (j, want) => match yieldA ops ⟨t, b, k, n⟩ j with
      | some (some c) => Gd c want (FOne P cx dr o (FOps P cx ops dr r K)) (FSkip o.dst (FOps P cx ops dr r K)) ⟨t, b, k, n⟩
      | some none => FSkip o.dst (FOps P cx ops dr r K) ⟨t, b, k, n⟩
      | none => False := by
  simp only [FOps]
  rfl

@[simp] theorem live_full {tok : Nat → Bool} : Own.full.liveP tok = True := rfl
@[simp] theorem kill_full {tok : Nat → Bool} : Own.full.kill tok = tok := rfl
@[simp] theorem live_tok {tok : Nat → Bool} {t : Nat} : (Own.tok t).liveP tok = (tok t = true) := rfl
@[simp] theorem kill_tok {tok : Nat → Bool} {t : Nat} : (Own.tok t).kill tok = upd tok t false := rfl

/-- Slots, one by one. -/
def ToL (p q : Nat → Prop) (fz : Option (Nat × Nat × List (List D))) (l : List (Nat × AV)) : List (Nat × AV) → Prop
  | [] => True
  | (i, v) :: r => To p q fz (tl l i) v ∧ ToL p q fz l r

theorem ToL.all {p q : Nat → Prop} {fz : Option (Nat × Nat × List (List D))} {l : List (Nat × AV)} : ∀ {l' : List (Nat × AV)}, ToL p q fz l l' → ∀ t, To p q fz (tl l t) (tl l' t)
  | [], _, t => .bot
  | (i, v) :: r, h, t => by
    rw [tl_cons]
    split
    · rename_i e; subst e; exact h.1
    · exact ToL.all h.2 t

def BoxL (p q : Nat → Prop) (fz : Option (Nat × Nat × List (List D))) (loc : List (Nat × List (List AV))) : List (Nat × List (List AV)) → Prop
  | [] => True
  | (s, rows') :: r => (∃ rows, lk loc s = some rows ∧ RowsTo p q fz rows rows') ∧ BoxL p q fz loc r

theorem BoxL.all {p q : Nat → Prop} {fz : Option (Nat × Nat × List (List D))} {loc : List (Nat × List (List AV))} : ∀ {loc' : List (Nat × List (List AV))}, BoxL p q fz loc loc' → ∀ s rows', lk loc' s = some rows' → ∃ rows, lk loc s = some rows ∧ RowsTo p q fz rows rows'
  | [], _, s, rows', h => by simp [lk] at h
  | (i, v) :: r, h, s, rows', hs => by
    rw [lk_cons] at hs
    split at hs
    · rename_i e; subst e; cases hs; exact h.1
    · exact BoxL.all h.2 s rows' hs

/-- A weakening that keeps the tokens. -/
theorem Weaks.mk' {cx : Cx} {nt0 nt : Nat} {l l' : List (Nat × AV)} {out : Nat → Option (List (List AV))} {loc loc' : List (Nat × List (List AV))} {tok : Nat → Bool} (hnt : nt0 ≤ nt)
    (hl : ToL (fun k => lb cx.base out loc' k ≠ none) (fun _ => True) none l l') (hb : BoxL (fun k => lb cx.base out loc' k ≠ none) (fun _ => True) none loc loc')
    (ho : ∀ k rows, k < cx.base → out k = some rows → cx.B0 k = some rows ∨ ∀ r ∈ rows, ∀ x ∈ r, OkIn (fun k => lb cx.base out loc' k ≠ none) (fun _ => True) x) :
    Weaks cx nt0 ⟨tl l, lb cx.base out loc, tok, nt⟩ ⟨tl l', lb cx.base out loc', tok, nt⟩ := by
  refine ⟨out, loc, loc', none, rfl, rfl, Nat.le_refl _, hnt, fun t h => ⟨h, .inl rfl⟩, ?_, ?_, (fun _ _ _ h => by cases h), ?_⟩
  · simp only [true_or, Option.map_none]; exact hl.all
  · simp only [true_or, Option.map_none]; exact hb.all
  · simp only [true_or]; exact ho

/-- A weakening that leaves the boxes that came in alone. -/
theorem Weaks.mk {cx : Cx} {nt0 nt : Nat} {l l' : List (Nat × AV)} {out : Nat → Option (List (List AV))} {loc loc' : List (Nat × List (List AV))} {tok : Nat → Bool} (hnt : nt0 ≤ nt) (ho : out = cx.B0)
    (hl : ToL (fun k => lb cx.base out loc' k ≠ none) (fun _ => True) none l l') (hb : BoxL (fun k => lb cx.base out loc' k ≠ none) (fun _ => True) none loc loc') :
    Weaks cx nt0 ⟨tl l, lb cx.base out loc, tok, nt⟩ ⟨tl l', lb cx.base out loc', tok, nt⟩ :=
  Weaks.mk' hnt hl hb fun k rows _ h => .inl (by rw [← ho]; exact h)

/-- The end of a function whose result is data. -/
theorem Fin.data {cx : Cx} {nt0 nt : Nat} {rs : List ResultVar} {l : List (Nat × AV)} {out : Nat → Option (List (List AV))} {loc : List (Nat × List (List AV))} {tok mtok : Nat → Bool} {vs : List AV} {av : AV}
    (hres : resAs P ⟨tl l, lb cx.base out loc, tok, nt⟩ rs = some vs) (hbox : lb cx.base out [] = out) (ho : out = cx.B0) (hm : ∀ t, mtok t = true → t < nt0) (htok : ∀ t, mtok t = true → tok t = true) (hnt : nt0 ≤ nt)
    (hto : To (fun k => lb cx.base out [] k ≠ none) (fun t => nt0 = nt ∨ t < nt0) none (packA vs) av) : Fin P cx nt0 rs (fun v' m' => v' = av ∧ m' = ⟨out, cx.base, mtok, nt0⟩) ⟨tl l, lb cx.base out loc, tok, nt⟩ :=
  ⟨vs, out, loc, none, av, ⟨out, cx.base, mtok, nt0⟩, hres, ⟨rfl, rfl, hnt, Nat.le_refl _, fun t h => ⟨htok t h, .inr (hm t h)⟩, fun _ => .bot, fun s rows' h => by simp [lk] at h, (fun _ _ _ h => by cases h),
    fun k rows _ h => .inl (by rw [← ho]; exact h)⟩, hbox.symm, rfl, by simpa using hto, rfl, rfl⟩

/-! ### Weakenings that simp closes -/
section
variable {p q : Nat → Prop} {fz : Option (Nat × Nat × List (List D))}
@[simp] theorem to_bot (x : AV) : To p q fz x .bot := .bot
@[simp] theorem to_d (x : D) : To p q fz (.d x) (.d x) := .same .d
@[simp] theorem to_data (sz : Nat) (es : List (List D)) (o : Own) : To p q fz (.osl sz es o) (.d (.sl sz es)) := .data
@[simp] theorem to_osl (sz : Nat) (es : List (List D)) (o : Own) : To p (fun _ => True) fz (.osl sz es o) (.osl sz es o) := .same (.osl fun _ _ => trivial)
theorem to_snoc {sz : Nat} {es : List (List D)} {r r' : List D} (h : DS1 r r') (o : Own) : To p (fun _ => True) fz (.osl sz (es ++ [r]) o) (.osl sz (es ++ [r']) o) := .otok ((DSs.snoc h).sub sz) fun _ _ => trivial
@[simp] theorem to_full (sz : Nat) (es : List (List D)) : To p q fz (.osl sz es .full) (.osl sz es .full) := .same (.osl fun _ h => by cases h)
@[simp] theorem to_nil0 (sz sz' : Nat) : To p q fz (.osl sz [] .full) (.osl sz' [] .full) := .nil rfl
@[simp] theorem to_emp0 (sz sz' : Nat) (o : Own) : To p q fz (.osl sz [] o) (.d (.sl sz' [])) := .odsub .emp
@[simp] theorem to_emp1 (sz sz' : Nat) : To p q fz (.d (.sl sz [])) (.d (.sl sz' [])) := .dsub .emp
@[simp] theorem to_emp2 (sz sz' : Nat) : To p q fz (.osl 1 [[.sl sz []]] .full) (.osl 1 [[.sl sz' []]] .full) :=
  .osub (.sl rfl (fun i h1 h2 => by simp at h1; subst h1; rfl) (fun i h1 h2 j g1 g2 => by simp at h1; subst h1; simp at g1; subst g1; exact .emp))
@[simp] theorem to_emp3 (sz sz' : Nat) (o : Own) : To p q fz (.osl 1 [[.sl sz []]] o) (.d (.sl 1 [[.sl sz' []]])) :=
  .odsub (.sl rfl (fun i h1 h2 => by simp at h1; subst h1; rfl) (fun i h1 h2 j g1 g2 => by simp at h1; subst h1; simp at g1; subst g1; exact .emp))
@[simp] theorem to_cptr (cs : List D) (off : Nat) : To p q fz (.cptr cs off) (.cptr cs off) := .same .cptr
theorem to_ptr {k i off : Nat} (h : p k) : To p q fz (.ptr k i off) (.ptr k i off) := .same (.ptr h)
@[simp] theorem to_ptr_lb {base s i off : Nat} {out : Nat → Option (List (List AV))} {loc : List (Nat × List (List AV))} : To (fun k => lb base out loc k ≠ none) q fz (.ptr (base + s) i off) (.ptr (base + s) i off) ↔ lk loc s ≠ none := by
  constructor
  · intro h
    cases h with
    | same h => cases h with | ptr h => rw [lb_at] at h; exact h
  · intro h
    exact to_ptr (by rw [lb_at]; exact h)
@[simp] theorem to_msl_lb {base s off n sz : Nat} {out : Nat → Option (List (List AV))} {loc : List (Nat × List (List AV))} : To (fun k => lb base out loc k ≠ none) q fz (.msl (base + s) off n sz) (.msl (base + s) off n sz) ↔ lk loc s ≠ none := by
  constructor
  · intro h
    cases h with
    | same h => cases h with | msl h => rw [lb_at] at h; exact h
  · intro h
    exact .same (.msl (by rw [lb_at]; exact h))
@[simp] theorem okIn_d (x : D) : OkIn p q (.d x) := .d
@[simp] theorem okIn_bot : OkIn p q .bot := .bot
@[simp] theorem okIn_osl (sz : Nat) (es : List (List D)) (o : Own) : OkIn p (fun _ => True) (.osl sz es o) := .osl fun _ _ => trivial
@[simp] theorem okIn_ptr {k i off : Nat} : OkIn p q (.ptr k i off) ↔ p k := ⟨fun h => by cases h; assumption, .ptr⟩
@[simp] theorem okIn_agg {cs : List AV} : OkIn p q (.agg cs) ↔ ∀ c ∈ cs, OkIn p q c := ⟨fun h => by cases h; assumption, .agg⟩
@[simp] theorem okIn_fn {f : Fn} {cs : List AV} : OkIn p q (.fn f cs) ↔ ∀ c ∈ cs, OkIn p q c := ⟨fun h => by cases h; assumption, .fn⟩
@[simp] theorem to_tup_nil : To p q fz (.tup []) (.tup []) := .tup rfl fun i h => by simp at h
theorem to_cons_agg {a b : AV} {as1 bs : List AV} (h : To p q fz a b) (k : To p q fz (.agg as1) (.agg bs)) : To p q fz (.agg (a :: as1)) (.agg (b :: bs)) := by
  cases k with
  | same k =>
    refine .agg rfl fun i h1 h2 => ?_
    cases i with
    | zero => exact h
    | succ i => exact .same ((okIn_agg.1 k) _ (List.getElem_mem _))
  | agg hl k =>
    refine .agg (by simp [hl]) fun i h1 h2 => ?_
    cases i with
    | zero => exact h
    | succ i => exact k i (by simpa using h1) (by simpa using h2)
theorem to_cons_tup {a b : AV} {as1 bs : List AV} (h : To p q fz a b) (k : To p q fz (.tup as1) (.tup bs)) : To p q fz (.tup (a :: as1)) (.tup (b :: bs)) := by
  cases k with
  | same k =>
    refine .tup rfl fun i h1 h2 => ?_
    cases i with
    | zero => exact h
    | succ i => cases k with | tup k => exact .same (k _ (List.getElem_mem _))
  | tup hl k =>
    refine .tup (by simp [hl]) fun i h1 h2 => ?_
    cases i with
    | zero => exact h
    | succ i => exact k i (by simpa using h1) (by simpa using h2)
@[simp] theorem to_cons_agg_iff {a b : AV} {as1 bs : List AV} : To p q fz (.agg (a :: as1)) (.agg (b :: bs)) ↔ To p q fz a b ∧ To p q fz (.agg as1) (.agg bs) := by
  constructor
  · intro h
    cases h with
    | same h => have := okIn_agg.1 h; exact ⟨.same (this _ (by simp)), .same (okIn_agg.2 fun c hc => this c (by simp [hc]))⟩
    | agg hl h => exact ⟨h 0 (by simp) (by simp), .agg (by simpa using hl) fun i h1 h2 => h (i + 1) (by simpa using h1) (by simpa using h2)⟩
  · exact fun ⟨h, k⟩ => to_cons_agg h k
@[simp] theorem to_cons_tup_iff {a b : AV} {as1 bs : List AV} : To p q fz (.tup (a :: as1)) (.tup (b :: bs)) ↔ To p q fz a b ∧ To p q fz (.tup as1) (.tup bs) := by
  constructor
  · intro h
    cases h with
    | same h =>
      cases h with
      | tup this => exact ⟨.same (this _ (by simp)), .same (.tup fun c hc => this c (by simp [hc]))⟩
    | tup hl h => exact ⟨h 0 (by simp) (by simp), .tup (by simpa using hl) fun i h1 h2 => h (i + 1) (by simpa using h1) (by simpa using h2)⟩
  · exact fun ⟨h, k⟩ => to_cons_tup h k
@[simp] theorem to_nil_agg : To p q fz (.agg []) (.agg []) := .agg rfl fun i h => by simp at h
end

/-! ### What a region with late stores asks of the slots -/
def SideD (t : List (Nat × AV)) : List Oper → Prop
  | [] => True
  | o :: r => (match o.dst with | some d => NP (tl t d) | none => True) ∧ SideD t r
theorem SideD.all {t : List (Nat × AV)} {l : List Oper} (h : SideD t l) : ∀ o ∈ l, ∀ d, o.dst = some d → NP (tl t d) := by
  induction l with
  | nil => intro o ho; simp at ho
  | cons o r ih =>
    intro x hx d hd
    unfold SideD at h
    rcases List.mem_cons.1 hx with e | hx
    · subst e
      have := h.1
      rw [hd] at this
      exact this
    · exact ih h.2 x hx d hd
theorem Side.of {ops : Array Oper} {l : List (Nat × AV)} {b : Nat → Option (List (List AV))} {k : Nat → Bool} {n : Nat} (h : SideD l ops.toList) : Side ops ⟨tl l, b, k, n⟩ :=
  fun o ho d hd => h.all o ho d hd
attribute [simp] SideD NP NK ptrs Far Far1

/-- A loop over a family of states. -/
theorem AL.loopT {cx : Cx} {nt0 : Nat} {K : Exit → AState → Prop} {r : List CI} {S : AState} {c : Code} {α : Type} (T : α → AState) (inv : α → Prop) (μ : α → Nat) (a0 : α) (h0 : inv a0) (hw : Weaks cx nt0 S (T a0))
    (hstep : ∀ a S, inv a → S = T a → AL P cx nt0 (fun e S' => match e with
      | .normal => ∃ a', inv a' ∧ μ a' < μ a ∧ Weaks cx nt0 S' (T a')
      | e => AU P cx nt0 K r e S') [.c c] S) : AL P cx nt0 K (.c (.loop c) :: r) S := by
  refine AL.loop (fun n S => ∃ a, inv a ∧ n = μ a ∧ S = T a) ⟨_, _, hw, a0, h0, rfl, rfl⟩ ?_
  rintro n S ⟨a, ha, rfl, hS⟩
  have := AL.start (hstep a S ha hS)
  simp only [AL]
  refine this.mono fun e S' h => ?_
  cases e with
  | normal =>
    obtain ⟨a', h1, h2, h3⟩ := h
    exact ⟨μ a', T a', h2, h3, a', h1, rfl, rfl⟩
  | _ => simpa only [AU] using h

/-! ### Tokens of a walk -/
/-- The tokens that came in still live; those of the walk's own accumulators live, and are new ones, all different. -/
structure TK (mtok : Nat → Bool) (nt0 : Nat) (tok : Nat → Bool) (nt : Nat) (os : List Own) : Prop where
  old : ∀ t, mtok t = true → tok t = true
  lt : ∀ t, mtok t = true → t < nt0
  le : nt0 ≤ nt
  own : ∀ o ∈ os, ∀ t, o = .tok t → tok t = true ∧ nt0 ≤ t ∧ t < nt
  ne : os.Pairwise fun a b => ∀ t, a = .tok t → b ≠ .tok t

theorem TK.start {mtok : Nat → Bool} {nt0 : Nat} (h : ∀ t, mtok t = true → t < nt0) : TK mtok nt0 mtok nt0 [] := ⟨fun _ h => h, h, Nat.le_refl _, by simp, .nil⟩
theorem TK.full {mtok : Nat → Bool} {nt0 : Nat} {tok : Nat → Bool} {nt : Nat} {os : List Own} (h : TK mtok nt0 tok nt os) : TK mtok nt0 tok nt (.full :: os) :=
  ⟨h.old, h.lt, h.le, fun o ho t e => by
    rcases List.mem_cons.1 ho with rfl | ho
    · cases e
    · exact h.own o ho t e, .cons (fun b _ t e => by cases e) h.ne⟩
theorem TK.live {mtok : Nat → Bool} {nt0 : Nat} {tok : Nat → Bool} {nt : Nat} {o : Own} {os : List Own} (h : TK mtok nt0 tok nt (o :: os)) : o.liveP tok := by
  cases o with
  | full => trivial
  | tok t => exact (h.own _ (by simp) t rfl).1
theorem TK.tail {mtok : Nat → Bool} {nt0 : Nat} {tok : Nat → Bool} {nt : Nat} {o : Own} {os : List Own} (h : TK mtok nt0 tok nt (o :: os)) : TK mtok nt0 tok nt os :=
  ⟨h.old, h.lt, h.le, fun o' ho => h.own o' (by simp [ho]), (List.pairwise_cons.1 h.ne).2⟩
theorem TK.swap {mtok : Nat → Bool} {nt0 : Nat} {tok : Nat → Bool} {nt : Nat} {a b : Own} {os : List Own} (h : TK mtok nt0 tok nt (a :: b :: os)) : TK mtok nt0 tok nt (b :: a :: os) := by
  have h1 := List.pairwise_cons.1 h.ne
  have h2 := List.pairwise_cons.1 h1.2
  refine ⟨h.old, h.lt, h.le, fun o' ho => h.own o' (by simp at ho ⊢; rcases ho with h | h | h <;> simp [h]), ?_⟩
  refine List.pairwise_cons.2 ⟨fun c hc t e => ?_, List.pairwise_cons.2 ⟨fun c hc => h1.1 c (by simp [hc]), h2.2⟩⟩
  rcases List.mem_cons.1 hc with rfl | hc
  · intro e'
    exact h1.1 b (by simp) t e' e
  · exact h2.1 c hc t e
theorem TK.app {mtok : Nat → Bool} {nt0 : Nat} {tok : Nat → Bool} {nt : Nat} {o : Own} {os : List Own} (h : TK mtok nt0 tok nt (o :: os)) : TK mtok nt0 (upd (o.kill tok) nt true) (nt + 1) (.tok nt :: os) := by
  have hp := List.pairwise_cons.1 h.ne
  have key : ∀ t, t < nt → (∀ t', o = .tok t' → t ≠ t') → (upd (o.kill tok) nt true) t = tok t := by
    intro t ht hne
    rw [upd_other _ _ (by omega)]
    cases o with
    | full => rfl
    | tok t' => simp only [Own.kill]; rw [upd_other _ _ (hne t' rfl)]
  have hle := h.le
  refine ⟨fun t ht => ?_, h.lt, by omega, fun o' ho t e => ?_, ?_⟩
  · have hlt := h.lt t ht
    rw [key t (by omega) (fun t' e => by have := (h.own o (by simp) t' e).2.1; omega)]
    exact h.old t ht
  · rcases List.mem_cons.1 ho with rfl | ho
    · cases e
      exact ⟨by rw [upd_same], hle, by omega⟩
    · obtain ⟨h1, h2, h3⟩ := h.own o' (by simp [ho]) t e
      refine ⟨?_, h2, by omega⟩
      rw [key t h3 (fun t' e' => fun e2 => by subst e2; exact hp.1 o' ho t e' e)]
      exact h1
  · refine List.pairwise_cons.2 ⟨fun b hb t e e' => ?_, hp.2⟩
    cases e
    have := (h.own b (by simp [hb]) _ e').2.2
    omega

theorem Stop.of_b {cx : Cx} {fid : FuncId} {args : List AV} {S : AState} {dst : Option Tmp} {K : AState → Prop} {v : AV} {tok' : Nat → Bool} {nt' : Nat} (h : ACalls P fid args ⟨S.box, cx.nb, S.tok, S.nt⟩ fun v' m' => v' = v ∧ m' = ⟨S.box, cx.nb, tok', nt'⟩)
    (hk : K ⟨putT S.tmps dst v, S.box, tok', nt'⟩) : Stop P cx false fid args S dst K := by
  refine h.mono ?_
  rintro v' m' ⟨rfl, rfl⟩
  exact hk

/-- A box that a call finds lies below its own. -/
theorem key_lt {nb k : Nat} {box : Nat → Option (List (List AV))} {r : List (List AV)} (hbox : lb nb box [] = box) (h : box k = some r) : k < nb := by
  rcases Nat.lt_or_ge k nb with h1 | h1
  · exact h1
  · rw [← hbox] at h
    have : ¬ k < nb := by omega
    simp [lb, lk, this] at h

/-! ### Data of this program -/
abbrev ints (xs : List Int) : D := .sl 1 (xs.map fun n => [D.raw (.int .i64 n)])
abbrev I (n : Int) : AV := .d (.raw (.int .i64 n))
abbrev B (b : Bool) : AV := .d (.raw (.bool b))
structure E where
  ty : Int
  fr : Int
  to : Int
  deriving DecidableEq, Inhabited

abbrev E.cells (e : E) : List D := [.raw (.int .i64 e.ty), .raw (.int .i64 e.fr), .raw (.int .i64 e.to)]
abbrev edges (es : List E) : D := .sl 3 (es.map E.cells)

structure Gr where
  nodes : List Int
  edges : List E
  deriving DecidableEq, Inhabited

structure Mo where
  nodes : List Int
  edges : List Int
  deriving DecidableEq, Inhabited

abbrev Gr.av (g : Gr) : AV := .agg [.d (ints g.nodes), .d (AM.edges g.edges)]
abbrev Mo.av (m : Mo) : AV := .agg [.d (ints m.nodes), .d (ints m.edges)]

@[simp] theorem map_at {α β : Type} (f : α → β) (l : List α) (i : Nat) (d : β) (h : i < l.length) : ((l.map f)[i]?).getD d = f l[i] := by simp [h]

end Go.AM
namespace Go.AM
open Go Go.Proofs
set_option linter.unusedSimpArgs false
set_option linter.unusedVariables false

/-! ### graph.within, fits; ref05.kind, right -/
def withinB (n most : Int) : Bool := decide (0 ≤ n) && decide (n ≤ most)
def fitsB (e : E) (nodes : Int) : Bool := withinB e.ty 99 && (withinB e.fr (nodes - 1) && withinB e.to (nodes - 1))

theorem within_c (n most : Int) (tok : Nat → Bool) (nt : Nat) : DCall Try.prog 51 [I n, I most] tok nt (B (withinB n most)) tok nt := by
  intro box nb
  refine ACalls.of_body Try.func51 rfl (by kernel_rfl) follows_Try (by kernel_rfl) (by simp [Try.ntmps51]) ?_
  intro hbox htok
  simp only at hbox htok
  apply AL.start
  repeat (first | refine AL.seq ?_ | refine AL.block ?_ | refine AL.skip ?_ | refine AL.blk ?_)
  refine AL.region follows_Try (Nat.le_refl _) (by kernel_rfl) ?_
  simp
  repeat (first | refine AL.seq ?_ | refine AL.block ?_ | refine AL.skip ?_ | refine AL.blk ?_)
  refine AL.region follows_Try (Nat.le_refl _) (by kernel_rfl) ?_
  simp
  first | refine Gd.dt (fun h => ?_) (fun h => ?_) | refine Gd.df (fun h => ?_) (fun h => ?_) | refine Gd.t (fun h => ?_) (fun h => ?_) | refine Gd.f (fun h => ?_) (fun h => ?_)
  · simp [h]
    repeat (first | refine AL.seq ?_ | refine AL.block ?_ | refine AL.skip ?_ | refine AL.blk ?_)
    refine AL.ret ?_
    try simp only [AU]
    refine ⟨by simp, Fin.data (by simp [resAs, resA]; rfl) hbox rfl htok (fun _ h => h) (Nat.le_refl _) ?_⟩
    simp [packA, withinB, h]
  · simp [h]
    repeat (first | refine AL.seq ?_ | refine AL.block ?_ | refine AL.skip ?_ | refine AL.blk ?_)
    refine AL.ret ?_
    try simp only [AU]
    refine ⟨by simp, Fin.data (by simp [resAs, resA]; rfl) hbox rfl htok (fun _ h => h) (Nat.le_refl _) ?_⟩
    simp [packA, withinB, h]

theorem fits_c (e : E) (nodes : Int) (h0 : 0 ≤ nodes) (h1 : nodes ≤ 1000000) (tok : Nat → Bool) (nt : Nat) : DCall Try.prog 54 [.agg [I e.ty, I e.fr, I e.to], I nodes] tok nt (B (fitsB e nodes)) tok nt := by
  intro box nb
  have hw : IntKind.i64.wrap (nodes - 1) = nodes - 1 := wrap_in (by omega) (by omega)
  refine ACalls.of_body Try.func54 rfl (by kernel_rfl) follows_Try (by kernel_rfl) (by simp [Try.ntmps54]) ?_
  intro hbox htok
  simp only at hbox htok
  apply AL.start
  repeat (first | refine AL.seq ?_ | refine AL.block ?_ | refine AL.skip ?_ | refine AL.blk ?_)
  refine AL.region follows_Try (Nat.le_refl _) (by kernel_rfl) ?_
  simp
  repeat (first | refine AL.seq ?_ | refine AL.block ?_ | refine AL.skip ?_ | refine AL.blk ?_)
  refine AL.region follows_Try (Nat.le_refl _) (by kernel_rfl) ?_
  simp [hw]
  refine Stop.of_d (within_c _ _ _ _) ?_
  simp [hw]
  first | refine Gd.dt (fun h2 => ?_) (fun h2 => ?_) | refine Gd.df (fun h2 => ?_) (fun h2 => ?_) | refine Gd.t (fun h2 => ?_) (fun h2 => ?_) | refine Gd.f (fun h2 => ?_) (fun h2 => ?_)
  · simp [hw, h2]
    refine Stop.of_d (within_c _ _ _ _) ?_
    simp [hw, h2]
    first | refine Gd.dt (fun h3 => ?_) (fun h3 => ?_) | refine Gd.df (fun h3 => ?_) (fun h3 => ?_) | refine Gd.t (fun h3 => ?_) (fun h3 => ?_) | refine Gd.f (fun h3 => ?_) (fun h3 => ?_)
    · simp [hw, h3]
      refine Stop.of_d (within_c _ _ _ _) ?_
      simp [hw, h2, h3]
      repeat (first | refine AL.seq ?_ | refine AL.block ?_ | refine AL.skip ?_ | refine AL.blk ?_)
      refine AL.ret ?_
      try simp only [AU]
      refine ⟨by simp, Fin.data (by simp [resAs, resA]; rfl) hbox rfl htok (fun _ h => h) (Nat.le_refl _) ?_⟩
      simp [packA, fitsB, h2, h3]
    · simp [h3]
      repeat (first | refine AL.seq ?_ | refine AL.block ?_ | refine AL.skip ?_ | refine AL.blk ?_)
      refine AL.ret ?_
      try simp only [AU]
      refine ⟨by simp, Fin.data (by simp [resAs, resA]; rfl) hbox rfl htok (fun _ h => h) (Nat.le_refl _) ?_⟩
      simp [packA, fitsB, h2, h3]
  · simp [h2]
    repeat (first | refine AL.seq ?_ | refine AL.block ?_ | refine AL.skip ?_ | refine AL.blk ?_)
    refine AL.ret ?_
    try simp only [AU]
    refine ⟨by simp, Fin.data (by simp [resAs, resA]; rfl) hbox rfl htok (fun _ h => h) (Nat.le_refl _) ?_⟩
    simp [packA, fitsB, h2]

theorem valid1_c (n : Int) (tok : Nat → Bool) (nt : Nat) : DCall Try.prog 50 [I n] tok nt (B (!withinB n 99)) tok nt := by
  intro box nb
  refine ACalls.of_body Try.func50 rfl (by kernel_rfl) follows_Try (by kernel_rfl) (by simp [Try.ntmps50]) ?_
  intro hbox htok
  simp only at hbox htok
  apply AL.start
  repeat (first | refine AL.seq ?_ | refine AL.block ?_ | refine AL.skip ?_ | refine AL.blk ?_)
  refine AL.region follows_Try (Nat.le_refl _) (by kernel_rfl) ?_
  simp
  repeat (first | refine AL.seq ?_ | refine AL.block ?_ | refine AL.skip ?_ | refine AL.blk ?_)
  refine AL.region follows_Try (Nat.le_refl _) (by kernel_rfl) ?_
  simp
  refine Stop.of_d (within_c _ _ _ _) ?_
  simp
  repeat (first | refine AL.seq ?_ | refine AL.block ?_ | refine AL.skip ?_ | refine AL.blk ?_)
  refine AL.ret ?_
  try simp only [AU]
  refine ⟨by simp, Fin.data (by simp [resAs, resA]; rfl) hbox rfl htok (fun _ h => h) (Nat.le_refl _) ?_⟩
  simp [packA]

theorem valid2_c (e : E) (g : Gr) (hg : g.nodes.length ≤ 1000000) (tok : Nat → Bool) (nt : Nat) (box : Nat → Option (List (List AV))) (nb k : Nat) (hk : box k = some [[.d (ints g.nodes), .d (AM.edges g.edges)]]) :
    ACalls Try.prog 53 [.agg [I e.ty, I e.fr, I e.to], .ptr k 0 0] ⟨box, nb, tok, nt⟩ fun v m => v = B (!fitsB e g.nodes.length) ∧ m = ⟨box, nb, tok, nt⟩ := by
  refine ACalls.of_body Try.func53 rfl (by kernel_rfl) follows_Try (by kernel_rfl) (by simp [Try.ntmps53]) ?_
  intro hbox htok
  simp only at hbox htok
  apply AL.start
  have hkn := key_lt hbox hk
  repeat (first | refine AL.seq ?_ | refine AL.block ?_ | refine AL.skip ?_ | refine AL.blk ?_)
  refine AL.region follows_Try (Nat.le_refl _) (by kernel_rfl) ?_
  simp
  repeat (first | refine AL.seq ?_ | refine AL.block ?_ | refine AL.skip ?_ | refine AL.blk ?_)
  refine AL.region follows_Try (Nat.le_refl _) (by kernel_rfl) ?_
  simp [lb_out hkn, hk]
  refine Stop.of_d (fits_c e g.nodes.length (by omega) (by omega) _ _) ?_
  simp
  repeat (first | refine AL.seq ?_ | refine AL.block ?_ | refine AL.skip ?_ | refine AL.blk ?_)
  refine AL.ret ?_
  try simp only [AU]
  refine ⟨by simp, Fin.data (by simp [resAs, resA]; rfl) hbox rfl htok (fun _ h => h) (Nat.le_refl _) ?_⟩
  simp [packA]
end Go.AM
/-
  The abstract machine, twentieth part: rows of typed data in boxes, freezing, and the ends of functions.
-/
namespace Go.AM
open Go
set_option linter.unusedSimpArgs false
set_option linter.unusedVariables false

variable {P : Program}

/-! ### Rows, one by one -/
def RowTo (p q : Nat → Prop) (fz : Option (Nat × Nat × List (List D))) (r r' : List AV) : Prop :=
  r.length = r'.length ∧ ∀ j (g1 : j < r.length) (g2 : j < r'.length), To p q fz r[j] r'[j]

section
variable {p q : Nat → Prop} {fz : Option (Nat × Nat × List (List D))}
@[simp] theorem rowTo_nil : RowTo p q fz [] [] := ⟨rfl, fun j h => by simp at h⟩
@[simp] theorem rowTo_cons {x y : AV} {xs ys : List AV} : RowTo p q fz (x :: xs) (y :: ys) ↔ To p q fz x y ∧ RowTo p q fz xs ys := by
  constructor
  · rintro ⟨h1, h2⟩
    refine ⟨h2 0 (by simp) (by simp), by simpa using h1, fun j g1 g2 => ?_⟩
    exact h2 (j + 1) (by simpa using g1) (by simpa using g2)
  · rintro ⟨h1, h2, h3⟩
    refine ⟨by simp [h2], fun j g1 g2 => ?_⟩
    cases j with
    | zero => exact h1
    | succ j => exact h3 j (by simpa using g1) (by simpa using g2)
@[simp] theorem rowsTo_nil : RowsTo p q fz [] [] := ⟨rfl, fun j h => by simp at h⟩
@[simp] theorem rowsTo_cons {x y : List AV} {xs ys : List (List AV)} : RowsTo p q fz (x :: xs) (y :: ys) ↔ RowTo p q fz x y ∧ RowsTo p q fz xs ys := by
  constructor
  · rintro ⟨h1, h2⟩
    refine ⟨h2 0 (by simp) (by simp), by simpa using h1, fun j g1 g2 => ?_⟩
    exact h2 (j + 1) (by simpa using g1) (by simpa using g2)
  · rintro ⟨h1, h2, h3⟩
    refine ⟨by simp [h2], fun j g1 g2 => ?_⟩
    cases j with
    | zero => exact h1
    | succ j => exact h3 j (by simpa using g1) (by simpa using g2)
theorem rowsTo_same {rows : List (List AV)} (h : ∀ r ∈ rows, ∀ x ∈ r, OkIn p q x) : RowsTo p q fz rows rows :=
  ⟨rfl, fun i h1 h2 => ⟨rfl, fun j g1 g2 => .same (h _ (List.getElem_mem _) _ (List.getElem_mem _))⟩⟩
end

/-! ### Rows of numbers, and of data in general -/
def rowsD (es : List (List D)) : List (List AV) := es.map fun e => e.map AV.d

@[simp] theorem rowsD_length (es : List (List D)) : (rowsD es).length = es.length := by simp [rowsD]
@[simp] theorem rowsD_get {es : List (List D)} {i : Nat} (h : i < es.length) : (rowsD es)[i]? = some ((es[i]).map AV.d) := by simp [rowsD, h]
@[simp] theorem rowsTo_D {p q : Nat → Prop} {fz : Option (Nat × Nat × List (List D))} (es : List (List D)) : RowsTo p q fz (rowsD es) (rowsD es) := by
  refine rowsTo_same fun r hr x hx => ?_
  obtain ⟨e, _, rfl⟩ := List.mem_map.1 hr
  obtain ⟨d, _, rfl⟩ := List.mem_map.1 hx
  exact .d

abbrev rI (xs : List Int) : List (List D) := xs.map fun n => [D.raw (.int .i64 n)]
abbrev rE (es : List E) : List (List D) := es.map E.cells

def rowsI (xs : List Int) : List (List AV) := xs.map fun n => [AV.d (.raw (.int .i64 n))]
def rowsE (xs : List E) : List (List AV) := xs.map fun e => [AV.d (.raw (.int .i64 e.ty)), AV.d (.raw (.int .i64 e.fr)), AV.d (.raw (.int .i64 e.to))]
theorem rowsI_eq (xs : List Int) : rowsI xs = rowsD (rI xs) := by simp [rowsI, rowsD, rI]
theorem rowsE_eq (xs : List E) : rowsE xs = rowsD (rE xs) := by simp [rowsE, rowsD, rE, E.cells]
@[simp] theorem rep_rI (n : Nat) : List.replicate n [AV.d (.raw (.int .i64 0))] = rowsI (List.replicate n 0) := by simp [rowsI]
@[simp] theorem rep_rE (n : Nat) : List.replicate n [AV.d (.raw (.int .i64 0)), AV.d (.raw (.int .i64 0)), AV.d (.raw (.int .i64 0))] = rowsE (List.replicate n ⟨0, 0, 0⟩) := by simp [rowsE]
@[simp] theorem set_rI (xs : List Int) (i : Nat) (v : Int) : (rowsI xs).set i [AV.d (.raw (.int .i64 v))] = rowsI (xs.set i v) := by simp [rowsI, List.map_set]
@[simp] theorem set_rE (xs : List E) (i : Nat) (a b c : Int) : (rowsE xs).set i [AV.d (.raw (.int .i64 a)), AV.d (.raw (.int .i64 b)), AV.d (.raw (.int .i64 c))] = rowsE (xs.set i ⟨a, b, c⟩) := by simp [rowsE, List.map_set]
@[simp] theorem rowsI_length (xs : List Int) : (rowsI xs).length = xs.length := by simp [rowsI]
@[simp] theorem rowsE_length (xs : List E) : (rowsE xs).length = xs.length := by simp [rowsE]
@[simp high] theorem rowsI_get {xs : List Int} {i : Nat} (h : i < xs.length) : (rowsI xs)[i]? = some [AV.d (.raw (.int .i64 xs[i]))] := by simp [rowsI, h]
@[simp high] theorem rowsE_get {xs : List E} {i : Nat} (h : i < xs.length) : (rowsE xs)[i]? = some [AV.d (.raw (.int .i64 xs[i].ty)), AV.d (.raw (.int .i64 xs[i].fr)), AV.d (.raw (.int .i64 xs[i].to))] := by simp [rowsE, h]
@[simp] theorem rowsTo_I {p q : Nat → Prop} {fz : Option (Nat × Nat × List (List D))} (xs : List Int) : RowsTo p q fz (rowsI xs) (rowsI xs) := by rw [rowsI_eq]; simp
@[simp] theorem rowsTo_E {p q : Nat → Prop} {fz : Option (Nat × Nat × List (List D))} (xs : List E) : RowsTo p q fz (rowsE xs) (rowsE xs) := by rw [rowsE_eq]; simp

theorem toDs_map : ∀ (e : List D), toDs (e.map AV.d) = some e
  | [] => rfl
  | d :: e => by simp [toDs, AV.toD, toDs_map e]

/-- A box of data becomes data. -/
theorem Weaks.frz {cx : Cx} {nt0 nt : Nat} {l l' : List (Nat × AV)} {out : Nat → Option (List (List AV))} {loc loc' : List (Nat × List (List AV))} {tok : Nat → Bool} (s sz : Nat) (es : List (List D)) (hnt : nt0 ≤ nt) (ho : out = cx.B0)
    (hs : lk loc s = some (rowsD es)) (hs' : lk loc' s = none) (hsz : ∀ e ∈ es, e.length = sz)
    (hl : ToL (fun k => lb cx.base out loc' k ≠ none) (fun _ => True) (some (cx.base + s, sz, es)) l l') (hb : BoxL (fun k => lb cx.base out loc' k ≠ none) (fun _ => True) (some (cx.base + s, sz, es)) loc loc') :
    Weaks cx nt0 ⟨tl l, lb cx.base out loc, tok, nt⟩ ⟨tl l', lb cx.base out loc', tok, nt⟩ := by
  refine ⟨out, loc, loc', some (s, sz, es), rfl, rfl, Nat.le_refl _, hnt, fun t h => ⟨h, .inl rfl⟩, ?_, ?_, ?_, ?_⟩
  · simp only [true_or, Option.map_some]; exact hl.all
  · simp only [true_or, Option.map_some]; exact hb.all
  · rintro s' sz' es' h
    cases h
    refine ⟨hs', rowsD es, hs, by simp, ?_, ?_⟩
    · intro r hr
      obtain ⟨e, he, rfl⟩ := List.mem_map.1 hr
      simpa using hsz e he
    · intro i h1 h2
      have : (rowsD es)[i] = (es[i]).map AV.d := by simp [rowsD]
      rw [this]
      exact toDs_map _
  · intro k rows _ h
    exact .inl (by rw [← ho]; exact h)

@[simp] theorem to_frz {p q : Nat → Prop} {k n sz : Nat} {es : List (List D)} (h : n = es.length) : To p q (some (k, sz, es)) (.msl k 0 n sz) (.d (.sl sz es)) := by
  subst h
  exact .frz rfl

/-- The end of a function in general. -/
theorem Fin.gen {cx : Cx} {nt0 nt nt' : Nat} {rs : List ResultVar} {l : List (Nat × AV)} {out : Nat → Option (List (List AV))} {loc : List (Nat × List (List AV))} {tok tok' : Nat → Bool} {vs : List AV} {av : AV}
    (hres : resAs P ⟨tl l, lb cx.base out loc, tok, nt⟩ rs = some vs) (hbox : lb cx.base out [] = out) (h0 : nt0 ≤ nt') (hnt : nt' ≤ nt) (htok : ∀ t, tok' t = true → tok t = true ∧ (nt' = nt ∨ t < nt'))
    (ho : ∀ k rows, k < cx.base → out k = some rows → cx.B0 k = some rows ∨ ∀ r ∈ rows, ∀ x ∈ r, OkIn (fun k => lb cx.base out [] k ≠ none) (fun t => nt' = nt ∨ t < nt') x)
    (hto : To (fun k => lb cx.base out [] k ≠ none) (fun t => nt' = nt ∨ t < nt') none (packA vs) av) : Fin P cx nt0 rs (fun v' m' => v' = av ∧ m' = ⟨out, cx.base, tok', nt'⟩) ⟨tl l, lb cx.base out loc, tok, nt⟩ :=
  ⟨vs, out, loc, none, av, ⟨out, cx.base, tok', nt'⟩, hres, ⟨rfl, rfl, hnt, h0, htok, fun _ => .bot, fun s rows' h => by simp [lk] at h, (fun _ _ _ h => by cases h),
    ho⟩, hbox.symm, rfl, by simpa using hto, rfl, rfl⟩

/-- The end of a function that hands out what may be appended to. -/
theorem Fin.own {cx : Cx} {nt0 nt : Nat} {rs : List ResultVar} {l : List (Nat × AV)} {out : Nat → Option (List (List AV))} {loc : List (Nat × List (List AV))} {tok : Nat → Bool} {vs : List AV} {av : AV}
    (hres : resAs P ⟨tl l, lb cx.base out loc, tok, nt⟩ rs = some vs) (hbox : lb cx.base out [] = out) (ho : out = cx.B0) (hnt : nt0 ≤ nt)
    (hto : To (fun k => lb cx.base out [] k ≠ none) (fun _ => True) none (packA vs) av) : Fin P cx nt0 rs (fun v' m' => v' = av ∧ m' = ⟨out, cx.base, tok, nt⟩) ⟨tl l, lb cx.base out loc, tok, nt⟩ :=
  Fin.gen hres hbox hnt (Nat.le_refl _) (fun t h => ⟨h, .inl rfl⟩) (fun k rows _ h => .inl (by rw [← ho]; exact h)) (by simpa using hto)

theorem Ext.lb {box box' : Nat → Option (List (List AV))} {nb : Nat} (h : Ext box box') (hb : lb nb box' [] = box') (loc : List (Nat × List (List AV))) : Ext box (AM.lb nb box' loc) := fun k r hk => by
  have h1 := h k r hk
  rw [lb_out (key_lt hb h1)]
  exact h1

theorem OkIn.mono {p p' q q' : Nat → Prop} (hp : ∀ k, p k → p' k) (hq : ∀ k, q k → q' k) {x : AV} (h : OkIn p q x) : OkIn p' q' x := by
  induction h with
  | bot => exact .bot
  | d => exact .d
  | osl h => exact .osl fun t e => hq _ (h t e)
  | cptr => exact .cptr
  | ptr h => exact .ptr (hp _ h)
  | msl h => exact .msl (hp _ h)
  | fn h ih => exact .fn ih
  | agg h ih => exact .agg ih
  | tup h ih => exact .tup ih
  | ex h => exact .ex (hq _ h)

theorem okFn {box : Nat → Option (List (List AV))} {nb : Nat} {caps : List AV} (h : ∀ c ∈ caps, OkIn (fun k => box k ≠ none) (fun _ => True) c) (hb : lb nb box [] = box) (loc : List (Nat × List (List AV))) {p q : Nat → Prop}
    (hp : p = fun k => lb nb box loc k ≠ none) (hq : q = fun _ => True) (f : Fn) : OkIn p q (.fn f caps) := by
  subst hp; subst hq
  refine .fn fun c hc => (h c hc).mono (fun k hk => ?_) fun _ h => h
  obtain ⟨r, hr⟩ := Option.ne_none_iff_exists'.1 hk
  rw [lb_out (key_lt hb hr), hr]
  simp

theorem Fin.mono {cx : Cx} {nt0 : Nat} {rs : List ResultVar} {Q Q' : AV → AMem → Prop} {S : AState} (h : Fin P cx nt0 rs Q S) (hq : ∀ v m, Q v m → Q' v m) : Fin P cx nt0 rs Q' S := by
  obtain ⟨vs, out, loc, fz, av, m', h1, h2, h3, h4, h5, h6⟩ := h
  exact ⟨vs, out, loc, fz, av, m', h1, h2, h3, h4, h5, hq _ _ h6⟩

/-- Another way to see what a call hands out. -/
def Conv (v : AV) (m : AMem) (v' : AV) (m' : AMem) : Prop := m'.nb = m.nb ∧ m'.box = m.box ∧ ∀ G w u, RelM G m w → RV G w v u → ∃ G', RelM G' m' w ∧ RV G' w v' u ∧ Le G w G' w ∧ ∀ k, G.bx k = none → G'.bx k = none

theorem Conv.refl (v : AV) (m : AMem) : Conv v m v m := ⟨rfl, rfl, fun G w u h1 h2 => ⟨G, h1, h2, Le.refl G w, fun _ h => h⟩⟩

theorem Conv.newtok (sz sz' : Nat) (box : Nat → Option (List (List AV))) (nb : Nat) (tok : Nat → Bool) (nt : Nat) : Conv (.osl sz [] .full) ⟨box, nb, tok, nt⟩ (.osl sz' [] (.tok nt)) ⟨box, nb, upd tok nt true, nt + 1⟩ := by
  refine ⟨rfl, rfl, fun G w u hm hv => ⟨G.newtok none, hm.newtok none (fun g h => by cases h), ?_, Le.newtok none, fun k h => h⟩⟩
  have hnt : G.nt = nt := hm.nt
  cases hv with
  | osl h ho =>
    cases h with
    | sl u hcap hmax hsz hA hc hr =>
      refine .osl (.sl (fun _ _ => default) hcap hmax (by simp) (by simp) (fun a _ i j hi _ => by simp at hi) (fun i j hi _ => by simp at hi)) ⟨by simp [Gh.newtok, hnt], fun x hx => ?_⟩
      simp only [Gh.newtok, hnt, upd_same, Option.some.injEq] at hx
      subst hx
      exact ho

theorem ACalls.conv {f : FuncId} {args : List AV} {m : AMem} {Q Q' : AV → AMem → Prop} (h : ACalls P f args m Q) (hq : ∀ v m1, Q v m1 → ∃ v' m', Conv v m1 v' m' ∧ Q' v' m') : ACalls P f args m Q' :=
  ⟨h.1, fun G w vals hm hr => (h.2 G w vals hm hr).mono fun e w' ⟨v, av, m1, G1, h1, h2, h3, h4, h5, h6, h7⟩ => by
    obtain ⟨v', m', ⟨c1, c2, c3⟩, hq'⟩ := hq _ _ h2
    obtain ⟨G2, k1, k2, k3, k4⟩ := c3 G1 w' v h4 h5
    exact ⟨v, v', m', G2, h1, hq', c1.trans h3, k1, k2, h6.trans k3, fun k hk => ⟨k4 k (h7 k hk).1, by rw [c2]; exact (h7 k hk).2⟩⟩⟩

theorem TK.perm {mtok : Nat → Bool} {nt0 : Nat} {tok : Nat → Bool} {nt : Nat} {os os' : List Own} (h : TK mtok nt0 tok nt os) (hp : os.Perm os') : TK mtok nt0 tok nt os' :=
  ⟨h.old, h.lt, h.le, fun o ho => h.own o (hp.mem_iff.2 ho), (List.Perm.pairwise_iff (fun {a b} hab t e e' => hab t e' e) hp).1 h.ne⟩
theorem TK.pick3 {mtok : Nat → Bool} {nt0 : Nat} {tok : Nat → Bool} {nt : Nat} {a b c : Own} {os : List Own} (h : TK mtok nt0 tok nt (a :: b :: c :: os)) : TK mtok nt0 tok nt (c :: a :: b :: os) :=
  h.perm (((List.Perm.swap c b os).cons a).trans (List.Perm.swap c a (b :: os)))
theorem TK.put3 {mtok : Nat → Bool} {nt0 : Nat} {tok : Nat → Bool} {nt : Nat} {a b c : Own} {os : List Own} (h : TK mtok nt0 tok nt (c :: a :: b :: os)) : TK mtok nt0 tok nt (a :: b :: c :: os) :=
  h.perm (((List.Perm.swap c b os).cons a).trans (List.Perm.swap c a (b :: os))).symm
attribute [simp] intsOf convF

end Go.AM
namespace Go.AM
open Go Go.Proofs
set_option linter.unusedSimpArgs false
set_option linter.unusedVariables false

/-! ### slices.Clone -/
theorem clone_c (xs : List Int) (hx : xs.length ≤ 1000000) (tok : Nat → Bool) (nt : Nat) : DCall Try.prog 88 [.d (ints xs)] tok nt (.osl 1 (rI xs) (.tok nt)) (upd tok nt true) (nt + 1) := by
  intro box nb
  have main : ACalls Try.prog 88 [.d (ints xs)] ⟨box, nb, tok, nt⟩ fun v m => (v = .osl 1 (rI xs) (.tok nt) ∧ m = ⟨box, nb, upd tok nt true, nt + 1⟩) ∨ (xs = [] ∧ v = .osl 0 [] .full ∧ m = ⟨box, nb, tok, nt⟩) := by
    refine ACalls.of_body Try.func88 rfl (by kernel_rfl) follows_Try (by kernel_rfl) (by simp [Try.ntmps88]) ?_
    intro hbox htok
    simp only at hbox htok
    apply AL.start
    repeat (first | refine AL.seq ?_ | refine AL.block ?_ | refine AL.skip ?_ | refine AL.blk ?_)
    refine AL.region follows_Try (Nat.le_refl _) (by kernel_rfl) ?_
    simp
    repeat (first | refine AL.seq ?_ | refine AL.block ?_ | refine AL.skip ?_ | refine AL.blk ?_)
    refine AL.region follows_Try (Nat.le_refl _) (by kernel_rfl) ?_
    simp
    refine ⟨?_, fun h => ?_⟩
    · repeat (first | refine AL.seq ?_ | refine AL.block ?_ | refine AL.skip ?_ | refine AL.blk ?_)
      refine AL.cond ?_
      simp
      repeat (first | refine AL.seq ?_ | refine AL.block ?_ | refine AL.skip ?_ | refine AL.blk ?_)
      refine AL.region follows_Try (Nat.le_refl _) (by kernel_rfl) ?_
      simp
      refine ⟨by omega, ?_⟩
      repeat (first | refine AL.seq ?_ | refine AL.block ?_ | refine AL.skip ?_ | refine AL.blk ?_)
      refine AL.ret ?_
      try simp only [AU]
      refine ⟨by simp, (Fin.own (by simp [resAs, resA]; rfl) hbox rfl (by simp) ?_).mono fun v m hq => .inl hq⟩
      simp [packA]
    · repeat (first | refine AL.seq ?_ | refine AL.block ?_ | refine AL.skip ?_ | refine AL.blk ?_)
      refine AL.cond ?_
      simp
      repeat (first | refine AL.seq ?_ | refine AL.block ?_ | refine AL.skip ?_ | refine AL.blk ?_)
      refine AL.region follows_Try (Nat.le_refl _) (by kernel_rfl) ?_
      simp
      repeat (first | refine AL.seq ?_ | refine AL.block ?_ | refine AL.skip ?_ | refine AL.blk ?_)
      refine AL.ret ?_
      try simp only [AU]
      refine ⟨by simp, (Fin.own (by simp [resAs, resA]; rfl) hbox rfl (Nat.le_refl _) ?_).mono fun v m hq => .inr ⟨h, hq.1, hq.2⟩⟩
      simp [packA]
  refine main.conv fun v m h => ?_
  rcases h with ⟨rfl, rfl⟩ | ⟨rfl, rfl, rfl⟩
  · exact ⟨_, _, Conv.refl _ _, rfl, rfl⟩
  · exact ⟨_, _, Conv.newtok 0 1 box nb tok nt, rfl, rfl⟩

theorem cloneE_c (xs : List E) (hx : xs.length ≤ 1000000) (tok : Nat → Bool) (nt : Nat) : DCall Try.prog 118 [.d (AM.edges xs)] tok nt (.osl 3 (rE xs) (.tok nt)) (upd tok nt true) (nt + 1) := by
  intro box nb
  have main : ACalls Try.prog 118 [.d (AM.edges xs)] ⟨box, nb, tok, nt⟩ fun v m => (v = .osl 3 (rE xs) (.tok nt) ∧ m = ⟨box, nb, upd tok nt true, nt + 1⟩) ∨ (xs = [] ∧ v = .osl 0 [] .full ∧ m = ⟨box, nb, tok, nt⟩) := by
    refine ACalls.of_body Try.func118 rfl (by kernel_rfl) follows_Try (by kernel_rfl) (by simp [Try.ntmps118]) ?_
    intro hbox htok
    simp only at hbox htok
    apply AL.start
    repeat (first | refine AL.seq ?_ | refine AL.block ?_ | refine AL.skip ?_ | refine AL.blk ?_)
    refine AL.region follows_Try (Nat.le_refl _) (by kernel_rfl) ?_
    simp
    repeat (first | refine AL.seq ?_ | refine AL.block ?_ | refine AL.skip ?_ | refine AL.blk ?_)
    refine AL.region follows_Try (Nat.le_refl _) (by kernel_rfl) ?_
    simp
    refine ⟨?_, fun h => ?_⟩
    · repeat (first | refine AL.seq ?_ | refine AL.block ?_ | refine AL.skip ?_ | refine AL.blk ?_)
      refine AL.cond ?_
      simp
      repeat (first | refine AL.seq ?_ | refine AL.block ?_ | refine AL.skip ?_ | refine AL.blk ?_)
      refine AL.region follows_Try (Nat.le_refl _) (by kernel_rfl) ?_
      simp
      refine ⟨by omega, ?_⟩
      repeat (first | refine AL.seq ?_ | refine AL.block ?_ | refine AL.skip ?_ | refine AL.blk ?_)
      refine AL.ret ?_
      try simp only [AU]
      refine ⟨by simp, (Fin.own (by simp [resAs, resA]; rfl) hbox rfl (by simp) ?_).mono fun v m hq => .inl hq⟩
      simp [packA]
    · repeat (first | refine AL.seq ?_ | refine AL.block ?_ | refine AL.skip ?_ | refine AL.blk ?_)
      refine AL.cond ?_
      simp
      repeat (first | refine AL.seq ?_ | refine AL.block ?_ | refine AL.skip ?_ | refine AL.blk ?_)
      refine AL.region follows_Try (Nat.le_refl _) (by kernel_rfl) ?_
      simp
      repeat (first | refine AL.seq ?_ | refine AL.block ?_ | refine AL.skip ?_ | refine AL.blk ?_)
      refine AL.ret ?_
      try simp only [AU]
      refine ⟨by simp, (Fin.own (by simp [resAs, resA]; rfl) hbox rfl (Nat.le_refl _) ?_).mono fun v m hq => .inr ⟨h, hq.1, hq.2⟩⟩
      simp [packA]
  refine main.conv fun v m h => ?_
  rcases h with ⟨rfl, rfl⟩ | ⟨rfl, rfl, rfl⟩
  · exact ⟨_, _, Conv.refl _ _, rfl, rfl⟩
  · exact ⟨_, _, Conv.newtok 0 3 box nb tok nt, rfl, rfl⟩

/-! ### slices.Index, Contains -/
def indexI (xs : List Int) (v : Int) : Int := if v ∈ xs then (xs.idxOf v : Int) else -1

def st66 (xs : List Int) (v : Int) (nb : Nat) (box : Nat → Option (List (List AV))) (tok : Nat → Bool) (nt : Nat) (i : Nat) : AState := ⟨tl [(0, .d (ints xs)), (1, I v), (7, I xs.length), (8, I i)], lb nb box [], tok, nt⟩

theorem index_c (xs : List Int) (v : Int) (hx : xs.length ≤ 1000000) (tok : Nat → Bool) (nt : Nat) : DCall Try.prog 93 [.d (ints xs), I v] tok nt (I (indexI xs v)) tok nt := by
  intro box nb
  refine ACalls.of_body Try.func93 rfl (by kernel_rfl) follows_Try (by kernel_rfl) (by simp [Try.ntmps93]) ?_
  intro hbox htok
  simp only at hbox htok
  apply AL.start
  repeat (first | refine AL.seq ?_ | refine AL.block ?_ | refine AL.skip ?_ | refine AL.blk ?_)
  refine AL.region follows_Try (Nat.le_refl _) (by kernel_rfl) ?_
  simp
  repeat (first | refine AL.seq ?_ | refine AL.block ?_ | refine AL.skip ?_ | refine AL.blk ?_)
  refine AL.region follows_Try (Nat.le_refl _) (by kernel_rfl) ?_
  simp
  repeat (first | refine AL.seq ?_ | refine AL.block ?_ | refine AL.skip ?_ | refine AL.blk ?_)
  refine AL.loopT (st66 xs v nb box tok nt) (fun i => i ≤ xs.length ∧ v ∉ xs.take i) (fun i => xs.length - i) 0 ⟨Nat.zero_le _, by simp⟩ (Weaks.mk (Nat.le_refl _) rfl (by simp [ToL]) trivial) ?_
  rintro i S ⟨hi, htk⟩ hS
  simp only [st66] at hS
  subst hS
  have hw : IntKind.i64.wrap (↑i + 1) = ((i + 1 : Nat) : Int) := by rw [wrap_in (by omega) (by omega)]; rfl
  repeat (first | refine AL.seq ?_ | refine AL.block ?_ | refine AL.skip ?_ | refine AL.blk ?_)
  refine AL.region follows_Try (Nat.le_refl _) (by kernel_rfl) ?_
  simp
  repeat (first | refine AL.seq ?_ | refine AL.block ?_ | refine AL.skip ?_ | refine AL.blk ?_)
  refine AL.cond ?_
  simp
  refine ⟨fun hlt => ?_, fun hge => ?_⟩
  · have hsp : xs = xs.take i ++ xs[i] :: xs.drop (i + 1) := by simp
    repeat (first | refine AL.seq ?_ | refine AL.block ?_ | refine AL.skip ?_ | refine AL.blk ?_)
    refine AL.region follows_Try (Nat.le_refl _) (by kernel_rfl) ?_
    simp
    repeat (first | refine AL.seq ?_ | refine AL.block ?_ | refine AL.skip ?_ | refine AL.blk ?_)
    refine AL.region follows_Try (Nat.le_refl _) (by kernel_rfl) ?_
    simp [hlt]
    repeat (first | refine AL.seq ?_ | refine AL.block ?_ | refine AL.skip ?_ | refine AL.blk ?_)
    refine AL.cond ?_
    simp
    refine ⟨fun he => ?_, fun hne => ?_⟩
    · repeat (first | refine AL.seq ?_ | refine AL.block ?_ | refine AL.skip ?_ | refine AL.blk ?_)
      refine AL.region follows_Try (Nat.le_refl _) (by kernel_rfl) ?_
      simp
      have hmem : v ∈ xs := by rw [he]; exact List.getElem_mem _
      have hid : xs.idxOf v = i := by
        unfold List.idxOf
        rw [List.findIdx_eq hlt]
        refine ⟨by simp [he], fun j hj => ?_⟩
        have : xs[j] ≠ v := fun e => htk (by rw [← e, List.mem_take_iff_getElem]; exact ⟨j, by omega, rfl⟩)
        simpa using this
      repeat (first | refine AL.seq ?_ | refine AL.block ?_ | refine AL.skip ?_ | refine AL.blk ?_)
      refine AL.ret ?_
      try simp only [AU]
      refine ⟨by simp, Fin.data (by simp [resAs, resA]; rfl) hbox rfl htok (fun _ h => h) (Nat.le_refl _) ?_⟩
      simp [packA, indexI, hmem, hid]
    · repeat (first | refine AL.seq ?_ | refine AL.block ?_ | refine AL.skip ?_ | refine AL.blk ?_)
      refine AL.region follows_Try (Nat.le_refl _) (by kernel_rfl) ?_
      simp [hw]
      repeat (first | refine AL.seq ?_ | refine AL.block ?_ | refine AL.skip ?_ | refine AL.blk ?_)
      refine AL.nil ?_
      refine ⟨i + 1, ⟨hlt, ?_⟩, by omega, Weaks.mk (Nat.le_refl _) rfl (by simp [ToL]) trivial⟩
      rw [List.take_succ_eq_append_getElem hlt]
      simp only [List.mem_append, List.mem_singleton, not_or]
      exact ⟨htk, hne⟩
  · repeat (first | refine AL.seq ?_ | refine AL.block ?_ | refine AL.skip ?_ | refine AL.blk ?_)
    refine AL.exit ?_
    simp only [AU, ↓reduceIte]
    repeat (first | refine AL.seq ?_ | refine AL.block ?_ | refine AL.skip ?_ | refine AL.blk ?_)
    refine AL.region follows_Try (Nat.le_refl _) (by kernel_rfl) ?_
    simp
    have hn : v ∉ xs := by rwa [List.take_of_length_le hge] at htk
    repeat (first | refine AL.seq ?_ | refine AL.block ?_ | refine AL.skip ?_ | refine AL.blk ?_)
    refine AL.ret ?_
    try simp only [AU]
    refine ⟨by simp, Fin.data (by simp [resAs, resA]; rfl) hbox rfl htok (fun _ h => h) (Nat.le_refl _) ?_⟩
    simp [packA, indexI, hn]

theorem indexI_nonneg (xs : List Int) (v : Int) : (0 ≤ indexI xs v) ↔ v ∈ xs := by
  unfold indexI
  split <;> simp [*]

theorem contains_c (xs : List Int) (v : Int) (hx : xs.length ≤ 1000000) (tok : Nat → Bool) (nt : Nat) : DCall Try.prog 87 [.d (ints xs), I v] tok nt (B (decide (v ∈ xs))) tok nt := by
  intro box nb
  refine ACalls.of_body Try.func87 rfl (by kernel_rfl) follows_Try (by kernel_rfl) (by simp [Try.ntmps87]) ?_
  intro hbox htok
  simp only at hbox htok
  apply AL.start
  repeat (first | refine AL.seq ?_ | refine AL.block ?_ | refine AL.skip ?_ | refine AL.blk ?_)
  refine AL.region follows_Try (Nat.le_refl _) (by kernel_rfl) ?_
  simp
  repeat (first | refine AL.seq ?_ | refine AL.block ?_ | refine AL.skip ?_ | refine AL.blk ?_)
  refine AL.region follows_Try (Nat.le_refl _) (by kernel_rfl) ?_
  simp
  refine Stop.of_d (index_c xs v hx _ _) ?_
  simp
  repeat (first | refine AL.seq ?_ | refine AL.block ?_ | refine AL.skip ?_ | refine AL.blk ?_)
  refine AL.ret ?_
  try simp only [AU]
  refine ⟨by simp, Fin.data (by simp [resAs, resA]; rfl) hbox rfl htok (fun _ h => h) (Nat.le_refl _) ?_⟩
  simp [packA, indexI_nonneg]

/-! ### slices.IndexFunc, ContainsFunc -/
def findI {α : Type} (p : α → Bool) (xs : List α) : Int := if xs.any p then (xs.findIdx p : Int) else -1

def anyB {α : Type} (p : α → Bool) (xs : List α) : Bool := xs.any p

theorem findI_nonneg {α : Type} (p : α → Bool) (xs : List α) : (0 ≤ findI p xs) ↔ xs.any p = true := by
  unfold findI
  split <;> simp [*]

theorem any_take {α : Type} {p : α → Bool} {xs : List α} {i : Nat} (h : i < xs.length) (h1 : ∀ x ∈ xs.take i, p x = false) (h2 : p xs[i] = true) : xs.any p = true ∧ xs.findIdx p = i := by
  have hany : xs.any p = true := List.any_eq_true.2 ⟨_, List.getElem_mem h, h2⟩
  refine ⟨hany, ?_⟩
  rw [List.findIdx_eq h]
  refine ⟨h2, fun j hj => ?_⟩
  have := h1 xs[j] (by
    rw [List.mem_take_iff_getElem]
    exact ⟨j, by omega, rfl⟩)
  simpa using this

def st96 (xs : List Int) (f : FuncId) (caps : List AV) (nb : Nat) (box : Nat → Option (List (List AV))) (tok : Nat → Bool) (nt : Nat) (i : Nat) : AState := ⟨tl [(0, .d (ints xs)), (1, .fn (.func f) caps), (7, I xs.length), (8, I i)], lb nb box [], tok, nt⟩

theorem indexFunc_c (xs : List Int) (f : FuncId) (caps : List AV) (p : Int → Bool) (hx : xs.length ≤ 1000000) (box : Nat → Option (List (List AV))) (nb : Nat) (tok : Nat → Bool) (nt : Nat) (hc : ∀ c ∈ caps, OkIn (fun k => box k ≠ none) (fun _ => True) c)
    (hf : ∀ x ∈ xs, ∀ box' nb', Ext box box' → ACalls Try.prog f (I x :: caps) ⟨box', nb', tok, nt⟩ fun v m => v = B (p x) ∧ m = ⟨box', nb', tok, nt⟩) :
    ACalls Try.prog 77 [.d (ints xs), .fn (.func f) caps] ⟨box, nb, tok, nt⟩ fun v m => v = I (findI p xs) ∧ m = ⟨box, nb, tok, nt⟩ := by
  refine ACalls.of_body Try.func77 rfl (by kernel_rfl) follows_Try (by kernel_rfl) (by simp [Try.ntmps77]) ?_
  intro hbox htok
  simp only at hbox htok
  apply AL.start
  repeat (first | refine AL.seq ?_ | refine AL.block ?_ | refine AL.skip ?_ | refine AL.blk ?_)
  refine AL.region follows_Try (Nat.le_refl _) (by kernel_rfl) ?_
  simp
  repeat (first | refine AL.seq ?_ | refine AL.block ?_ | refine AL.skip ?_ | refine AL.blk ?_)
  refine AL.region follows_Try (Nat.le_refl _) (by kernel_rfl) ?_
  simp
  repeat (first | refine AL.seq ?_ | refine AL.block ?_ | refine AL.skip ?_ | refine AL.blk ?_)
  refine AL.loopT (st96 xs f caps nb box tok nt) (fun i => i ≤ xs.length ∧ ∀ x ∈ xs.take i, p x = false) (fun i => xs.length - i) 0 ⟨Nat.zero_le _, by simp⟩ (Weaks.mk (Nat.le_refl _) rfl (by simp [ToL]; exact .same (okFn hc hbox [] (by simp) rfl _)) trivial) ?_
  rintro i S ⟨hi, htk⟩ hS
  simp only [st96] at hS
  subst hS
  have hw : IntKind.i64.wrap (↑i + 1) = ((i + 1 : Nat) : Int) := by rw [wrap_in (by omega) (by omega)]; rfl
  repeat (first | refine AL.seq ?_ | refine AL.block ?_ | refine AL.skip ?_ | refine AL.blk ?_)
  refine AL.region follows_Try (Nat.le_refl _) (by kernel_rfl) ?_
  simp
  repeat (first | refine AL.seq ?_ | refine AL.block ?_ | refine AL.skip ?_ | refine AL.blk ?_)
  refine AL.cond ?_
  simp
  refine ⟨fun hlt => ?_, fun hge => ?_⟩
  · repeat (first | refine AL.seq ?_ | refine AL.block ?_ | refine AL.skip ?_ | refine AL.blk ?_)
    refine AL.region follows_Try (Nat.le_refl _) (by kernel_rfl) ?_
    simp
    repeat (first | refine AL.seq ?_ | refine AL.block ?_ | refine AL.skip ?_ | refine AL.blk ?_)
    refine AL.region follows_Try (Nat.le_refl _) (by kernel_rfl) ?_
    simp [hlt]
    refine Stop.of_b (hf xs[i] (List.getElem_mem _) _ _ ((Ext.refl box).lb hbox [])) ?_
    simp
    repeat (first | refine AL.seq ?_ | refine AL.block ?_ | refine AL.skip ?_ | refine AL.blk ?_)
    refine AL.cond ?_
    simp
    refine ⟨fun he => ?_, fun hne => ?_⟩
    · repeat (first | refine AL.seq ?_ | refine AL.block ?_ | refine AL.skip ?_ | refine AL.blk ?_)
      refine AL.region follows_Try (Nat.le_refl _) (by kernel_rfl) ?_
      simp
      obtain ⟨h1, h2⟩ := any_take hlt htk he
      repeat (first | refine AL.seq ?_ | refine AL.block ?_ | refine AL.skip ?_ | refine AL.blk ?_)
      refine AL.ret ?_
      try simp only [AU]
      refine ⟨by simp, Fin.data (by simp [resAs, resA]; rfl) hbox rfl htok (fun _ h => h) (Nat.le_refl _) ?_⟩
      simp [packA, findI, h1, h2]
    · repeat (first | refine AL.seq ?_ | refine AL.block ?_ | refine AL.skip ?_ | refine AL.blk ?_)
      refine AL.region follows_Try (Nat.le_refl _) (by kernel_rfl) ?_
      simp [hw]
      repeat (first | refine AL.seq ?_ | refine AL.block ?_ | refine AL.skip ?_ | refine AL.blk ?_)
      refine AL.nil ?_
      refine ⟨i + 1, ⟨hlt, ?_⟩, by omega, Weaks.mk (Nat.le_refl _) rfl (by simp [ToL]; exact .same (okFn hc hbox [] (by simp) rfl _)) trivial⟩
      rw [List.take_succ_eq_append_getElem hlt]
      intro x hx
      rcases List.mem_append.1 hx with hx | hx
      · exact htk x hx
      · simp at hx; rw [hx]; exact hne
  · repeat (first | refine AL.seq ?_ | refine AL.block ?_ | refine AL.skip ?_ | refine AL.blk ?_)
    refine AL.exit ?_
    simp only [AU, ↓reduceIte]
    repeat (first | refine AL.seq ?_ | refine AL.block ?_ | refine AL.skip ?_ | refine AL.blk ?_)
    refine AL.region follows_Try (Nat.le_refl _) (by kernel_rfl) ?_
    simp
    have hn : xs.any p = false := by
      rw [List.take_of_length_le hge] at htk
      simpa using htk
    repeat (first | refine AL.seq ?_ | refine AL.block ?_ | refine AL.skip ?_ | refine AL.blk ?_)
    refine AL.ret ?_
    try simp only [AU]
    refine ⟨by simp, Fin.data (by simp [resAs, resA]; rfl) hbox rfl htok (fun _ h => h) (Nat.le_refl _) ?_⟩
    simp [packA, findI, hn]

theorem containsFunc_c (xs : List Int) (f : FuncId) (caps : List AV) (p : Int → Bool) (hx : xs.length ≤ 1000000) (box : Nat → Option (List (List AV))) (nb : Nat) (tok : Nat → Bool) (nt : Nat) (hc : ∀ c ∈ caps, OkIn (fun k => box k ≠ none) (fun _ => True) c)
    (hf : ∀ x ∈ xs, ∀ box' nb', Ext box box' → ACalls Try.prog f (I x :: caps) ⟨box', nb', tok, nt⟩ fun v m => v = B (p x) ∧ m = ⟨box', nb', tok, nt⟩) :
    ACalls Try.prog 49 [.d (ints xs), .fn (.func f) caps] ⟨box, nb, tok, nt⟩ fun v m => v = B (anyB p xs) ∧ m = ⟨box, nb, tok, nt⟩ := by
  refine ACalls.of_body Try.func49 rfl (by kernel_rfl) follows_Try (by kernel_rfl) (by simp [Try.ntmps49]) ?_
  intro hbox htok
  simp only at hbox htok
  apply AL.start
  repeat (first | refine AL.seq ?_ | refine AL.block ?_ | refine AL.skip ?_ | refine AL.blk ?_)
  refine AL.region follows_Try (Nat.le_refl _) (by kernel_rfl) ?_
  simp
  repeat (first | refine AL.seq ?_ | refine AL.block ?_ | refine AL.skip ?_ | refine AL.blk ?_)
  refine AL.region follows_Try (Nat.le_refl _) (by kernel_rfl) ?_
  simp
  refine Stop.of_b (indexFunc_c xs f caps p hx (lb nb box []) _ _ _ (fun c h => (hc c h).mono (fun k hk => by rw [hbox]; exact hk) fun _ h => h) (fun x hx' box' nb' he => hf x hx' box' nb' (by rw [hbox] at he; exact he))) ?_
  simp
  have hany : decide (∃ x, x ∈ xs ∧ p x = true) = anyB p xs := by rw [Bool.eq_iff_iff]; simp [anyB]
  repeat (first | refine AL.seq ?_ | refine AL.block ?_ | refine AL.skip ?_ | refine AL.blk ?_)
  refine AL.ret ?_
  try simp only [AU]
  refine ⟨by simp, Fin.data (by simp [resAs, resA]; rfl) hbox rfl htok (fun _ h => h) (Nat.le_refl _) ?_⟩
  simp [packA, findI_nonneg, hany]
def st97 (xs : List E) (f : FuncId) (caps : List AV) (nb : Nat) (box : Nat → Option (List (List AV))) (tok : Nat → Bool) (nt : Nat) (i : Nat) : AState := ⟨tl [(0, .d (AM.edges xs)), (1, .fn (.func f) caps), (7, I xs.length), (8, I i)], lb nb box [], tok, nt⟩

theorem indexFuncE_c (xs : List E) (f : FuncId) (caps : List AV) (p : E → Bool) (hx : xs.length ≤ 1000000) (box : Nat → Option (List (List AV))) (nb : Nat) (tok : Nat → Bool) (nt : Nat) (hc : ∀ c ∈ caps, OkIn (fun k => box k ≠ none) (fun _ => True) c)
    (hf : ∀ x ∈ xs, ∀ box' nb', Ext box box' → ACalls Try.prog f (.agg [I x.ty, I x.fr, I x.to] :: caps) ⟨box', nb', tok, nt⟩ fun v m => v = B (p x) ∧ m = ⟨box', nb', tok, nt⟩) :
    ACalls Try.prog 78 [.d (AM.edges xs), .fn (.func f) caps] ⟨box, nb, tok, nt⟩ fun v m => v = I (findI p xs) ∧ m = ⟨box, nb, tok, nt⟩ := by
  refine ACalls.of_body Try.func78 rfl (by kernel_rfl) follows_Try (by kernel_rfl) (by simp [Try.ntmps78]) ?_
  intro hbox htok
  simp only at hbox htok
  apply AL.start
  repeat (first | refine AL.seq ?_ | refine AL.block ?_ | refine AL.skip ?_ | refine AL.blk ?_)
  refine AL.region follows_Try (Nat.le_refl _) (by kernel_rfl) ?_
  simp
  repeat (first | refine AL.seq ?_ | refine AL.block ?_ | refine AL.skip ?_ | refine AL.blk ?_)
  refine AL.region follows_Try (Nat.le_refl _) (by kernel_rfl) ?_
  simp
  repeat (first | refine AL.seq ?_ | refine AL.block ?_ | refine AL.skip ?_ | refine AL.blk ?_)
  refine AL.loopT (st97 xs f caps nb box tok nt) (fun i => i ≤ xs.length ∧ ∀ x ∈ xs.take i, p x = false) (fun i => xs.length - i) 0 ⟨Nat.zero_le _, by simp⟩ (Weaks.mk (Nat.le_refl _) rfl (by simp [ToL]; exact .same (okFn hc hbox [] (by simp) rfl _)) trivial) ?_
  rintro i S ⟨hi, htk⟩ hS
  simp only [st97] at hS
  subst hS
  have hw : IntKind.i64.wrap (↑i + 1) = ((i + 1 : Nat) : Int) := by rw [wrap_in (by omega) (by omega)]; rfl
  repeat (first | refine AL.seq ?_ | refine AL.block ?_ | refine AL.skip ?_ | refine AL.blk ?_)
  refine AL.region follows_Try (Nat.le_refl _) (by kernel_rfl) ?_
  simp
  repeat (first | refine AL.seq ?_ | refine AL.block ?_ | refine AL.skip ?_ | refine AL.blk ?_)
  refine AL.cond ?_
  simp
  refine ⟨fun hlt => ?_, fun hge => ?_⟩
  · repeat (first | refine AL.seq ?_ | refine AL.block ?_ | refine AL.skip ?_ | refine AL.blk ?_)
    refine AL.region follows_Try (Nat.le_refl _) (by kernel_rfl) ?_
    simp
    repeat (first | refine AL.seq ?_ | refine AL.block ?_ | refine AL.skip ?_ | refine AL.blk ?_)
    refine AL.region follows_Try (Nat.le_refl _) (by kernel_rfl) ?_
    simp [hlt]
    refine Stop.of_b (hf xs[i] (List.getElem_mem _) _ _ ((Ext.refl box).lb hbox [])) ?_
    simp
    repeat (first | refine AL.seq ?_ | refine AL.block ?_ | refine AL.skip ?_ | refine AL.blk ?_)
    refine AL.cond ?_
    simp
    refine ⟨fun he => ?_, fun hne => ?_⟩
    · repeat (first | refine AL.seq ?_ | refine AL.block ?_ | refine AL.skip ?_ | refine AL.blk ?_)
      refine AL.region follows_Try (Nat.le_refl _) (by kernel_rfl) ?_
      simp
      obtain ⟨h1, h2⟩ := any_take hlt htk he
      repeat (first | refine AL.seq ?_ | refine AL.block ?_ | refine AL.skip ?_ | refine AL.blk ?_)
      refine AL.ret ?_
      try simp only [AU]
      refine ⟨by simp, Fin.data (by simp [resAs, resA]; rfl) hbox rfl htok (fun _ h => h) (Nat.le_refl _) ?_⟩
      simp [packA, findI, h1, h2]
    · repeat (first | refine AL.seq ?_ | refine AL.block ?_ | refine AL.skip ?_ | refine AL.blk ?_)
      refine AL.region follows_Try (Nat.le_refl _) (by kernel_rfl) ?_
      simp [hw]
      repeat (first | refine AL.seq ?_ | refine AL.block ?_ | refine AL.skip ?_ | refine AL.blk ?_)
      refine AL.nil ?_
      refine ⟨i + 1, ⟨hlt, ?_⟩, by omega, Weaks.mk (Nat.le_refl _) rfl (by simp [ToL]; exact .same (okFn hc hbox [] (by simp) rfl _)) trivial⟩
      rw [List.take_succ_eq_append_getElem hlt]
      intro x hx
      rcases List.mem_append.1 hx with hx | hx
      · exact htk x hx
      · simp at hx; rw [hx]; exact hne
  · repeat (first | refine AL.seq ?_ | refine AL.block ?_ | refine AL.skip ?_ | refine AL.blk ?_)
    refine AL.exit ?_
    simp only [AU, ↓reduceIte]
    repeat (first | refine AL.seq ?_ | refine AL.block ?_ | refine AL.skip ?_ | refine AL.blk ?_)
    refine AL.region follows_Try (Nat.le_refl _) (by kernel_rfl) ?_
    simp
    have hn : xs.any p = false := by
      rw [List.take_of_length_le hge] at htk
      simpa using htk
    repeat (first | refine AL.seq ?_ | refine AL.block ?_ | refine AL.skip ?_ | refine AL.blk ?_)
    refine AL.ret ?_
    try simp only [AU]
    refine ⟨by simp, Fin.data (by simp [resAs, resA]; rfl) hbox rfl htok (fun _ h => h) (Nat.le_refl _) ?_⟩
    simp [packA, findI, hn]

theorem containsFuncE_c (xs : List E) (f : FuncId) (caps : List AV) (p : E → Bool) (hx : xs.length ≤ 1000000) (box : Nat → Option (List (List AV))) (nb : Nat) (tok : Nat → Bool) (nt : Nat) (hc : ∀ c ∈ caps, OkIn (fun k => box k ≠ none) (fun _ => True) c)
    (hf : ∀ x ∈ xs, ∀ box' nb', Ext box box' → ACalls Try.prog f (.agg [I x.ty, I x.fr, I x.to] :: caps) ⟨box', nb', tok, nt⟩ fun v m => v = B (p x) ∧ m = ⟨box', nb', tok, nt⟩) :
    ACalls Try.prog 52 [.d (AM.edges xs), .fn (.func f) caps] ⟨box, nb, tok, nt⟩ fun v m => v = B (anyB p xs) ∧ m = ⟨box, nb, tok, nt⟩ := by
  refine ACalls.of_body Try.func52 rfl (by kernel_rfl) follows_Try (by kernel_rfl) (by simp [Try.ntmps52]) ?_
  intro hbox htok
  simp only at hbox htok
  apply AL.start
  repeat (first | refine AL.seq ?_ | refine AL.block ?_ | refine AL.skip ?_ | refine AL.blk ?_)
  refine AL.region follows_Try (Nat.le_refl _) (by kernel_rfl) ?_
  simp
  repeat (first | refine AL.seq ?_ | refine AL.block ?_ | refine AL.skip ?_ | refine AL.blk ?_)
  refine AL.region follows_Try (Nat.le_refl _) (by kernel_rfl) ?_
  simp
  refine Stop.of_b (indexFuncE_c xs f caps p hx (lb nb box []) _ _ _ (fun c h => (hc c h).mono (fun k hk => by rw [hbox]; exact hk) fun _ h => h) (fun x hx' box' nb' he => hf x hx' box' nb' (by rw [hbox] at he; exact he))) ?_
  simp
  have hany : decide (∃ x, x ∈ xs ∧ p x = true) = anyB p xs := by rw [Bool.eq_iff_iff]; simp [anyB]
  repeat (first | refine AL.seq ?_ | refine AL.block ?_ | refine AL.skip ?_ | refine AL.blk ?_)
  refine AL.ret ?_
  try simp only [AU]
  refine ⟨by simp, Fin.data (by simp [resAs, resA]; rfl) hbox rfl htok (fun _ h => h) (Nat.le_refl _) ?_⟩
  simp [packA, findI_nonneg, hany]
end Go.AM
namespace Go.AM
open Go Go.Proofs
set_option linter.unusedSimpArgs false
set_option linter.unusedVariables false

/-! ### graph.Valid, ref05.Valid, Few, Small, Copied -/
def validG (g : Gr) : Int := if 40 < g.nodes.length ∨ 80 < g.edges.length then 3 else if anyB (fun n => !withinB n 99) g.nodes then 6 else if anyB (fun e => !fitsB e g.nodes.length) g.edges then 6 else 0

structure Gr.Fit (g : Gr) : Prop where
  n : g.nodes.length ≤ 1000000
  e : g.edges.length ≤ 1000000

theorem graphValid_c (g : Gr) (hg : g.Fit) (tok : Nat → Bool) (nt : Nat) : DCall Try.prog 33 [g.av] tok nt (I (validG g)) tok nt := by
  intro box nb
  have hn := hg.n
  have he := hg.e
  refine ACalls.of_body Try.func33 rfl (by kernel_rfl) follows_Try (by kernel_rfl) (by simp [Try.ntmps33]) ?_
  intro hbox htok
  simp only at hbox htok
  apply AL.start
  repeat (first | refine AL.seq ?_ | refine AL.block ?_ | refine AL.skip ?_ | refine AL.blk ?_)
  refine AL.region follows_Try (Nat.le_refl _) (by kernel_rfl) ?_
  simp
  repeat (first | refine AL.seq ?_ | refine AL.block ?_ | refine AL.skip ?_ | refine AL.blk ?_)
  refine AL.region follows_Try (Nat.le_refl _) (by kernel_rfl) ?_
  simp
  first | refine Gd.dt (fun h1 => ?_) (fun h1 => ?_) | refine Gd.df (fun h1 => ?_) (fun h1 => ?_) | refine Gd.t (fun h1 => ?_) (fun h1 => ?_) | refine Gd.f (fun h1 => ?_) (fun h1 => ?_)
  · simp [h1]
    repeat (first | refine AL.seq ?_ | refine AL.block ?_ | refine AL.skip ?_ | refine AL.blk ?_)
    refine AL.cond ?_
    simp
    repeat (first | refine AL.seq ?_ | refine AL.block ?_ | refine AL.skip ?_ | refine AL.blk ?_)
    refine AL.region follows_Try (Nat.le_refl _) (by kernel_rfl) ?_
    simp
    repeat (first | refine AL.seq ?_ | refine AL.block ?_ | refine AL.skip ?_ | refine AL.blk ?_)
    refine AL.ret ?_
    try simp only [AU]
    refine ⟨by simp, Fin.data (by simp [resAs, resA]; rfl) hbox rfl htok (fun _ h => h) (Nat.le_refl _) ?_⟩
    simp [packA, validG, show 40 < g.nodes.length by omega]
  · simp [h1]
    repeat (first | refine AL.seq ?_ | refine AL.block ?_ | refine AL.skip ?_ | refine AL.blk ?_)
    refine AL.cond ?_
    simp
    refine ⟨fun h2 => ?_, fun h2 => ?_⟩
    · repeat (first | refine AL.seq ?_ | refine AL.block ?_ | refine AL.skip ?_ | refine AL.blk ?_)
      refine AL.region follows_Try (Nat.le_refl _) (by kernel_rfl) ?_
      simp
      repeat (first | refine AL.seq ?_ | refine AL.block ?_ | refine AL.skip ?_ | refine AL.blk ?_)
      refine AL.ret ?_
      try simp only [AU]
      refine ⟨by simp, Fin.data (by simp [resAs, resA]; rfl) hbox rfl htok (fun _ h => h) (Nat.le_refl _) ?_⟩
      simp [packA, validG, show 80 < g.edges.length by omega]
    · have hn1 : ¬ 40 < g.nodes.length := by omega
      have hn2 : ¬ 80 < g.edges.length := by omega
      repeat (first | refine AL.seq ?_ | refine AL.block ?_ | refine AL.skip ?_ | refine AL.blk ?_)
      refine AL.region follows_Try (Nat.le_refl _) (by kernel_rfl) ?_
      simp
      refine Stop.of_b (containsFunc_c g.nodes 50 [] (fun n => !withinB n 99) hn _ _ _ _ (by simp) (fun x _ box' nb' _ => valid1_c x _ _ box' nb')) ?_
      simp
      repeat (first | refine AL.seq ?_ | refine AL.block ?_ | refine AL.skip ?_ | refine AL.blk ?_)
      refine AL.cond ?_
      simp
      refine ⟨fun h3 => ?_, fun h3 => ?_⟩
      · repeat (first | refine AL.seq ?_ | refine AL.block ?_ | refine AL.skip ?_ | refine AL.blk ?_)
        refine AL.region follows_Try (Nat.le_refl _) (by kernel_rfl) ?_
        simp
        repeat (first | refine AL.seq ?_ | refine AL.block ?_ | refine AL.skip ?_ | refine AL.blk ?_)
        refine AL.ret ?_
        try simp only [AU]
        refine ⟨by simp, Fin.data (by simp [resAs, resA]; rfl) hbox rfl htok (fun _ h => h) (Nat.le_refl _) ?_⟩
        simp [packA, validG, hn1, hn2, h3]
      · repeat (first | refine AL.seq ?_ | refine AL.block ?_ | refine AL.skip ?_ | refine AL.blk ?_)
        refine AL.region follows_Try (Nat.le_refl _) (by kernel_rfl) ?_
        simp
        refine Stop.of_b (containsFuncE_c g.edges 53 [.ptr (nb + 1) 0 0] (fun e => !fitsB e g.nodes.length) he _ _ _ _ (by simp [lb_at, lk]) (fun x _ box' nb' hx => valid2_c x g hn _ _ box' nb' (nb + 1) (hx _ _ (by simp [lb_at, lk])))) ?_
        simp
        repeat (first | refine AL.seq ?_ | refine AL.block ?_ | refine AL.skip ?_ | refine AL.blk ?_)
        refine AL.cond ?_
        simp
        refine ⟨fun h4 => ?_, fun h4 => ?_⟩
        · repeat (first | refine AL.seq ?_ | refine AL.block ?_ | refine AL.skip ?_ | refine AL.blk ?_)
          refine AL.region follows_Try (Nat.le_refl _) (by kernel_rfl) ?_
          simp
          repeat (first | refine AL.seq ?_ | refine AL.block ?_ | refine AL.skip ?_ | refine AL.blk ?_)
          refine AL.ret ?_
          try simp only [AU]
          refine ⟨by simp, Fin.data (by simp [resAs, resA]; rfl) hbox rfl htok (fun _ h => h) (Nat.le_refl _) ?_⟩
          simp [packA, validG, hn1, hn2, h3, h4]
        · repeat (first | refine AL.seq ?_ | refine AL.block ?_ | refine AL.skip ?_ | refine AL.blk ?_)
          refine AL.region follows_Try (Nat.le_refl _) (by kernel_rfl) ?_
          simp
          repeat (first | refine AL.seq ?_ | refine AL.block ?_ | refine AL.skip ?_ | refine AL.blk ?_)
          refine AL.ret ?_
          try simp only [AU]
          refine ⟨by simp, Fin.data (by simp [resAs, resA]; rfl) hbox rfl htok (fun _ h => h) (Nat.le_refl _) ?_⟩
          simp [packA, validG, hn1, hn2, h3, h4]
end Go.AM
namespace Go.AM
open Go Go.Proofs
set_option linter.unusedSimpArgs false
set_option linter.unusedVariables false

/-! ### ref05: kind, right, Valid, Few, Copied; ref13: Small -/
end Go.AM
namespace Go.AM
open Go Go.Proofs
set_option linter.unusedSimpArgs false
set_option linter.unusedVariables false

/-! ### Overlaps and quotients as data -/
structure Ov where
  g : Gr
  l : Mo
  r : Mo
  deriving DecidableEq, Inhabited

abbrev Ov.cells (o : Ov) : List D := [ints o.g.nodes, AM.edges o.g.edges, ints o.l.nodes, ints o.l.edges, ints o.r.nodes, ints o.r.edges]
abbrev Ov.av (o : Ov) : AV := .agg [.d (ints o.g.nodes), .d (AM.edges o.g.edges), .d (ints o.l.nodes), .d (ints o.l.edges), .d (ints o.r.nodes), .d (ints o.r.edges)]
abbrev ovs (l : List Ov) : D := .sl 6 (l.map Ov.cells)
structure Mo.Fit (m : Mo) : Prop where
  n : m.nodes.length ≤ 1000000
  e : m.edges.length ≤ 1000000

/-! ### SameInts, Same, SameOverlap -/

structure Ov.Fit (o : Ov) : Prop where
  g : o.g.Fit
  l : o.l.Fit
  r : o.r.Fit

end Go.AM
namespace Go.AM
open Go Go.Proofs
set_option linter.unusedSimpArgs false
set_option linter.unusedVariables false

/-! ### SameOverlaps, SameQuotients -/
/-! ### in -/
end Go.AM
namespace Go.AM
open Go Go.Proofs
set_option linter.unusedSimpArgs false
set_option linter.unusedVariables false

/-! ### Finest, Of, Copied; numbers, Identity -/
def iota (n : Nat) : List Int := (List.range n).map fun (i : Nat) => (i : Int)
theorem iota_succ (n : Nat) : iota (n + 1) = iota n ++ [(n : Int)] := by simp [iota, List.range_succ]
@[simp] theorem iota_length (n : Nat) : (iota n).length = n := by simp [iota]
@[simp] theorem iota_zero : iota 0 = [] := rfl

structure Acc where
  i : Nat
  own : Own
  tok : Nat → Bool
  nt : Nat

def st72 (n : Nat) (nb : Nat) (box : Nat → Option (List (List AV))) (a : Acc) : AState := ⟨tl [(0, I n), (3, .osl 1 (rI (iota a.i)) a.own), (4, I a.i)], lb nb box [], a.tok, a.nt⟩

theorem finest_c (n : Nat) (hn : n ≤ 1000000) (tok : Nat → Bool) (nt : Nat) : DCall Try.prog 41 [I n] tok nt (.d (ints (iota n))) tok nt := by
  intro box nb
  refine ACalls.of_body Try.func41 rfl (by kernel_rfl) follows_Try (by kernel_rfl) (by simp [Try.ntmps41]) ?_
  intro hbox htok
  simp only at hbox htok
  apply AL.start
  repeat (first | refine AL.seq ?_ | refine AL.block ?_ | refine AL.skip ?_ | refine AL.blk ?_)
  refine AL.region follows_Try (Nat.le_refl _) (by kernel_rfl) ?_
  simp
  repeat (first | refine AL.seq ?_ | refine AL.block ?_ | refine AL.skip ?_ | refine AL.blk ?_)
  refine AL.region follows_Try (Nat.le_refl _) (by kernel_rfl) ?_
  simp
  repeat (first | refine AL.seq ?_ | refine AL.block ?_ | refine AL.skip ?_ | refine AL.blk ?_)
  refine AL.region follows_Try (Nat.le_refl _) (by kernel_rfl) ?_
  simp
  repeat (first | refine AL.seq ?_ | refine AL.block ?_ | refine AL.skip ?_ | refine AL.blk ?_)
  refine AL.loopT (st72 n nb box) (fun a => a.i ≤ n ∧ TK tok nt a.tok a.nt [a.own]) (fun a => n - a.i) ⟨0, .full, tok, nt⟩ ⟨Nat.zero_le _, (TK.start htok).full⟩ (Weaks.mk (Nat.le_refl _) rfl (by simp [ToL]) trivial) ?_
  rintro ⟨i, own, tok', nt'⟩ S ⟨hi, htk⟩ hS
  simp only [st72] at hS hi htk
  subst hS
  have hw : IntKind.i64.wrap (↑i + 1) = ((i + 1 : Nat) : Int) := by rw [wrap_in (by omega) (by omega)]; rfl
  repeat (first | refine AL.seq ?_ | refine AL.block ?_ | refine AL.skip ?_ | refine AL.blk ?_)
  refine AL.region follows_Try (Nat.le_refl _) (by kernel_rfl) ?_
  simp
  repeat (first | refine AL.seq ?_ | refine AL.block ?_ | refine AL.skip ?_ | refine AL.blk ?_)
  refine AL.cond ?_
  simp
  refine ⟨fun hlt => ?_, fun hge => ?_⟩
  · repeat (first | refine AL.seq ?_ | refine AL.block ?_ | refine AL.skip ?_ | refine AL.blk ?_)
    refine AL.region follows_Try (Nat.le_refl _) (by kernel_rfl) ?_
    simp
    refine ⟨⟨by omega, htk.live⟩, ?_⟩
    repeat (first | refine AL.seq ?_ | refine AL.block ?_ | refine AL.skip ?_ | refine AL.blk ?_)
    refine AL.region follows_Try (Nat.le_refl _) (by kernel_rfl) ?_
    simp [hw]
    repeat (first | refine AL.seq ?_ | refine AL.block ?_ | refine AL.skip ?_ | refine AL.blk ?_)
    refine AL.nil ?_
    refine ⟨⟨i + 1, _, _, _⟩, ⟨hlt, htk.app⟩, by simp; omega, Weaks.mk htk.app.le rfl (by simp [ToL, iota_succ]) trivial⟩
  · repeat (first | refine AL.seq ?_ | refine AL.block ?_ | refine AL.skip ?_ | refine AL.blk ?_)
    refine AL.exit ?_
    simp only [AU, ↓reduceIte]
    repeat (first | refine AL.seq ?_ | refine AL.block ?_ | refine AL.skip ?_ | refine AL.blk ?_)
    refine AL.region follows_Try (Nat.le_refl _) (by kernel_rfl) ?_
    simp
    have : i = n := by omega
    subst this
    repeat (first | refine AL.seq ?_ | refine AL.block ?_ | refine AL.skip ?_ | refine AL.blk ?_)
    refine AL.ret ?_
    try simp only [AU]
    refine ⟨by simp, Fin.data (by simp [resAs, resA]; rfl) hbox rfl htok htk.old htk.le ?_⟩
    simp [packA, ]

theorem of_c (g : Gr) (hg : g.Fit) (tok : Nat → Bool) (nt : Nat) : DCall Try.prog 17 [g.av] tok nt (Mo.av ⟨iota g.nodes.length, iota g.edges.length⟩) tok nt := by
  intro box nb
  refine ACalls.of_body Try.func17 rfl (by kernel_rfl) follows_Try (by kernel_rfl) (by simp [Try.ntmps17]) ?_
  intro hbox htok
  simp only at hbox htok
  apply AL.start
  repeat (first | refine AL.seq ?_ | refine AL.block ?_ | refine AL.skip ?_ | refine AL.blk ?_)
  refine AL.region follows_Try (Nat.le_refl _) (by kernel_rfl) ?_
  simp
  repeat (first | refine AL.seq ?_ | refine AL.block ?_ | refine AL.skip ?_ | refine AL.blk ?_)
  refine AL.region follows_Try (Nat.le_refl _) (by kernel_rfl) ?_
  simp
  refine Stop.of_d (finest_c g.nodes.length hg.n _ _) ?_
  simp
  refine Stop.of_d (finest_c g.edges.length hg.e _ _) ?_
  simp
  repeat (first | refine AL.seq ?_ | refine AL.block ?_ | refine AL.skip ?_ | refine AL.blk ?_)
  refine AL.ret ?_
  try simp only [AU]
  refine ⟨by simp, Fin.data (by simp [resAs, resA]; rfl) hbox rfl htok (fun _ h => h) (Nat.le_refl _) ?_⟩
  simp [packA]

theorem copied_c (g : Gr) (hg : g.Fit) (tok : Nat → Bool) (nt : Nat) : DCall Try.prog 13 [g.av] tok nt (.agg [.osl 1 (rI g.nodes) (.tok nt), .osl 3 (rE g.edges) (.tok (nt + 1))]) (upd (upd tok nt true) (nt + 1) true) (nt + 2) := by
  intro box nb
  have h1 := hg.n
  have h2 := hg.e
  refine ACalls.of_body Try.func13 rfl (by kernel_rfl) follows_Try (by kernel_rfl) (by simp [Try.ntmps13]) ?_
  intro hbox htok
  simp only at hbox htok
  apply AL.start
  repeat (first | refine AL.seq ?_ | refine AL.block ?_ | refine AL.skip ?_ | refine AL.blk ?_)
  refine AL.region follows_Try (Nat.le_refl _) (by kernel_rfl) ?_
  simp
  repeat (first | refine AL.seq ?_ | refine AL.block ?_ | refine AL.skip ?_ | refine AL.blk ?_)
  refine AL.region follows_Try (Nat.le_refl _) (by kernel_rfl) ?_
  simp
  refine ⟨by omega, by omega, ?_⟩
  repeat (first | refine AL.seq ?_ | refine AL.block ?_ | refine AL.skip ?_ | refine AL.blk ?_)
  refine AL.ret ?_
  try simp only [AU]
  refine ⟨by simp, Fin.own (by simp [resAs, resA]; rfl) hbox rfl (by simp) ?_⟩
  simp [packA]

def upto (n i : Nat) : List Int := iota i ++ List.replicate (n - i) 0
@[simp] theorem upto_length {n i : Nat} (h : i ≤ n) : (upto n i).length = n := by simp [upto]; omega
@[simp] theorem upto_zero (n : Nat) : upto n 0 = List.replicate n 0 := by simp [upto]
@[simp] theorem upto_all (n : Nat) : upto n n = iota n := by simp [upto]

def st101 (n : Nat) (nb : Nat) (box : Nat → Option (List (List AV))) (tok : Nat → Bool) (nt : Nat) (i : Nat) : AState := ⟨tl [(3, .msl (nb + 6) 0 n 1), (8, I n), (9, I i)], lb nb box [(6, rowsI (upto n i))], tok, nt⟩

theorem iota_set {n i : Nat} (h : i < n) : (upto n i).set i (i : Int) = upto n (i + 1) := by
  unfold upto
  rw [List.set_append]
  simp only [iota_length, Nat.lt_irrefl, ↓reduceIte, Nat.sub_self, iota_succ, List.append_assoc]
  have : n - i = (n - (i + 1)) + 1 := by omega
  rw [this, List.replicate_succ]
  simp

theorem numbers_c (n : Nat) (hn : n ≤ 1000000) (tok : Nat → Bool) (nt : Nat) : DCall Try.prog 120 [I n] tok nt (.d (ints (iota n))) tok nt := by
  intro box nb
  refine ACalls.of_body Try.func120 rfl (by kernel_rfl) follows_Try (by kernel_rfl) (by simp [Try.ntmps120]) ?_
  intro hbox htok
  simp only at hbox htok
  apply AL.start
  repeat (first | refine AL.seq ?_ | refine AL.block ?_ | refine AL.skip ?_ | refine AL.blk ?_)
  refine AL.region follows_Try (Nat.le_refl _) (by kernel_rfl) ?_
  simp
  repeat (first | refine AL.seq ?_ | refine AL.block ?_ | refine AL.skip ?_ | refine AL.blk ?_)
  refine AL.region follows_Try (Nat.le_refl _) (by kernel_rfl) ?_
  simp
  refine ⟨by omega, ?_⟩
  repeat (first | refine AL.seq ?_ | refine AL.block ?_ | refine AL.skip ?_ | refine AL.blk ?_)
  refine AL.region follows_Try (Nat.le_refl _) (by kernel_rfl) ?_
  simp
  repeat (first | refine AL.seq ?_ | refine AL.block ?_ | refine AL.skip ?_ | refine AL.blk ?_)
  refine AL.loopT (st101 n nb box tok nt) (fun i => i ≤ n) (fun i => n - i) 0 (Nat.zero_le _) (Weaks.mk (Nat.le_refl _) rfl (by simp [ToL, lk]) (by simp [BoxL, lk])) ?_
  rintro i S hi hS
  simp only [st101] at hS
  subst hS
  have hw : IntKind.i64.wrap (↑i + 1) = ((i + 1 : Nat) : Int) := by rw [wrap_in (by omega) (by omega)]; rfl
  repeat (first | refine AL.seq ?_ | refine AL.block ?_ | refine AL.skip ?_ | refine AL.blk ?_)
  refine AL.region follows_Try (Nat.le_refl _) (by kernel_rfl) ?_
  simp
  repeat (first | refine AL.seq ?_ | refine AL.block ?_ | refine AL.skip ?_ | refine AL.blk ?_)
  refine AL.cond ?_
  simp
  refine ⟨fun hlt => ?_, fun hge => ?_⟩
  · repeat (first | refine AL.seq ?_ | refine AL.block ?_ | refine AL.skip ?_ | refine AL.blk ?_)
    refine AL.region follows_Try (Nat.le_refl _) (by kernel_rfl) ?_
    simp
    repeat (first | refine AL.seq ?_ | refine AL.block ?_ | refine AL.skip ?_ | refine AL.blk ?_)
    refine AL.region follows_Try (Nat.le_refl _) (by kernel_rfl) ?_
    simp [hlt, hi]
    repeat (first | refine AL.seq ?_ | refine AL.block ?_ | refine AL.skip ?_ | refine AL.blk ?_)
    refine AL.region follows_Try (Nat.le_refl _) (by kernel_rfl) ?_
    simp [hw]
    repeat (first | refine AL.seq ?_ | refine AL.block ?_ | refine AL.skip ?_ | refine AL.blk ?_)
    refine AL.nil ?_
    refine ⟨i + 1, hlt, by omega, Weaks.mk (Nat.le_refl _) rfl (by simp [ToL, lk]) (by simp [BoxL, lk, iota_set hlt])⟩
  · repeat (first | refine AL.seq ?_ | refine AL.block ?_ | refine AL.skip ?_ | refine AL.blk ?_)
    refine AL.exit ?_
    simp only [AU, ↓reduceIte]
    have : i = n := by omega
    subst this
    refine AL.weak (Weaks.frz (l' := [(3, .d (ints (iota i)))]) (loc' := []) 6 1 (rI (iota i)) (Nat.le_refl _) rfl (by simp [lk, rowsI_eq]) (by simp [lk]) (by simp) (by simp [ToL]) (by simp [BoxL])) ?_
    repeat (first | refine AL.seq ?_ | refine AL.block ?_ | refine AL.skip ?_ | refine AL.blk ?_)
    refine AL.region follows_Try (Nat.le_refl _) (by kernel_rfl) ?_
    simp
    repeat (first | refine AL.seq ?_ | refine AL.block ?_ | refine AL.skip ?_ | refine AL.blk ?_)
    refine AL.ret ?_
    try simp only [AU]
    refine ⟨by simp, Fin.data (by simp [resAs, resA]; rfl) hbox rfl htok (fun _ h => h) (Nat.le_refl _) ?_⟩
    simp [packA]
end Go.AM
