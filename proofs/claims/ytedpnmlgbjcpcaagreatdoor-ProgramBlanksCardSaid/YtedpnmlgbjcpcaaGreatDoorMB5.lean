/-
  Parts of the proof, as merged from many texts: a machine over data, what the functions compute, plain laws.
-/
import Derived.Test.YtedpnmlgbjcpcaaGreatDoorMB4
import Derived.Test.YtedpnmlgbjcpcaaGreatDoorRows
import Derived.Shelf.Strings.Builder1
import Derived.Shelf.Strings.Builder2
import Derived.Shelf.Small.Strs
import Derived.Shelf.Strings.BuilderF
import Derived.Shelf.Strings.BuilderK
import Derived.Shelf.Strconv.Itoa0
import Derived.Shelf.Strconv.Itoa1
import Derived.Shelf.LaysM
import Derived.Shelf.Strconv.Itoa2
import Derived.Shelf.Strconv.Itoa3
import Derived.Shelf.Strings.Search1
import Derived.Shelf.Sort.Plain
import Derived.Shelf.Strings.Prefix
import Derived.Shelf.Strings.Fields
import Derived.Shelf.Unicode.Latin
import Derived.Shelf.Bits.Mul64
import Derived.Shelf.Strings.Repeat
import Derived.Shelf.Unicode.Is16White
import Derived.Shelf.Unicode.IsSpaceAny
import Derived.Shelf.Unicode.Is16Any
import Derived.Shelf.Unicode.Is32Any
import Derived.Shelf.Unicode.ExclAny
import Derived.Shelf.Slices.Equal
import Derived.Shelf.Slices.In.SortNone
import Derived.Test.YtedpnmlgbjcpcaaGreatDoorProg
import Derived.Laws.Strings
import Derived.WideShapes
set_option linter.unusedSimpArgs false
set_option linter.unusedVariables false
namespace Go.AM
open Go Go.Proofs
theorem follows_Tryz : Tryz.prog.follows .mixedOrders = true := by kernel_rfl
@[simp] theorem szOf_2 : szOf Tryz.prog 2 = some 1 := by kernel_rfl
@[simp] theorem aggT_2 : aggT Tryz.prog 2 = some false := by kernel_rfl
@[simp] theorem strT_2 : strT Tryz.prog 2 = false := by kernel_rfl
@[simp] theorem boolT_2 : boolT Tryz.prog 2 = false := by kernel_rfl
@[simp] theorem elemT_2 : elemT Tryz.prog 2 = none := by kernel_rfl
@[simp] theorem rowT_2 : rowT Tryz.prog 2 = none := by kernel_rfl
@[simp] theorem kindT_2 : kindT Tryz.prog 2 = some .i64 := by kernel_rfl
@[simp] theorem zeroT_2 : zeroT Tryz.prog 2 = some [.int .i64 0] := by kernel_rfl
@[simp] theorem szOf_3 : szOf Tryz.prog 3 = some 1 := by kernel_rfl
@[simp] theorem aggT_3 : aggT Tryz.prog 3 = some false := by kernel_rfl
@[simp] theorem strT_3 : strT Tryz.prog 3 = false := by kernel_rfl
@[simp] theorem boolT_3 : boolT Tryz.prog 3 = false := by kernel_rfl
@[simp] theorem elemT_3 : elemT Tryz.prog 3 = none := by kernel_rfl
@[simp] theorem rowT_3 : rowT Tryz.prog 3 = none := by kernel_rfl
@[simp] theorem kindT_3 : kindT Tryz.prog 3 = some .i64 := by kernel_rfl
@[simp] theorem zeroT_3 : zeroT Tryz.prog 3 = some [.int .i64 0] := by kernel_rfl
@[simp] theorem szOf_4 : szOf Tryz.prog 4 = some 1 := by kernel_rfl
@[simp] theorem aggT_4 : aggT Tryz.prog 4 = some false := by kernel_rfl
@[simp] theorem strT_4 : strT Tryz.prog 4 = false := by kernel_rfl
@[simp] theorem boolT_4 : boolT Tryz.prog 4 = true := by kernel_rfl
@[simp] theorem elemT_4 : elemT Tryz.prog 4 = none := by kernel_rfl
@[simp] theorem rowT_4 : rowT Tryz.prog 4 = none := by kernel_rfl
@[simp] theorem zeroT_4 : zeroT Tryz.prog 4 = some [.bool false] := by kernel_rfl
@[simp] theorem szOf_5 : szOf Tryz.prog 5 = some 1 := by kernel_rfl
@[simp] theorem aggT_5 : aggT Tryz.prog 5 = some false := by kernel_rfl
@[simp] theorem strT_5 : strT Tryz.prog 5 = false := by kernel_rfl
@[simp] theorem boolT_5 : boolT Tryz.prog 5 = false := by kernel_rfl
@[simp] theorem elemT_5 : elemT Tryz.prog 5 = none := by kernel_rfl
@[simp] theorem rowT_5 : rowT Tryz.prog 5 = none := by kernel_rfl
@[simp] theorem kindT_5 : kindT Tryz.prog 5 = some .u8 := by kernel_rfl
@[simp] theorem zeroT_5 : zeroT Tryz.prog 5 = some [.int .u8 0] := by kernel_rfl
@[simp] theorem szOf_9 : szOf Tryz.prog 9 = some 1 := by kernel_rfl
@[simp] theorem aggT_9 : aggT Tryz.prog 9 = some false := by kernel_rfl
@[simp] theorem strT_9 : strT Tryz.prog 9 = true := by kernel_rfl
@[simp] theorem boolT_9 : boolT Tryz.prog 9 = false := by kernel_rfl
@[simp] theorem elemT_9 : elemT Tryz.prog 9 = none := by kernel_rfl
@[simp] theorem rowT_9 : rowT Tryz.prog 9 = none := by kernel_rfl
@[simp] theorem zeroT_9 : zeroT Tryz.prog 9 = some [.string ⟨#[]⟩] := by kernel_rfl
@[simp] theorem szOf_21 : szOf Tryz.prog 21 = some 1 := by kernel_rfl
@[simp] theorem aggT_21 : aggT Tryz.prog 21 = some false := by kernel_rfl
@[simp] theorem strT_21 : strT Tryz.prog 21 = false := by kernel_rfl
@[simp] theorem boolT_21 : boolT Tryz.prog 21 = false := by kernel_rfl
@[simp] theorem elemT_21 : elemT Tryz.prog 21 = none := by kernel_rfl
@[simp] theorem rowT_21 : rowT Tryz.prog 21 = none := by kernel_rfl
@[simp] theorem kindT_21 : kindT Tryz.prog 21 = some .i32 := by kernel_rfl
@[simp] theorem zeroT_21 : zeroT Tryz.prog 21 = some [.int .i32 0] := by kernel_rfl
@[simp] theorem szOf_22 : szOf Tryz.prog 22 = some 1 := by kernel_rfl
@[simp] theorem aggT_22 : aggT Tryz.prog 22 = some false := by kernel_rfl
@[simp] theorem strT_22 : strT Tryz.prog 22 = false := by kernel_rfl
@[simp] theorem boolT_22 : boolT Tryz.prog 22 = false := by kernel_rfl
@[simp] theorem elemT_22 : elemT Tryz.prog 22 = some 53 := by kernel_rfl
@[simp] theorem rowT_22 : rowT Tryz.prog 22 = some (53, 5, 72) := by kernel_rfl
@[simp] theorem makeT_22 : makeT Tryz.prog 22 = some (5, 72, [.string ⟨#[]⟩, .int .i64 0, .string ⟨#[]⟩, .int .i64 0, .slice none 0 0]) := by kernel_rfl
@[simp] theorem zeroT_22 : zeroT Tryz.prog 22 = some [.slice none 0 0] := by kernel_rfl
@[simp] theorem szOf_24 : szOf Tryz.prog 24 = some 1 := by kernel_rfl
@[simp] theorem aggT_24 : aggT Tryz.prog 24 = some true := by kernel_rfl
@[simp] theorem strT_24 : strT Tryz.prog 24 = false := by kernel_rfl
@[simp] theorem boolT_24 : boolT Tryz.prog 24 = false := by kernel_rfl
@[simp] theorem elemT_24 : elemT Tryz.prog 24 = none := by kernel_rfl
@[simp] theorem rowT_24 : rowT Tryz.prog 24 = none := by kernel_rfl
@[simp] theorem structT_24 : structT Tryz.prog 24 = some [(0, 1)] := by kernel_rfl
@[simp] theorem fieldT_24_0 : fieldT Tryz.prog 24 0 = some (22, 0) := by kernel_rfl
@[simp] theorem zeroT_24 : zeroT Tryz.prog 24 = some [.slice none 0 0] := by kernel_rfl
@[simp] theorem szOf_27 : szOf Tryz.prog 27 = some 1 := by kernel_rfl
@[simp] theorem aggT_27 : aggT Tryz.prog 27 = some false := by kernel_rfl
@[simp] theorem strT_27 : strT Tryz.prog 27 = false := by kernel_rfl
@[simp] theorem boolT_27 : boolT Tryz.prog 27 = false := by kernel_rfl
@[simp] theorem elemT_27 : elemT Tryz.prog 27 = none := by kernel_rfl
@[simp] theorem rowT_27 : rowT Tryz.prog 27 = none := by kernel_rfl
@[simp] theorem kindT_27 : kindT Tryz.prog 27 = some .i64 := by kernel_rfl
@[simp] theorem zeroT_27 : zeroT Tryz.prog 27 = some [.int .i64 0] := by kernel_rfl
@[simp] theorem szOf_34 : szOf Tryz.prog 34 = some 1 := by kernel_rfl
@[simp] theorem aggT_34 : aggT Tryz.prog 34 = some false := by kernel_rfl
@[simp] theorem strT_34 : strT Tryz.prog 34 = false := by kernel_rfl
@[simp] theorem boolT_34 : boolT Tryz.prog 34 = false := by kernel_rfl
@[simp] theorem elemT_34 : elemT Tryz.prog 34 = some 9 := by kernel_rfl
@[simp] theorem rowT_34 : rowT Tryz.prog 34 = some (9, 1, 16) := by kernel_rfl
@[simp] theorem makeT_34 : makeT Tryz.prog 34 = some (1, 16, [.string ⟨#[]⟩]) := by kernel_rfl
@[simp] theorem zeroT_34 : zeroT Tryz.prog 34 = some [.slice none 0 0] := by kernel_rfl
@[simp] theorem szOf_38 : szOf Tryz.prog 38 = some 1 := by kernel_rfl
@[simp] theorem aggT_38 : aggT Tryz.prog 38 = some false := by kernel_rfl
@[simp] theorem strT_38 : strT Tryz.prog 38 = false := by kernel_rfl
@[simp] theorem boolT_38 : boolT Tryz.prog 38 = false := by kernel_rfl
@[simp] theorem elemT_38 : elemT Tryz.prog 38 = some 118 := by kernel_rfl
@[simp] theorem rowT_38 : rowT Tryz.prog 38 = some (118, 25, 512) := by kernel_rfl
@[simp] theorem makeT_38 : makeT Tryz.prog 38 = some (25, 512, [.string ⟨#[]⟩, .slice none 0 0, .slice none 0 0, .slice none 0 0, .int .i64 0, .slice none 0 0, .slice none 0 0, .slice none 0 0, .slice none 0 0, .int .i64 0, .slice none 0 0, .slice none 0 0, .slice none 0 0, .slice none 0 0, .slice none 0 0, .bool false, .int .i64 0, .slice none 0 0, .slice none 0 0, .slice none 0 0, .slice none 0 0, .slice none 0 0, .slice none 0 0, .int .i64 0, .slice none 0 0]) := by kernel_rfl
@[simp] theorem zeroT_38 : zeroT Tryz.prog 38 = some [.slice none 0 0] := by kernel_rfl
@[simp] theorem szOf_42 : szOf Tryz.prog 42 = some 1 := by kernel_rfl
@[simp] theorem aggT_42 : aggT Tryz.prog 42 = some false := by kernel_rfl
@[simp] theorem strT_42 : strT Tryz.prog 42 = false := by kernel_rfl
@[simp] theorem boolT_42 : boolT Tryz.prog 42 = false := by kernel_rfl
@[simp] theorem elemT_42 : elemT Tryz.prog 42 = some 44 := by kernel_rfl
@[simp] theorem rowT_42 : rowT Tryz.prog 42 = some (44, 4, 56) := by kernel_rfl
@[simp] theorem makeT_42 : makeT Tryz.prog 42 = some (4, 56, [.int .i64 0, .string ⟨#[]⟩, .int .i64 0, .slice none 0 0]) := by kernel_rfl
@[simp] theorem zeroT_42 : zeroT Tryz.prog 42 = some [.slice none 0 0] := by kernel_rfl
@[simp] theorem szOf_44 : szOf Tryz.prog 44 = some 4 := by kernel_rfl
@[simp] theorem aggT_44 : aggT Tryz.prog 44 = some true := by kernel_rfl
@[simp] theorem strT_44 : strT Tryz.prog 44 = false := by kernel_rfl
@[simp] theorem boolT_44 : boolT Tryz.prog 44 = false := by kernel_rfl
@[simp] theorem elemT_44 : elemT Tryz.prog 44 = none := by kernel_rfl
@[simp] theorem rowT_44 : rowT Tryz.prog 44 = none := by kernel_rfl
@[simp] theorem structT_44 : structT Tryz.prog 44 = some [(0, 1), (1, 1), (2, 1), (3, 1)] := by kernel_rfl
@[simp] theorem fieldT_44_0 : fieldT Tryz.prog 44 0 = some (3, 0) := by kernel_rfl
@[simp] theorem fieldT_44_1 : fieldT Tryz.prog 44 1 = some (9, 1) := by kernel_rfl
@[simp] theorem fieldT_44_2 : fieldT Tryz.prog 44 2 = some (3, 2) := by kernel_rfl
@[simp] theorem fieldT_44_3 : fieldT Tryz.prog 44 3 = some (42, 3) := by kernel_rfl
@[simp] theorem zeroT_44 : zeroT Tryz.prog 44 = some [.int .i64 0, .string ⟨#[]⟩, .int .i64 0, .slice none 0 0] := by kernel_rfl
@[simp] theorem szOf_49 : szOf Tryz.prog 49 = some 1 := by kernel_rfl
@[simp] theorem aggT_49 : aggT Tryz.prog 49 = some false := by kernel_rfl
@[simp] theorem strT_49 : strT Tryz.prog 49 = false := by kernel_rfl
@[simp] theorem boolT_49 : boolT Tryz.prog 49 = false := by kernel_rfl
@[simp] theorem elemT_49 : elemT Tryz.prog 49 = some 60 := by kernel_rfl
@[simp] theorem rowT_49 : rowT Tryz.prog 49 = some (60, 1, 24) := by kernel_rfl
@[simp] theorem makeT_49 : makeT Tryz.prog 49 = some (1, 24, [.slice none 0 0]) := by kernel_rfl
@[simp] theorem zeroT_49 : zeroT Tryz.prog 49 = some [.slice none 0 0] := by kernel_rfl
@[simp] theorem szOf_53 : szOf Tryz.prog 53 = some 5 := by kernel_rfl
@[simp] theorem aggT_53 : aggT Tryz.prog 53 = some true := by kernel_rfl
@[simp] theorem strT_53 : strT Tryz.prog 53 = false := by kernel_rfl
@[simp] theorem boolT_53 : boolT Tryz.prog 53 = false := by kernel_rfl
@[simp] theorem elemT_53 : elemT Tryz.prog 53 = none := by kernel_rfl
@[simp] theorem rowT_53 : rowT Tryz.prog 53 = none := by kernel_rfl
@[simp] theorem structT_53 : structT Tryz.prog 53 = some [(0, 1), (1, 4)] := by kernel_rfl
@[simp] theorem fieldT_53_0 : fieldT Tryz.prog 53 0 = some (9, 0) := by kernel_rfl
@[simp] theorem fieldT_53_1 : fieldT Tryz.prog 53 1 = some (44, 1) := by kernel_rfl
@[simp] theorem zeroT_53 : zeroT Tryz.prog 53 = some [.string ⟨#[]⟩, .int .i64 0, .string ⟨#[]⟩, .int .i64 0, .slice none 0 0] := by kernel_rfl
@[simp] theorem szOf_60 : szOf Tryz.prog 60 = some 1 := by kernel_rfl
@[simp] theorem aggT_60 : aggT Tryz.prog 60 = some false := by kernel_rfl
@[simp] theorem strT_60 : strT Tryz.prog 60 = false := by kernel_rfl
@[simp] theorem boolT_60 : boolT Tryz.prog 60 = false := by kernel_rfl
@[simp] theorem elemT_60 : elemT Tryz.prog 60 = some 5 := by kernel_rfl
@[simp] theorem rowT_60 : rowT Tryz.prog 60 = some (5, 1, 1) := by kernel_rfl
@[simp] theorem makeT_60 : makeT Tryz.prog 60 = some (1, 1, [.int .u8 0]) := by kernel_rfl
@[simp] theorem zeroT_60 : zeroT Tryz.prog 60 = some [.slice none 0 0] := by kernel_rfl
@[simp] theorem szOf_61 : szOf Tryz.prog 61 = some 1 := by kernel_rfl
@[simp] theorem aggT_61 : aggT Tryz.prog 61 = some false := by kernel_rfl
@[simp] theorem strT_61 : strT Tryz.prog 61 = false := by kernel_rfl
@[simp] theorem boolT_61 : boolT Tryz.prog 61 = false := by kernel_rfl
@[simp] theorem elemT_61 : elemT Tryz.prog 61 = none := by kernel_rfl
@[simp] theorem rowT_61 : rowT Tryz.prog 61 = none := by kernel_rfl
@[simp] theorem zeroT_61 : zeroT Tryz.prog 61 = some [.pointer none] := by kernel_rfl
@[simp] theorem szOf_63 : szOf Tryz.prog 63 = some 2 := by kernel_rfl
@[simp] theorem aggT_63 : aggT Tryz.prog 63 = some true := by kernel_rfl
@[simp] theorem strT_63 : strT Tryz.prog 63 = false := by kernel_rfl
@[simp] theorem boolT_63 : boolT Tryz.prog 63 = false := by kernel_rfl
@[simp] theorem elemT_63 : elemT Tryz.prog 63 = none := by kernel_rfl
@[simp] theorem rowT_63 : rowT Tryz.prog 63 = none := by kernel_rfl
@[simp] theorem structT_63 : structT Tryz.prog 63 = some [(0, 1), (1, 1)] := by kernel_rfl
@[simp] theorem fieldT_63_0 : fieldT Tryz.prog 63 0 = some (61, 0) := by kernel_rfl
@[simp] theorem fieldT_63_1 : fieldT Tryz.prog 63 1 = some (60, 1) := by kernel_rfl
@[simp] theorem zeroT_63 : zeroT Tryz.prog 63 = some [.pointer none, .slice none 0 0] := by kernel_rfl
@[simp] theorem szOf_66 : szOf Tryz.prog 66 = some 1 := by kernel_rfl
@[simp] theorem aggT_66 : aggT Tryz.prog 66 = some false := by kernel_rfl
@[simp] theorem strT_66 : strT Tryz.prog 66 = false := by kernel_rfl
@[simp] theorem boolT_66 : boolT Tryz.prog 66 = false := by kernel_rfl
@[simp] theorem elemT_66 : elemT Tryz.prog 66 = none := by kernel_rfl
@[simp] theorem rowT_66 : rowT Tryz.prog 66 = none := by kernel_rfl
@[simp] theorem zeroT_66 : zeroT Tryz.prog 66 = some [.nilIface] := by kernel_rfl
@[simp] theorem szOf_78 : szOf Tryz.prog 78 = some 2 := by kernel_rfl
@[simp] theorem aggT_78 : aggT Tryz.prog 78 = some true := by kernel_rfl
@[simp] theorem strT_78 : strT Tryz.prog 78 = false := by kernel_rfl
@[simp] theorem boolT_78 : boolT Tryz.prog 78 = false := by kernel_rfl
@[simp] theorem elemT_78 : elemT Tryz.prog 78 = none := by kernel_rfl
@[simp] theorem rowT_78 : rowT Tryz.prog 78 = none := by kernel_rfl
@[simp] theorem structT_78 : structT Tryz.prog 78 = some [(0, 2)] := by kernel_rfl
@[simp] theorem fieldT_78_0 : fieldT Tryz.prog 78 0 = some (63, 0) := by kernel_rfl
@[simp] theorem zeroT_78 : zeroT Tryz.prog 78 = some [.pointer none, .slice none 0 0] := by kernel_rfl
@[simp] theorem szOf_83 : szOf Tryz.prog 83 = some 1 := by kernel_rfl
@[simp] theorem aggT_83 : aggT Tryz.prog 83 = some false := by kernel_rfl
@[simp] theorem strT_83 : strT Tryz.prog 83 = false := by kernel_rfl
@[simp] theorem boolT_83 : boolT Tryz.prog 83 = false := by kernel_rfl
@[simp] theorem elemT_83 : elemT Tryz.prog 83 = some 91 := by kernel_rfl
@[simp] theorem rowT_83 : rowT Tryz.prog 83 = some (91, 3, 32) := by kernel_rfl
@[simp] theorem makeT_83 : makeT Tryz.prog 83 = some (3, 32, [.int .i64 0, .string ⟨#[]⟩, .int .i64 0]) := by kernel_rfl
@[simp] theorem zeroT_83 : zeroT Tryz.prog 83 = some [.slice none 0 0] := by kernel_rfl
@[simp] theorem szOf_86 : szOf Tryz.prog 86 = some 1 := by kernel_rfl
@[simp] theorem aggT_86 : aggT Tryz.prog 86 = some false := by kernel_rfl
@[simp] theorem strT_86 : strT Tryz.prog 86 = false := by kernel_rfl
@[simp] theorem boolT_86 : boolT Tryz.prog 86 = false := by kernel_rfl
@[simp] theorem elemT_86 : elemT Tryz.prog 86 = none := by kernel_rfl
@[simp] theorem rowT_86 : rowT Tryz.prog 86 = none := by kernel_rfl
@[simp] theorem zeroT_86 : zeroT Tryz.prog 86 = some [.pointer none] := by kernel_rfl
@[simp] theorem szOf_88 : szOf Tryz.prog 88 = some 3 := by kernel_rfl
@[simp] theorem aggT_88 : aggT Tryz.prog 88 = some true := by kernel_rfl
@[simp] theorem strT_88 : strT Tryz.prog 88 = false := by kernel_rfl
@[simp] theorem boolT_88 : boolT Tryz.prog 88 = false := by kernel_rfl
@[simp] theorem elemT_88 : elemT Tryz.prog 88 = none := by kernel_rfl
@[simp] theorem rowT_88 : rowT Tryz.prog 88 = none := by kernel_rfl
@[simp] theorem structT_88 : structT Tryz.prog 88 = some [(0, 1), (1, 1), (2, 1)] := by kernel_rfl
@[simp] theorem fieldT_88_0 : fieldT Tryz.prog 88 0 = some (83, 0) := by kernel_rfl
@[simp] theorem fieldT_88_1 : fieldT Tryz.prog 88 1 = some (3, 1) := by kernel_rfl
@[simp] theorem fieldT_88_2 : fieldT Tryz.prog 88 2 = some (3, 2) := by kernel_rfl
@[simp] theorem zeroT_88 : zeroT Tryz.prog 88 = some [.slice none 0 0, .int .i64 0, .int .i64 0] := by kernel_rfl
@[simp] theorem szOf_89 : szOf Tryz.prog 89 = some 1 := by kernel_rfl
@[simp] theorem aggT_89 : aggT Tryz.prog 89 = some false := by kernel_rfl
@[simp] theorem strT_89 : strT Tryz.prog 89 = false := by kernel_rfl
@[simp] theorem boolT_89 : boolT Tryz.prog 89 = false := by kernel_rfl
@[simp] theorem elemT_89 : elemT Tryz.prog 89 = some 3 := by kernel_rfl
@[simp] theorem rowT_89 : rowT Tryz.prog 89 = some (3, 1, 8) := by kernel_rfl
@[simp] theorem makeT_89 : makeT Tryz.prog 89 = some (1, 8, [.int .i64 0]) := by kernel_rfl
@[simp] theorem zeroT_89 : zeroT Tryz.prog 89 = some [.slice none 0 0] := by kernel_rfl
@[simp] theorem szOf_91 : szOf Tryz.prog 91 = some 3 := by kernel_rfl
@[simp] theorem aggT_91 : aggT Tryz.prog 91 = some true := by kernel_rfl
@[simp] theorem strT_91 : strT Tryz.prog 91 = false := by kernel_rfl
@[simp] theorem boolT_91 : boolT Tryz.prog 91 = false := by kernel_rfl
@[simp] theorem elemT_91 : elemT Tryz.prog 91 = none := by kernel_rfl
@[simp] theorem rowT_91 : rowT Tryz.prog 91 = none := by kernel_rfl
@[simp] theorem structT_91 : structT Tryz.prog 91 = some [(0, 1), (1, 1), (2, 1)] := by kernel_rfl
@[simp] theorem fieldT_91_0 : fieldT Tryz.prog 91 0 = some (3, 0) := by kernel_rfl
@[simp] theorem fieldT_91_1 : fieldT Tryz.prog 91 1 = some (9, 1) := by kernel_rfl
@[simp] theorem fieldT_91_2 : fieldT Tryz.prog 91 2 = some (3, 2) := by kernel_rfl
@[simp] theorem zeroT_91 : zeroT Tryz.prog 91 = some [.int .i64 0, .string ⟨#[]⟩, .int .i64 0] := by kernel_rfl
@[simp] theorem szOf_95 : szOf Tryz.prog 95 = some 1 := by kernel_rfl
@[simp] theorem aggT_95 : aggT Tryz.prog 95 = some false := by kernel_rfl
@[simp] theorem strT_95 : strT Tryz.prog 95 = false := by kernel_rfl
@[simp] theorem boolT_95 : boolT Tryz.prog 95 = false := by kernel_rfl
@[simp] theorem elemT_95 : elemT Tryz.prog 95 = none := by kernel_rfl
@[simp] theorem rowT_95 : rowT Tryz.prog 95 = none := by kernel_rfl
@[simp] theorem zeroT_95 : zeroT Tryz.prog 95 = some [.pointer none] := by kernel_rfl
@[simp] theorem szOf_97 : szOf Tryz.prog 97 = some 3 := by kernel_rfl
@[simp] theorem aggT_97 : aggT Tryz.prog 97 = some true := by kernel_rfl
@[simp] theorem strT_97 : strT Tryz.prog 97 = false := by kernel_rfl
@[simp] theorem boolT_97 : boolT Tryz.prog 97 = false := by kernel_rfl
@[simp] theorem elemT_97 : elemT Tryz.prog 97 = none := by kernel_rfl
@[simp] theorem rowT_97 : rowT Tryz.prog 97 = none := by kernel_rfl
@[simp] theorem structT_97 : structT Tryz.prog 97 = some [(0, 1), (1, 1), (2, 1)] := by kernel_rfl
@[simp] theorem fieldT_97_0 : fieldT Tryz.prog 97 0 = some (83, 0) := by kernel_rfl
@[simp] theorem fieldT_97_1 : fieldT Tryz.prog 97 1 = some (3, 1) := by kernel_rfl
@[simp] theorem fieldT_97_2 : fieldT Tryz.prog 97 2 = some (4, 2) := by kernel_rfl
@[simp] theorem zeroT_97 : zeroT Tryz.prog 97 = some [.slice none 0 0, .int .i64 0, .bool false] := by kernel_rfl
@[simp] theorem szOf_101 : szOf Tryz.prog 101 = some 1 := by kernel_rfl
@[simp] theorem aggT_101 : aggT Tryz.prog 101 = some false := by kernel_rfl
@[simp] theorem strT_101 : strT Tryz.prog 101 = false := by kernel_rfl
@[simp] theorem boolT_101 : boolT Tryz.prog 101 = false := by kernel_rfl
@[simp] theorem elemT_101 : elemT Tryz.prog 101 = some 102 := by kernel_rfl
@[simp] theorem rowT_101 : rowT Tryz.prog 101 = some (102, 1, 8) := by kernel_rfl
@[simp] theorem makeT_101 : makeT Tryz.prog 101 = some (1, 8, [.map none]) := by kernel_rfl
@[simp] theorem zeroT_101 : zeroT Tryz.prog 101 = some [.slice none 0 0] := by kernel_rfl
@[simp] theorem szOf_102 : szOf Tryz.prog 102 = some 1 := by kernel_rfl
@[simp] theorem aggT_102 : aggT Tryz.prog 102 = some false := by kernel_rfl
@[simp] theorem strT_102 : strT Tryz.prog 102 = false := by kernel_rfl
@[simp] theorem boolT_102 : boolT Tryz.prog 102 = false := by kernel_rfl
@[simp] theorem elemT_102 : elemT Tryz.prog 102 = none := by kernel_rfl
@[simp] theorem rowT_102 : rowT Tryz.prog 102 = none := by kernel_rfl
@[simp] theorem zeroT_102 : zeroT Tryz.prog 102 = some [.map none] := by kernel_rfl
@[simp] theorem szOf_104 : szOf Tryz.prog 104 = some 1 := by kernel_rfl
@[simp] theorem aggT_104 : aggT Tryz.prog 104 = some false := by kernel_rfl
@[simp] theorem strT_104 : strT Tryz.prog 104 = false := by kernel_rfl
@[simp] theorem boolT_104 : boolT Tryz.prog 104 = false := by kernel_rfl
@[simp] theorem elemT_104 : elemT Tryz.prog 104 = some 254 := by kernel_rfl
@[simp] theorem rowT_104 : rowT Tryz.prog 104 = some (254, 3, 24) := by kernel_rfl
@[simp] theorem makeT_104 : makeT Tryz.prog 104 = some (3, 24, [.int .i64 0, .int .i64 0, .int .i64 0]) := by kernel_rfl
@[simp] theorem zeroT_104 : zeroT Tryz.prog 104 = some [.slice none 0 0] := by kernel_rfl
@[simp] theorem szOf_106 : szOf Tryz.prog 106 = some 2 := by kernel_rfl
@[simp] theorem aggT_106 : aggT Tryz.prog 106 = some true := by kernel_rfl
@[simp] theorem strT_106 : strT Tryz.prog 106 = false := by kernel_rfl
@[simp] theorem boolT_106 : boolT Tryz.prog 106 = false := by kernel_rfl
@[simp] theorem elemT_106 : elemT Tryz.prog 106 = none := by kernel_rfl
@[simp] theorem rowT_106 : rowT Tryz.prog 106 = none := by kernel_rfl
@[simp] theorem structT_106 : structT Tryz.prog 106 = some [(0, 1), (1, 1)] := by kernel_rfl
@[simp] theorem fieldT_106_0 : fieldT Tryz.prog 106 0 = some (89, 0) := by kernel_rfl
@[simp] theorem fieldT_106_1 : fieldT Tryz.prog 106 1 = some (104, 1) := by kernel_rfl
@[simp] theorem zeroT_106 : zeroT Tryz.prog 106 = some [.slice none 0 0, .slice none 0 0] := by kernel_rfl
@[simp] theorem szOf_107 : szOf Tryz.prog 107 = some 1 := by kernel_rfl
@[simp] theorem aggT_107 : aggT Tryz.prog 107 = some false := by kernel_rfl
@[simp] theorem strT_107 : strT Tryz.prog 107 = false := by kernel_rfl
@[simp] theorem boolT_107 : boolT Tryz.prog 107 = false := by kernel_rfl
@[simp] theorem elemT_107 : elemT Tryz.prog 107 = some 258 := by kernel_rfl
@[simp] theorem rowT_107 : rowT Tryz.prog 107 = some (258, 4, 32) := by kernel_rfl
@[simp] theorem makeT_107 : makeT Tryz.prog 107 = some (4, 32, [.int .i64 0, .int .i64 0, .int .i64 0, .int .i64 0]) := by kernel_rfl
@[simp] theorem zeroT_107 : zeroT Tryz.prog 107 = some [.slice none 0 0] := by kernel_rfl
@[simp] theorem szOf_108 : szOf Tryz.prog 108 = some 1 := by kernel_rfl
@[simp] theorem aggT_108 : aggT Tryz.prog 108 = some false := by kernel_rfl
@[simp] theorem strT_108 : strT Tryz.prog 108 = false := by kernel_rfl
@[simp] theorem boolT_108 : boolT Tryz.prog 108 = false := by kernel_rfl
@[simp] theorem elemT_108 : elemT Tryz.prog 108 = some 260 := by kernel_rfl
@[simp] theorem rowT_108 : rowT Tryz.prog 108 = some (260, 5, 40) := by kernel_rfl
@[simp] theorem makeT_108 : makeT Tryz.prog 108 = some (5, 40, [.int .i64 0, .int .i64 0, .int .i64 0, .int .i64 0, .int .i64 0]) := by kernel_rfl
@[simp] theorem zeroT_108 : zeroT Tryz.prog 108 = some [.slice none 0 0] := by kernel_rfl
@[simp] theorem szOf_110 : szOf Tryz.prog 110 = some 5 := by kernel_rfl
@[simp] theorem aggT_110 : aggT Tryz.prog 110 = some true := by kernel_rfl
@[simp] theorem strT_110 : strT Tryz.prog 110 = false := by kernel_rfl
@[simp] theorem boolT_110 : boolT Tryz.prog 110 = false := by kernel_rfl
@[simp] theorem elemT_110 : elemT Tryz.prog 110 = none := by kernel_rfl
@[simp] theorem rowT_110 : rowT Tryz.prog 110 = none := by kernel_rfl
@[simp] theorem structT_110 : structT Tryz.prog 110 = some [(0, 2), (2, 1), (3, 1), (4, 1)] := by kernel_rfl
@[simp] theorem fieldT_110_0 : fieldT Tryz.prog 110 0 = some (106, 0) := by kernel_rfl
@[simp] theorem fieldT_110_1 : fieldT Tryz.prog 110 1 = some (107, 2) := by kernel_rfl
@[simp] theorem fieldT_110_2 : fieldT Tryz.prog 110 2 = some (3, 3) := by kernel_rfl
@[simp] theorem fieldT_110_3 : fieldT Tryz.prog 110 3 = some (108, 4) := by kernel_rfl
@[simp] theorem zeroT_110 : zeroT Tryz.prog 110 = some [.slice none 0 0, .slice none 0 0, .slice none 0 0, .int .i64 0, .slice none 0 0] := by kernel_rfl
@[simp] theorem szOf_112 : szOf Tryz.prog 112 = some 2 := by kernel_rfl
@[simp] theorem aggT_112 : aggT Tryz.prog 112 = some true := by kernel_rfl
@[simp] theorem strT_112 : strT Tryz.prog 112 = false := by kernel_rfl
@[simp] theorem boolT_112 : boolT Tryz.prog 112 = false := by kernel_rfl
@[simp] theorem elemT_112 : elemT Tryz.prog 112 = none := by kernel_rfl
@[simp] theorem rowT_112 : rowT Tryz.prog 112 = none := by kernel_rfl
@[simp] theorem structT_112 : structT Tryz.prog 112 = some [(0, 1), (1, 1)] := by kernel_rfl
@[simp] theorem fieldT_112_0 : fieldT Tryz.prog 112 0 = some (89, 0) := by kernel_rfl
@[simp] theorem fieldT_112_1 : fieldT Tryz.prog 112 1 = some (89, 1) := by kernel_rfl
@[simp] theorem zeroT_112 : zeroT Tryz.prog 112 = some [.slice none 0 0, .slice none 0 0] := by kernel_rfl
@[simp] theorem szOf_113 : szOf Tryz.prog 113 = some 2 := by kernel_rfl
@[simp] theorem aggT_113 : aggT Tryz.prog 113 = some true := by kernel_rfl
@[simp] theorem strT_113 : strT Tryz.prog 113 = false := by kernel_rfl
@[simp] theorem boolT_113 : boolT Tryz.prog 113 = false := by kernel_rfl
@[simp] theorem elemT_113 : elemT Tryz.prog 113 = none := by kernel_rfl
@[simp] theorem rowT_113 : rowT Tryz.prog 113 = none := by kernel_rfl
@[simp] theorem structT_113 : structT Tryz.prog 113 = some [(0, 1), (1, 1)] := by kernel_rfl
@[simp] theorem fieldT_113_0 : fieldT Tryz.prog 113 0 = some (89, 0) := by kernel_rfl
@[simp] theorem fieldT_113_1 : fieldT Tryz.prog 113 1 = some (89, 1) := by kernel_rfl
@[simp] theorem zeroT_113 : zeroT Tryz.prog 113 = some [.slice none 0 0, .slice none 0 0] := by kernel_rfl
@[simp] theorem szOf_114 : szOf Tryz.prog 114 = some 1 := by kernel_rfl
@[simp] theorem aggT_114 : aggT Tryz.prog 114 = some false := by kernel_rfl
@[simp] theorem strT_114 : strT Tryz.prog 114 = false := by kernel_rfl
@[simp] theorem boolT_114 : boolT Tryz.prog 114 = false := by kernel_rfl
@[simp] theorem elemT_114 : elemT Tryz.prog 114 = some 116 := by kernel_rfl
@[simp] theorem rowT_114 : rowT Tryz.prog 114 = some (116, 9, 184) := by kernel_rfl
@[simp] theorem makeT_114 : makeT Tryz.prog 114 = some (9, 184, [.int .i64 0, .slice none 0 0, .slice none 0 0, .slice none 0 0, .slice none 0 0, .slice none 0 0, .slice none 0 0, .int .i64 0, .slice none 0 0]) := by kernel_rfl
@[simp] theorem zeroT_114 : zeroT Tryz.prog 114 = some [.slice none 0 0] := by kernel_rfl
@[simp] theorem szOf_116 : szOf Tryz.prog 116 = some 9 := by kernel_rfl
@[simp] theorem aggT_116 : aggT Tryz.prog 116 = some true := by kernel_rfl
@[simp] theorem strT_116 : strT Tryz.prog 116 = false := by kernel_rfl
@[simp] theorem boolT_116 : boolT Tryz.prog 116 = false := by kernel_rfl
@[simp] theorem elemT_116 : elemT Tryz.prog 116 = none := by kernel_rfl
@[simp] theorem rowT_116 : rowT Tryz.prog 116 = none := by kernel_rfl
@[simp] theorem structT_116 : structT Tryz.prog 116 = some [(0, 1), (1, 1), (2, 2), (4, 5)] := by kernel_rfl
@[simp] theorem fieldT_116_0 : fieldT Tryz.prog 116 0 = some (3, 0) := by kernel_rfl
@[simp] theorem fieldT_116_1 : fieldT Tryz.prog 116 1 = some (114, 1) := by kernel_rfl
@[simp] theorem fieldT_116_2 : fieldT Tryz.prog 116 2 = some (113, 2) := by kernel_rfl
@[simp] theorem fieldT_116_3 : fieldT Tryz.prog 116 3 = some (110, 4) := by kernel_rfl
@[simp] theorem zeroT_116 : zeroT Tryz.prog 116 = some [.int .i64 0, .slice none 0 0, .slice none 0 0, .slice none 0 0, .slice none 0 0, .slice none 0 0, .slice none 0 0, .int .i64 0, .slice none 0 0] := by kernel_rfl
@[simp] theorem szOf_118 : szOf Tryz.prog 118 = some 25 := by kernel_rfl
@[simp] theorem aggT_118 : aggT Tryz.prog 118 = some true := by kernel_rfl
@[simp] theorem strT_118 : strT Tryz.prog 118 = false := by kernel_rfl
@[simp] theorem boolT_118 : boolT Tryz.prog 118 = false := by kernel_rfl
@[simp] theorem elemT_118 : elemT Tryz.prog 118 = none := by kernel_rfl
@[simp] theorem rowT_118 : rowT Tryz.prog 118 = none := by kernel_rfl
@[simp] theorem structT_118 : structT Tryz.prog 118 = some [(0, 1), (1, 5), (6, 5), (11, 2), (13, 2), (15, 1), (16, 9)] := by kernel_rfl
@[simp] theorem fieldT_118_0 : fieldT Tryz.prog 118 0 = some (9, 0) := by kernel_rfl
@[simp] theorem fieldT_118_1 : fieldT Tryz.prog 118 1 = some (110, 1) := by kernel_rfl
@[simp] theorem fieldT_118_2 : fieldT Tryz.prog 118 2 = some (110, 6) := by kernel_rfl
@[simp] theorem fieldT_118_3 : fieldT Tryz.prog 118 3 = some (112, 11) := by kernel_rfl
@[simp] theorem fieldT_118_4 : fieldT Tryz.prog 118 4 = some (113, 13) := by kernel_rfl
@[simp] theorem fieldT_118_5 : fieldT Tryz.prog 118 5 = some (4, 15) := by kernel_rfl
@[simp] theorem fieldT_118_6 : fieldT Tryz.prog 118 6 = some (116, 16) := by kernel_rfl
@[simp] theorem zeroT_118 : zeroT Tryz.prog 118 = some [.string ⟨#[]⟩, .slice none 0 0, .slice none 0 0, .slice none 0 0, .int .i64 0, .slice none 0 0, .slice none 0 0, .slice none 0 0, .slice none 0 0, .int .i64 0, .slice none 0 0, .slice none 0 0, .slice none 0 0, .slice none 0 0, .slice none 0 0, .bool false, .int .i64 0, .slice none 0 0, .slice none 0 0, .slice none 0 0, .slice none 0 0, .slice none 0 0, .slice none 0 0, .int .i64 0, .slice none 0 0] := by kernel_rfl
@[simp] theorem szOf_119 : szOf Tryz.prog 119 = some 1 := by kernel_rfl
@[simp] theorem aggT_119 : aggT Tryz.prog 119 = some false := by kernel_rfl
@[simp] theorem strT_119 : strT Tryz.prog 119 = false := by kernel_rfl
@[simp] theorem boolT_119 : boolT Tryz.prog 119 = false := by kernel_rfl
@[simp] theorem elemT_119 : elemT Tryz.prog 119 = some 34 := by kernel_rfl
@[simp] theorem rowT_119 : rowT Tryz.prog 119 = some (34, 1, 24) := by kernel_rfl
@[simp] theorem makeT_119 : makeT Tryz.prog 119 = some (1, 24, [.slice none 0 0]) := by kernel_rfl
@[simp] theorem zeroT_119 : zeroT Tryz.prog 119 = some [.slice none 0 0] := by kernel_rfl
@[simp] theorem szOf_121 : szOf Tryz.prog 121 = some 1 := by kernel_rfl
@[simp] theorem aggT_121 : aggT Tryz.prog 121 = some false := by kernel_rfl
@[simp] theorem strT_121 : strT Tryz.prog 121 = false := by kernel_rfl
@[simp] theorem boolT_121 : boolT Tryz.prog 121 = false := by kernel_rfl
@[simp] theorem elemT_121 : elemT Tryz.prog 121 = some 123 := by kernel_rfl
@[simp] theorem rowT_121 : rowT Tryz.prog 121 = some (123, 5, 64) := by kernel_rfl
@[simp] theorem makeT_121 : makeT Tryz.prog 121 = some (5, 64, [.int .i64 0, .string ⟨#[]⟩, .int .i64 0, .slice none 0 0, .int .i64 0]) := by kernel_rfl
@[simp] theorem zeroT_121 : zeroT Tryz.prog 121 = some [.slice none 0 0] := by kernel_rfl
@[simp] theorem szOf_123 : szOf Tryz.prog 123 = some 5 := by kernel_rfl
@[simp] theorem aggT_123 : aggT Tryz.prog 123 = some true := by kernel_rfl
@[simp] theorem strT_123 : strT Tryz.prog 123 = false := by kernel_rfl
@[simp] theorem boolT_123 : boolT Tryz.prog 123 = false := by kernel_rfl
@[simp] theorem elemT_123 : elemT Tryz.prog 123 = none := by kernel_rfl
@[simp] theorem rowT_123 : rowT Tryz.prog 123 = none := by kernel_rfl
@[simp] theorem structT_123 : structT Tryz.prog 123 = some [(0, 4), (4, 1)] := by kernel_rfl
@[simp] theorem fieldT_123_0 : fieldT Tryz.prog 123 0 = some (44, 0) := by kernel_rfl
@[simp] theorem fieldT_123_1 : fieldT Tryz.prog 123 1 = some (3, 4) := by kernel_rfl
@[simp] theorem zeroT_123 : zeroT Tryz.prog 123 = some [.int .i64 0, .string ⟨#[]⟩, .int .i64 0, .slice none 0 0, .int .i64 0] := by kernel_rfl
@[simp] theorem szOf_126 : szOf Tryz.prog 126 = some 1 := by kernel_rfl
@[simp] theorem aggT_126 : aggT Tryz.prog 126 = some false := by kernel_rfl
@[simp] theorem strT_126 : strT Tryz.prog 126 = false := by kernel_rfl
@[simp] theorem boolT_126 : boolT Tryz.prog 126 = false := by kernel_rfl
@[simp] theorem elemT_126 : elemT Tryz.prog 126 = some 4 := by kernel_rfl
@[simp] theorem rowT_126 : rowT Tryz.prog 126 = some (4, 1, 1) := by kernel_rfl
@[simp] theorem makeT_126 : makeT Tryz.prog 126 = some (1, 1, [.bool false]) := by kernel_rfl
@[simp] theorem zeroT_126 : zeroT Tryz.prog 126 = some [.slice none 0 0] := by kernel_rfl
@[simp] theorem szOf_129 : szOf Tryz.prog 129 = some 1 := by kernel_rfl
@[simp] theorem aggT_129 : aggT Tryz.prog 129 = some false := by kernel_rfl
@[simp] theorem strT_129 : strT Tryz.prog 129 = false := by kernel_rfl
@[simp] theorem boolT_129 : boolT Tryz.prog 129 = false := by kernel_rfl
@[simp] theorem elemT_129 : elemT Tryz.prog 129 = none := by kernel_rfl
@[simp] theorem rowT_129 : rowT Tryz.prog 129 = none := by kernel_rfl
@[simp] theorem zeroT_129 : zeroT Tryz.prog 129 = some [.pointer none] := by kernel_rfl
@[simp] theorem szOf_131 : szOf Tryz.prog 131 = some 3 := by kernel_rfl
@[simp] theorem aggT_131 : aggT Tryz.prog 131 = some true := by kernel_rfl
@[simp] theorem strT_131 : strT Tryz.prog 131 = false := by kernel_rfl
@[simp] theorem boolT_131 : boolT Tryz.prog 131 = false := by kernel_rfl
@[simp] theorem elemT_131 : elemT Tryz.prog 131 = none := by kernel_rfl
@[simp] theorem rowT_131 : rowT Tryz.prog 131 = none := by kernel_rfl
@[simp] theorem structT_131 : structT Tryz.prog 131 = some [(0, 1), (1, 1), (2, 1)] := by kernel_rfl
@[simp] theorem fieldT_131_0 : fieldT Tryz.prog 131 0 = some (60, 0) := by kernel_rfl
@[simp] theorem fieldT_131_1 : fieldT Tryz.prog 131 1 = some (34, 1) := by kernel_rfl
@[simp] theorem fieldT_131_2 : fieldT Tryz.prog 131 2 = some (3, 2) := by kernel_rfl
@[simp] theorem zeroT_131 : zeroT Tryz.prog 131 = some [.slice none 0 0, .slice none 0 0, .int .i64 0] := by kernel_rfl
@[simp] theorem szOf_138 : szOf Tryz.prog 138 = some 256 := by kernel_rfl
@[simp] theorem aggT_138 : aggT Tryz.prog 138 = some true := by kernel_rfl
@[simp] theorem strT_138 : strT Tryz.prog 138 = false := by kernel_rfl
@[simp] theorem boolT_138 : boolT Tryz.prog 138 = false := by kernel_rfl
@[simp] theorem elemT_138 : elemT Tryz.prog 138 = none := by kernel_rfl
@[simp] theorem rowT_138 : rowT Tryz.prog 138 = none := by kernel_rfl
@[simp] theorem arrT_138 : arrT Tryz.prog 138 = some (256, 5) := by kernel_rfl
@[simp] theorem zeroT_138 : zeroT Tryz.prog 138 = some [.int .u8 0, .int .u8 0, .int .u8 0, .int .u8 0, .int .u8 0, .int .u8 0, .int .u8 0, .int .u8 0, .int .u8 0, .int .u8 0, .int .u8 0, .int .u8 0, .int .u8 0, .int .u8 0, .int .u8 0, .int .u8 0, .int .u8 0, .int .u8 0, .int .u8 0, .int .u8 0, .int .u8 0, .int .u8 0, .int .u8 0, .int .u8 0, .int .u8 0, .int .u8 0, .int .u8 0, .int .u8 0, .int .u8 0, .int .u8 0, .int .u8 0, .int .u8 0, .int .u8 0, .int .u8 0, .int .u8 0, .int .u8 0, .int .u8 0, .int .u8 0, .int .u8 0, .int .u8 0, .int .u8 0, .int .u8 0, .int .u8 0, .int .u8 0, .int .u8 0, .int .u8 0, .int .u8 0, .int .u8 0, .int .u8 0, .int .u8 0, .int .u8 0, .int .u8 0, .int .u8 0, .int .u8 0, .int .u8 0, .int .u8 0, .int .u8 0, .int .u8 0, .int .u8 0, .int .u8 0, .int .u8 0, .int .u8 0, .int .u8 0, .int .u8 0, .int .u8 0, .int .u8 0, .int .u8 0, .int .u8 0, .int .u8 0, .int .u8 0, .int .u8 0, .int .u8 0, .int .u8 0, .int .u8 0, .int .u8 0, .int .u8 0, .int .u8 0, .int .u8 0, .int .u8 0, .int .u8 0, .int .u8 0, .int .u8 0, .int .u8 0, .int .u8 0, .int .u8 0, .int .u8 0, .int .u8 0, .int .u8 0, .int .u8 0, .int .u8 0, .int .u8 0, .int .u8 0, .int .u8 0, .int .u8 0, .int .u8 0, .int .u8 0, .int .u8 0, .int .u8 0, .int .u8 0, .int .u8 0, .int .u8 0, .int .u8 0, .int .u8 0, .int .u8 0, .int .u8 0, .int .u8 0, .int .u8 0, .int .u8 0, .int .u8 0, .int .u8 0, .int .u8 0, .int .u8 0, .int .u8 0, .int .u8 0, .int .u8 0, .int .u8 0, .int .u8 0, .int .u8 0, .int .u8 0, .int .u8 0, .int .u8 0, .int .u8 0, .int .u8 0, .int .u8 0, .int .u8 0, .int .u8 0, .int .u8 0, .int .u8 0, .int .u8 0, .int .u8 0, .int .u8 0, .int .u8 0, .int .u8 0, .int .u8 0, .int .u8 0, .int .u8 0, .int .u8 0, .int .u8 0, .int .u8 0, .int .u8 0, .int .u8 0, .int .u8 0, .int .u8 0, .int .u8 0, .int .u8 0, .int .u8 0, .int .u8 0, .int .u8 0, .int .u8 0, .int .u8 0, .int .u8 0, .int .u8 0, .int .u8 0, .int .u8 0, .int .u8 0, .int .u8 0, .int .u8 0, .int .u8 0, .int .u8 0, .int .u8 0, .int .u8 0, .int .u8 0, .int .u8 0, .int .u8 0, .int .u8 0, .int .u8 0, .int .u8 0, .int .u8 0, .int .u8 0, .int .u8 0, .int .u8 0, .int .u8 0, .int .u8 0, .int .u8 0, .int .u8 0, .int .u8 0, .int .u8 0, .int .u8 0, .int .u8 0, .int .u8 0, .int .u8 0, .int .u8 0, .int .u8 0, .int .u8 0, .int .u8 0, .int .u8 0, .int .u8 0, .int .u8 0, .int .u8 0, .int .u8 0, .int .u8 0, .int .u8 0, .int .u8 0, .int .u8 0, .int .u8 0, .int .u8 0, .int .u8 0, .int .u8 0, .int .u8 0, .int .u8 0, .int .u8 0, .int .u8 0, .int .u8 0, .int .u8 0, .int .u8 0, .int .u8 0, .int .u8 0, .int .u8 0, .int .u8 0, .int .u8 0, .int .u8 0, .int .u8 0, .int .u8 0, .int .u8 0, .int .u8 0, .int .u8 0, .int .u8 0, .int .u8 0, .int .u8 0, .int .u8 0, .int .u8 0, .int .u8 0, .int .u8 0, .int .u8 0, .int .u8 0, .int .u8 0, .int .u8 0, .int .u8 0, .int .u8 0, .int .u8 0, .int .u8 0, .int .u8 0, .int .u8 0, .int .u8 0, .int .u8 0, .int .u8 0, .int .u8 0, .int .u8 0, .int .u8 0, .int .u8 0, .int .u8 0, .int .u8 0, .int .u8 0, .int .u8 0, .int .u8 0, .int .u8 0, .int .u8 0, .int .u8 0, .int .u8 0, .int .u8 0, .int .u8 0, .int .u8 0, .int .u8 0, .int .u8 0, .int .u8 0, .int .u8 0] := by kernel_rfl
@[simp] theorem szOf_140 : szOf Tryz.prog 140 = some 1 := by kernel_rfl
@[simp] theorem aggT_140 : aggT Tryz.prog 140 = some false := by kernel_rfl
@[simp] theorem zeroT_140 : zeroT Tryz.prog 140 = some [.nilFunc] := by kernel_rfl
@[simp] theorem szOf_141 : szOf Tryz.prog 141 = some 1 := by kernel_rfl
@[simp] theorem aggT_141 : aggT Tryz.prog 141 = some false := by kernel_rfl
@[simp] theorem strT_141 : strT Tryz.prog 141 = false := by kernel_rfl
@[simp] theorem boolT_141 : boolT Tryz.prog 141 = false := by kernel_rfl
@[simp] theorem elemT_141 : elemT Tryz.prog 141 = none := by kernel_rfl
@[simp] theorem rowT_141 : rowT Tryz.prog 141 = none := by kernel_rfl
@[simp] theorem zeroT_141 : zeroT Tryz.prog 141 = some [.pointer none] := by kernel_rfl
@[simp] theorem szOf_142 : szOf Tryz.prog 142 = some 1 := by kernel_rfl
@[simp] theorem aggT_142 : aggT Tryz.prog 142 = some false := by kernel_rfl
@[simp] theorem zeroT_142 : zeroT Tryz.prog 142 = some [.nilFunc] := by kernel_rfl
@[simp] theorem szOf_146 : szOf Tryz.prog 146 = some 4 := by kernel_rfl
@[simp] theorem aggT_146 : aggT Tryz.prog 146 = some true := by kernel_rfl
@[simp] theorem strT_146 : strT Tryz.prog 146 = false := by kernel_rfl
@[simp] theorem boolT_146 : boolT Tryz.prog 146 = false := by kernel_rfl
@[simp] theorem elemT_146 : elemT Tryz.prog 146 = none := by kernel_rfl
@[simp] theorem rowT_146 : rowT Tryz.prog 146 = none := by kernel_rfl
@[simp] theorem structT_146 : structT Tryz.prog 146 = some [(0, 1), (1, 1), (2, 1), (3, 1)] := by kernel_rfl
@[simp] theorem fieldT_146_0 : fieldT Tryz.prog 146 0 = some (24, 0) := by kernel_rfl
@[simp] theorem fieldT_146_1 : fieldT Tryz.prog 146 1 = some (38, 1) := by kernel_rfl
@[simp] theorem fieldT_146_2 : fieldT Tryz.prog 146 2 = some (4, 2) := by kernel_rfl
@[simp] theorem fieldT_146_3 : fieldT Tryz.prog 146 3 = some (3, 3) := by kernel_rfl
@[simp] theorem zeroT_146 : zeroT Tryz.prog 146 = some [.slice none 0 0, .slice none 0 0, .bool false, .int .i64 0] := by kernel_rfl
@[simp] theorem szOf_148 : szOf Tryz.prog 148 = some 1 := by kernel_rfl
@[simp] theorem aggT_148 : aggT Tryz.prog 148 = some false := by kernel_rfl
@[simp] theorem strT_148 : strT Tryz.prog 148 = false := by kernel_rfl
@[simp] theorem boolT_148 : boolT Tryz.prog 148 = false := by kernel_rfl
@[simp] theorem elemT_148 : elemT Tryz.prog 148 = none := by kernel_rfl
@[simp] theorem rowT_148 : rowT Tryz.prog 148 = none := by kernel_rfl
@[simp] theorem zeroT_148 : zeroT Tryz.prog 148 = some [.pointer none] := by kernel_rfl
@[simp] theorem szOf_151 : szOf Tryz.prog 151 = some 1 := by kernel_rfl
@[simp] theorem aggT_151 : aggT Tryz.prog 151 = some false := by kernel_rfl
@[simp] theorem zeroT_151 : zeroT Tryz.prog 151 = some [.nilFunc] := by kernel_rfl
@[simp] theorem szOf_173 : szOf Tryz.prog 173 = some 1 := by kernel_rfl
@[simp] theorem aggT_173 : aggT Tryz.prog 173 = some false := by kernel_rfl
@[simp] theorem strT_173 : strT Tryz.prog 173 = false := by kernel_rfl
@[simp] theorem boolT_173 : boolT Tryz.prog 173 = false := by kernel_rfl
@[simp] theorem elemT_173 : elemT Tryz.prog 173 = none := by kernel_rfl
@[simp] theorem rowT_173 : rowT Tryz.prog 173 = none := by kernel_rfl
@[simp] theorem kindT_173 : kindT Tryz.prog 173 = some .u32 := by kernel_rfl
@[simp] theorem zeroT_173 : zeroT Tryz.prog 173 = some [.int .u32 0] := by kernel_rfl
@[simp] theorem szOf_175 : szOf Tryz.prog 175 = some 1 := by kernel_rfl
@[simp] theorem aggT_175 : aggT Tryz.prog 175 = some false := by kernel_rfl
@[simp] theorem strT_175 : strT Tryz.prog 175 = false := by kernel_rfl
@[simp] theorem boolT_175 : boolT Tryz.prog 175 = false := by kernel_rfl
@[simp] theorem elemT_175 : elemT Tryz.prog 175 = none := by kernel_rfl
@[simp] theorem rowT_175 : rowT Tryz.prog 175 = none := by kernel_rfl
@[simp] theorem kindT_175 : kindT Tryz.prog 175 = some .u64 := by kernel_rfl
@[simp] theorem zeroT_175 : zeroT Tryz.prog 175 = some [.int .u64 0] := by kernel_rfl
@[simp] theorem szOf_176 : szOf Tryz.prog 176 = some 1 := by kernel_rfl
@[simp] theorem aggT_176 : aggT Tryz.prog 176 = some false := by kernel_rfl
@[simp] theorem strT_176 : strT Tryz.prog 176 = false := by kernel_rfl
@[simp] theorem boolT_176 : boolT Tryz.prog 176 = false := by kernel_rfl
@[simp] theorem elemT_176 : elemT Tryz.prog 176 = some 178 := by kernel_rfl
@[simp] theorem rowT_176 : rowT Tryz.prog 176 = some (178, 2, 16) := by kernel_rfl
@[simp] theorem makeT_176 : makeT Tryz.prog 176 = some (2, 16, [.int .i64 0, .int .i64 0]) := by kernel_rfl
@[simp] theorem zeroT_176 : zeroT Tryz.prog 176 = some [.slice none 0 0] := by kernel_rfl
@[simp] theorem szOf_178 : szOf Tryz.prog 178 = some 2 := by kernel_rfl
@[simp] theorem aggT_178 : aggT Tryz.prog 178 = some true := by kernel_rfl
@[simp] theorem strT_178 : strT Tryz.prog 178 = false := by kernel_rfl
@[simp] theorem boolT_178 : boolT Tryz.prog 178 = false := by kernel_rfl
@[simp] theorem elemT_178 : elemT Tryz.prog 178 = none := by kernel_rfl
@[simp] theorem rowT_178 : rowT Tryz.prog 178 = none := by kernel_rfl
@[simp] theorem eqT_178 : eqT Tryz.prog 178 = some 2 := by kernel_rfl
@[simp] theorem structT_178 : structT Tryz.prog 178 = some [(0, 1), (1, 1)] := by kernel_rfl
@[simp] theorem fieldT_178_0 : fieldT Tryz.prog 178 0 = some (3, 0) := by kernel_rfl
@[simp] theorem fieldT_178_1 : fieldT Tryz.prog 178 1 = some (3, 1) := by kernel_rfl
@[simp] theorem zeroT_178 : zeroT Tryz.prog 178 = some [.int .i64 0, .int .i64 0] := by kernel_rfl
@[simp] theorem szOf_180 : szOf Tryz.prog 180 = some 1 := by kernel_rfl
@[simp] theorem aggT_180 : aggT Tryz.prog 180 = some false := by kernel_rfl
@[simp] theorem strT_180 : strT Tryz.prog 180 = false := by kernel_rfl
@[simp] theorem boolT_180 : boolT Tryz.prog 180 = false := by kernel_rfl
@[simp] theorem elemT_180 : elemT Tryz.prog 180 = none := by kernel_rfl
@[simp] theorem rowT_180 : rowT Tryz.prog 180 = none := by kernel_rfl
@[simp] theorem zeroT_180 : zeroT Tryz.prog 180 = some [.pointer none] := by kernel_rfl
@[simp] theorem szOf_202 : szOf Tryz.prog 202 = some 1 := by kernel_rfl
@[simp] theorem aggT_202 : aggT Tryz.prog 202 = some false := by kernel_rfl
@[simp] theorem strT_202 : strT Tryz.prog 202 = false := by kernel_rfl
@[simp] theorem boolT_202 : boolT Tryz.prog 202 = false := by kernel_rfl
@[simp] theorem elemT_202 : elemT Tryz.prog 202 = none := by kernel_rfl
@[simp] theorem rowT_202 : rowT Tryz.prog 202 = none := by kernel_rfl
@[simp] theorem zeroT_202 : zeroT Tryz.prog 202 = some [.pointer none] := by kernel_rfl
@[simp] theorem szOf_204 : szOf Tryz.prog 204 = some 1 := by kernel_rfl
@[simp] theorem aggT_204 : aggT Tryz.prog 204 = some false := by kernel_rfl
@[simp] theorem strT_204 : strT Tryz.prog 204 = false := by kernel_rfl
@[simp] theorem boolT_204 : boolT Tryz.prog 204 = false := by kernel_rfl
@[simp] theorem elemT_204 : elemT Tryz.prog 204 = some 210 := by kernel_rfl
@[simp] theorem rowT_204 : rowT Tryz.prog 204 = some (210, 3, 6) := by kernel_rfl
@[simp] theorem makeT_204 : makeT Tryz.prog 204 = some (3, 6, [.int .u16 0, .int .u16 0, .int .u16 0]) := by kernel_rfl
@[simp] theorem zeroT_204 : zeroT Tryz.prog 204 = some [.slice none 0 0] := by kernel_rfl
@[simp] theorem szOf_205 : szOf Tryz.prog 205 = some 1 := by kernel_rfl
@[simp] theorem aggT_205 : aggT Tryz.prog 205 = some false := by kernel_rfl
@[simp] theorem strT_205 : strT Tryz.prog 205 = false := by kernel_rfl
@[simp] theorem boolT_205 : boolT Tryz.prog 205 = false := by kernel_rfl
@[simp] theorem elemT_205 : elemT Tryz.prog 205 = some 213 := by kernel_rfl
@[simp] theorem rowT_205 : rowT Tryz.prog 205 = some (213, 3, 12) := by kernel_rfl
@[simp] theorem makeT_205 : makeT Tryz.prog 205 = some (3, 12, [.int .u32 0, .int .u32 0, .int .u32 0]) := by kernel_rfl
@[simp] theorem zeroT_205 : zeroT Tryz.prog 205 = some [.slice none 0 0] := by kernel_rfl
@[simp] theorem szOf_207 : szOf Tryz.prog 207 = some 3 := by kernel_rfl
@[simp] theorem aggT_207 : aggT Tryz.prog 207 = some true := by kernel_rfl
@[simp] theorem strT_207 : strT Tryz.prog 207 = false := by kernel_rfl
@[simp] theorem boolT_207 : boolT Tryz.prog 207 = false := by kernel_rfl
@[simp] theorem elemT_207 : elemT Tryz.prog 207 = none := by kernel_rfl
@[simp] theorem rowT_207 : rowT Tryz.prog 207 = none := by kernel_rfl
@[simp] theorem structT_207 : structT Tryz.prog 207 = some [(0, 1), (1, 1), (2, 1)] := by kernel_rfl
@[simp] theorem fieldT_207_0 : fieldT Tryz.prog 207 0 = some (204, 0) := by kernel_rfl
@[simp] theorem fieldT_207_1 : fieldT Tryz.prog 207 1 = some (205, 1) := by kernel_rfl
@[simp] theorem fieldT_207_2 : fieldT Tryz.prog 207 2 = some (3, 2) := by kernel_rfl
@[simp] theorem zeroT_207 : zeroT Tryz.prog 207 = some [.slice none 0 0, .slice none 0 0, .int .i64 0] := by kernel_rfl
@[simp] theorem szOf_208 : szOf Tryz.prog 208 = some 1 := by kernel_rfl
@[simp] theorem aggT_208 : aggT Tryz.prog 208 = some false := by kernel_rfl
@[simp] theorem strT_208 : strT Tryz.prog 208 = false := by kernel_rfl
@[simp] theorem boolT_208 : boolT Tryz.prog 208 = false := by kernel_rfl
@[simp] theorem elemT_208 : elemT Tryz.prog 208 = none := by kernel_rfl
@[simp] theorem rowT_208 : rowT Tryz.prog 208 = none := by kernel_rfl
@[simp] theorem kindT_208 : kindT Tryz.prog 208 = some .u16 := by kernel_rfl
@[simp] theorem zeroT_208 : zeroT Tryz.prog 208 = some [.int .u16 0] := by kernel_rfl
@[simp] theorem szOf_210 : szOf Tryz.prog 210 = some 3 := by kernel_rfl
@[simp] theorem aggT_210 : aggT Tryz.prog 210 = some true := by kernel_rfl
@[simp] theorem strT_210 : strT Tryz.prog 210 = false := by kernel_rfl
@[simp] theorem boolT_210 : boolT Tryz.prog 210 = false := by kernel_rfl
@[simp] theorem elemT_210 : elemT Tryz.prog 210 = none := by kernel_rfl
@[simp] theorem rowT_210 : rowT Tryz.prog 210 = none := by kernel_rfl
@[simp] theorem eqT_210 : eqT Tryz.prog 210 = some 3 := by kernel_rfl
@[simp] theorem structT_210 : structT Tryz.prog 210 = some [(0, 1), (1, 1), (2, 1)] := by kernel_rfl
@[simp] theorem fieldT_210_0 : fieldT Tryz.prog 210 0 = some (208, 0) := by kernel_rfl
@[simp] theorem fieldT_210_1 : fieldT Tryz.prog 210 1 = some (208, 1) := by kernel_rfl
@[simp] theorem fieldT_210_2 : fieldT Tryz.prog 210 2 = some (208, 2) := by kernel_rfl
@[simp] theorem zeroT_210 : zeroT Tryz.prog 210 = some [.int .u16 0, .int .u16 0, .int .u16 0] := by kernel_rfl
@[simp] theorem szOf_213 : szOf Tryz.prog 213 = some 3 := by kernel_rfl
@[simp] theorem aggT_213 : aggT Tryz.prog 213 = some true := by kernel_rfl
@[simp] theorem strT_213 : strT Tryz.prog 213 = false := by kernel_rfl
@[simp] theorem boolT_213 : boolT Tryz.prog 213 = false := by kernel_rfl
@[simp] theorem elemT_213 : elemT Tryz.prog 213 = none := by kernel_rfl
@[simp] theorem rowT_213 : rowT Tryz.prog 213 = none := by kernel_rfl
@[simp] theorem eqT_213 : eqT Tryz.prog 213 = some 3 := by kernel_rfl
@[simp] theorem structT_213 : structT Tryz.prog 213 = some [(0, 1), (1, 1), (2, 1)] := by kernel_rfl
@[simp] theorem fieldT_213_0 : fieldT Tryz.prog 213 0 = some (173, 0) := by kernel_rfl
@[simp] theorem fieldT_213_1 : fieldT Tryz.prog 213 1 = some (173, 1) := by kernel_rfl
@[simp] theorem fieldT_213_2 : fieldT Tryz.prog 213 2 = some (173, 2) := by kernel_rfl
@[simp] theorem zeroT_213 : zeroT Tryz.prog 213 = some [.int .u32 0, .int .u32 0, .int .u32 0] := by kernel_rfl
@[simp] theorem szOf_224 : szOf Tryz.prog 224 = some 1 := by kernel_rfl
@[simp] theorem aggT_224 : aggT Tryz.prog 224 = some false := by kernel_rfl
@[simp] theorem strT_224 : strT Tryz.prog 224 = false := by kernel_rfl
@[simp] theorem boolT_224 : boolT Tryz.prog 224 = false := by kernel_rfl
@[simp] theorem elemT_224 : elemT Tryz.prog 224 = none := by kernel_rfl
@[simp] theorem rowT_224 : rowT Tryz.prog 224 = none := by kernel_rfl
@[simp] theorem zeroT_224 : zeroT Tryz.prog 224 = some [.pointer none] := by kernel_rfl
@[simp] theorem szOf_225 : szOf Tryz.prog 225 = some 1 := by kernel_rfl
@[simp] theorem aggT_225 : aggT Tryz.prog 225 = some false := by kernel_rfl
@[simp] theorem strT_225 : strT Tryz.prog 225 = false := by kernel_rfl
@[simp] theorem boolT_225 : boolT Tryz.prog 225 = false := by kernel_rfl
@[simp] theorem elemT_225 : elemT Tryz.prog 225 = none := by kernel_rfl
@[simp] theorem rowT_225 : rowT Tryz.prog 225 = none := by kernel_rfl
@[simp] theorem zeroT_225 : zeroT Tryz.prog 225 = some [.pointer none] := by kernel_rfl
@[simp] theorem szOf_231 : szOf Tryz.prog 231 = some 24 := by kernel_rfl
@[simp] theorem aggT_231 : aggT Tryz.prog 231 = some true := by kernel_rfl
@[simp] theorem strT_231 : strT Tryz.prog 231 = false := by kernel_rfl
@[simp] theorem boolT_231 : boolT Tryz.prog 231 = false := by kernel_rfl
@[simp] theorem elemT_231 : elemT Tryz.prog 231 = none := by kernel_rfl
@[simp] theorem rowT_231 : rowT Tryz.prog 231 = none := by kernel_rfl
@[simp] theorem arrT_231 : arrT Tryz.prog 231 = some (24, 5) := by kernel_rfl
@[simp] theorem zeroT_231 : zeroT Tryz.prog 231 = some [.int .u8 0, .int .u8 0, .int .u8 0, .int .u8 0, .int .u8 0, .int .u8 0, .int .u8 0, .int .u8 0, .int .u8 0, .int .u8 0, .int .u8 0, .int .u8 0, .int .u8 0, .int .u8 0, .int .u8 0, .int .u8 0, .int .u8 0, .int .u8 0, .int .u8 0, .int .u8 0, .int .u8 0, .int .u8 0, .int .u8 0, .int .u8 0] := by kernel_rfl
@[simp] theorem szOf_237 : szOf Tryz.prog 237 = some 20 := by kernel_rfl
@[simp] theorem aggT_237 : aggT Tryz.prog 237 = some true := by kernel_rfl
@[simp] theorem strT_237 : strT Tryz.prog 237 = false := by kernel_rfl
@[simp] theorem boolT_237 : boolT Tryz.prog 237 = false := by kernel_rfl
@[simp] theorem elemT_237 : elemT Tryz.prog 237 = none := by kernel_rfl
@[simp] theorem rowT_237 : rowT Tryz.prog 237 = none := by kernel_rfl
@[simp] theorem arrT_237 : arrT Tryz.prog 237 = some (20, 175) := by kernel_rfl
@[simp] theorem zeroT_237 : zeroT Tryz.prog 237 = some [.int .u64 0, .int .u64 0, .int .u64 0, .int .u64 0, .int .u64 0, .int .u64 0, .int .u64 0, .int .u64 0, .int .u64 0, .int .u64 0, .int .u64 0, .int .u64 0, .int .u64 0, .int .u64 0, .int .u64 0, .int .u64 0, .int .u64 0, .int .u64 0, .int .u64 0, .int .u64 0] := by kernel_rfl
@[simp] theorem szOf_238 : szOf Tryz.prog 238 = some 65 := by kernel_rfl
@[simp] theorem aggT_238 : aggT Tryz.prog 238 = some true := by kernel_rfl
@[simp] theorem strT_238 : strT Tryz.prog 238 = false := by kernel_rfl
@[simp] theorem boolT_238 : boolT Tryz.prog 238 = false := by kernel_rfl
@[simp] theorem elemT_238 : elemT Tryz.prog 238 = none := by kernel_rfl
@[simp] theorem rowT_238 : rowT Tryz.prog 238 = none := by kernel_rfl
@[simp] theorem arrT_238 : arrT Tryz.prog 238 = some (65, 5) := by kernel_rfl
@[simp] theorem zeroT_238 : zeroT Tryz.prog 238 = some [.int .u8 0, .int .u8 0, .int .u8 0, .int .u8 0, .int .u8 0, .int .u8 0, .int .u8 0, .int .u8 0, .int .u8 0, .int .u8 0, .int .u8 0, .int .u8 0, .int .u8 0, .int .u8 0, .int .u8 0, .int .u8 0, .int .u8 0, .int .u8 0, .int .u8 0, .int .u8 0, .int .u8 0, .int .u8 0, .int .u8 0, .int .u8 0, .int .u8 0, .int .u8 0, .int .u8 0, .int .u8 0, .int .u8 0, .int .u8 0, .int .u8 0, .int .u8 0, .int .u8 0, .int .u8 0, .int .u8 0, .int .u8 0, .int .u8 0, .int .u8 0, .int .u8 0, .int .u8 0, .int .u8 0, .int .u8 0, .int .u8 0, .int .u8 0, .int .u8 0, .int .u8 0, .int .u8 0, .int .u8 0, .int .u8 0, .int .u8 0, .int .u8 0, .int .u8 0, .int .u8 0, .int .u8 0, .int .u8 0, .int .u8 0, .int .u8 0, .int .u8 0, .int .u8 0, .int .u8 0, .int .u8 0, .int .u8 0, .int .u8 0, .int .u8 0, .int .u8 0] := by kernel_rfl
@[simp] theorem szOf_239 : szOf Tryz.prog 239 = some 32 := by kernel_rfl
@[simp] theorem aggT_239 : aggT Tryz.prog 239 = some true := by kernel_rfl
@[simp] theorem strT_239 : strT Tryz.prog 239 = false := by kernel_rfl
@[simp] theorem boolT_239 : boolT Tryz.prog 239 = false := by kernel_rfl
@[simp] theorem elemT_239 : elemT Tryz.prog 239 = none := by kernel_rfl
@[simp] theorem rowT_239 : rowT Tryz.prog 239 = none := by kernel_rfl
@[simp] theorem arrT_239 : arrT Tryz.prog 239 = some (32, 5) := by kernel_rfl
@[simp] theorem zeroT_239 : zeroT Tryz.prog 239 = some [.int .u8 0, .int .u8 0, .int .u8 0, .int .u8 0, .int .u8 0, .int .u8 0, .int .u8 0, .int .u8 0, .int .u8 0, .int .u8 0, .int .u8 0, .int .u8 0, .int .u8 0, .int .u8 0, .int .u8 0, .int .u8 0, .int .u8 0, .int .u8 0, .int .u8 0, .int .u8 0, .int .u8 0, .int .u8 0, .int .u8 0, .int .u8 0, .int .u8 0, .int .u8 0, .int .u8 0, .int .u8 0, .int .u8 0, .int .u8 0, .int .u8 0, .int .u8 0] := by kernel_rfl
@[simp] theorem szOf_240 : szOf Tryz.prog 240 = some 64 := by kernel_rfl
@[simp] theorem aggT_240 : aggT Tryz.prog 240 = some true := by kernel_rfl
@[simp] theorem strT_240 : strT Tryz.prog 240 = false := by kernel_rfl
@[simp] theorem boolT_240 : boolT Tryz.prog 240 = false := by kernel_rfl
@[simp] theorem elemT_240 : elemT Tryz.prog 240 = none := by kernel_rfl
@[simp] theorem rowT_240 : rowT Tryz.prog 240 = none := by kernel_rfl
@[simp] theorem arrT_240 : arrT Tryz.prog 240 = some (64, 5) := by kernel_rfl
@[simp] theorem zeroT_240 : zeroT Tryz.prog 240 = some [.int .u8 0, .int .u8 0, .int .u8 0, .int .u8 0, .int .u8 0, .int .u8 0, .int .u8 0, .int .u8 0, .int .u8 0, .int .u8 0, .int .u8 0, .int .u8 0, .int .u8 0, .int .u8 0, .int .u8 0, .int .u8 0, .int .u8 0, .int .u8 0, .int .u8 0, .int .u8 0, .int .u8 0, .int .u8 0, .int .u8 0, .int .u8 0, .int .u8 0, .int .u8 0, .int .u8 0, .int .u8 0, .int .u8 0, .int .u8 0, .int .u8 0, .int .u8 0, .int .u8 0, .int .u8 0, .int .u8 0, .int .u8 0, .int .u8 0, .int .u8 0, .int .u8 0, .int .u8 0, .int .u8 0, .int .u8 0, .int .u8 0, .int .u8 0, .int .u8 0, .int .u8 0, .int .u8 0, .int .u8 0, .int .u8 0, .int .u8 0, .int .u8 0, .int .u8 0, .int .u8 0, .int .u8 0, .int .u8 0, .int .u8 0, .int .u8 0, .int .u8 0, .int .u8 0, .int .u8 0, .int .u8 0, .int .u8 0, .int .u8 0, .int .u8 0] := by kernel_rfl
@[simp] theorem szOf_254 : szOf Tryz.prog 254 = some 3 := by kernel_rfl
@[simp] theorem aggT_254 : aggT Tryz.prog 254 = some true := by kernel_rfl
@[simp] theorem strT_254 : strT Tryz.prog 254 = false := by kernel_rfl
@[simp] theorem boolT_254 : boolT Tryz.prog 254 = false := by kernel_rfl
@[simp] theorem elemT_254 : elemT Tryz.prog 254 = none := by kernel_rfl
@[simp] theorem rowT_254 : rowT Tryz.prog 254 = none := by kernel_rfl
@[simp] theorem eqT_254 : eqT Tryz.prog 254 = some 3 := by kernel_rfl
@[simp] theorem structT_254 : structT Tryz.prog 254 = some [(0, 1), (1, 1), (2, 1)] := by kernel_rfl
@[simp] theorem fieldT_254_0 : fieldT Tryz.prog 254 0 = some (3, 0) := by kernel_rfl
@[simp] theorem fieldT_254_1 : fieldT Tryz.prog 254 1 = some (3, 1) := by kernel_rfl
@[simp] theorem fieldT_254_2 : fieldT Tryz.prog 254 2 = some (3, 2) := by kernel_rfl
@[simp] theorem zeroT_254 : zeroT Tryz.prog 254 = some [.int .i64 0, .int .i64 0, .int .i64 0] := by kernel_rfl
@[simp] theorem szOf_256 : szOf Tryz.prog 256 = some 2 := by kernel_rfl
@[simp] theorem aggT_256 : aggT Tryz.prog 256 = some true := by kernel_rfl
@[simp] theorem strT_256 : strT Tryz.prog 256 = false := by kernel_rfl
@[simp] theorem boolT_256 : boolT Tryz.prog 256 = false := by kernel_rfl
@[simp] theorem elemT_256 : elemT Tryz.prog 256 = none := by kernel_rfl
@[simp] theorem rowT_256 : rowT Tryz.prog 256 = none := by kernel_rfl
@[simp] theorem eqT_256 : eqT Tryz.prog 256 = some 2 := by kernel_rfl
@[simp] theorem structT_256 : structT Tryz.prog 256 = some [(0, 1), (1, 1)] := by kernel_rfl
@[simp] theorem fieldT_256_0 : fieldT Tryz.prog 256 0 = some (3, 0) := by kernel_rfl
@[simp] theorem fieldT_256_1 : fieldT Tryz.prog 256 1 = some (3, 1) := by kernel_rfl
@[simp] theorem zeroT_256 : zeroT Tryz.prog 256 = some [.int .i64 0, .int .i64 0] := by kernel_rfl
@[simp] theorem szOf_258 : szOf Tryz.prog 258 = some 4 := by kernel_rfl
@[simp] theorem aggT_258 : aggT Tryz.prog 258 = some true := by kernel_rfl
@[simp] theorem strT_258 : strT Tryz.prog 258 = false := by kernel_rfl
@[simp] theorem boolT_258 : boolT Tryz.prog 258 = false := by kernel_rfl
@[simp] theorem elemT_258 : elemT Tryz.prog 258 = none := by kernel_rfl
@[simp] theorem rowT_258 : rowT Tryz.prog 258 = none := by kernel_rfl
@[simp] theorem structT_258 : structT Tryz.prog 258 = some [(0, 1), (1, 1), (2, 2)] := by kernel_rfl
@[simp] theorem fieldT_258_0 : fieldT Tryz.prog 258 0 = some (3, 0) := by kernel_rfl
@[simp] theorem fieldT_258_1 : fieldT Tryz.prog 258 1 = some (3, 1) := by kernel_rfl
@[simp] theorem fieldT_258_2 : fieldT Tryz.prog 258 2 = some (256, 2) := by kernel_rfl
@[simp] theorem zeroT_258 : zeroT Tryz.prog 258 = some [.int .i64 0, .int .i64 0, .int .i64 0, .int .i64 0] := by kernel_rfl
@[simp] theorem szOf_260 : szOf Tryz.prog 260 = some 5 := by kernel_rfl
@[simp] theorem aggT_260 : aggT Tryz.prog 260 = some true := by kernel_rfl
@[simp] theorem strT_260 : strT Tryz.prog 260 = false := by kernel_rfl
@[simp] theorem boolT_260 : boolT Tryz.prog 260 = false := by kernel_rfl
@[simp] theorem elemT_260 : elemT Tryz.prog 260 = none := by kernel_rfl
@[simp] theorem rowT_260 : rowT Tryz.prog 260 = none := by kernel_rfl
@[simp] theorem structT_260 : structT Tryz.prog 260 = some [(0, 1), (1, 2), (3, 2)] := by kernel_rfl
@[simp] theorem fieldT_260_0 : fieldT Tryz.prog 260 0 = some (3, 0) := by kernel_rfl
@[simp] theorem fieldT_260_1 : fieldT Tryz.prog 260 1 = some (256, 1) := by kernel_rfl
@[simp] theorem fieldT_260_2 : fieldT Tryz.prog 260 2 = some (256, 3) := by kernel_rfl
@[simp] theorem zeroT_260 : zeroT Tryz.prog 260 = some [.int .i64 0, .int .i64 0, .int .i64 0, .int .i64 0, .int .i64 0] := by kernel_rfl
end Go.AM
namespace Go.AM
open Go Go.Proofs
class Nrm (l : List CI) (l' : outParam (List CI)) : Prop where
  h : ∀ {P : Program} {cx : Cx} {nt0 : Nat} {K : Exit → AState → Prop} {S : AState}, AL P cx nt0 K l' S → AL P cx nt0 K l S
instance (priority := low) Nrm.base {l : List CI} : Nrm l l := ⟨id⟩
instance Nrm.seq {a b : Code} {r l' : List CI} [h : Nrm (.c a :: .c b :: r) l'] : Nrm (.c (.seq a b) :: r) l' := ⟨fun x => AL.seq (h.h x)⟩
instance Nrm.block {id : Nat} {c : Code} {r l' : List CI} [h : Nrm (.c c :: .blk id :: r) l'] : Nrm (.c (.block id c) :: r) l' := ⟨fun x => AL.block (h.h x)⟩
instance Nrm.skip {r l' : List CI} [h : Nrm r l'] : Nrm (.c .skip :: r) l' := ⟨fun x => AL.skip (h.h x)⟩
instance Nrm.blk {id : Nat} {r l' : List CI} [h : Nrm r l'] : Nrm (.blk id :: r) l' := ⟨fun x => AL.blk (h.h x)⟩
section
variable {P : Program} {cx : Cx} {nt0 : Nat} {K : Exit → AState → Prop} {S : AState} {l l' r : List CI}
theorem sN [h : Nrm l l'] (k : AL P cx nt0 K l' S) : AL P cx nt0 K l S := h.h k
theorem sR {id : Nat} {ops : Array Oper} {draw : Bool} [h : Nrm l (.c (.region id ops draw) :: r)] (k : FReg Tryz.prog cx ops draw (AL Tryz.prog cx nt0 K r) S) (hnb : cx.base + cx.n ≤ cx.nb := by exact Nat.le_refl _) (hok : regionOk cx.n ops draw = true := by kernel_rfl) : AL Tryz.prog cx nt0 K l S :=
  h.h (AL.region follows_Tryz hnb hok k)
theorem sC {x : Operand} {a b : Code} [h : Nrm l (.c (.cond x a b) :: r)] (k : FCond P cx nt0 K r a b S (S.ev x)) : AL P cx nt0 K l S := h.h (AL.cond k)
theorem sT [h : Nrm l (.c .ret :: r)] (k : K .ret S) : AL P cx nt0 K l S := h.h (AL.ret k)
theorem sE [h : Nrm l []] (k : K .normal S) : AL P cx nt0 K l S := h.h (AL.nil k)
theorem sX {id : Nat} [h : Nrm l (.c (.exit id) :: r)] (k : AU P cx nt0 K r (.exit id) S) : AL P cx nt0 K l S := h.h (AL.exit k)
theorem sF {nt : Nat} {rs : List ResultVar} {l : List (Nat × AV)} {out : Nat → Option (List (List AV))} {loc : List (Nat × List (List AV))} {tok mtok : Nat → Bool} {vs : List AV} {av : AV}
    (hbox : lb cx.base out [] = out) (hm : ∀ t, mtok t = true → t < nt0) (htok : ∀ t, mtok t = true → tok t = true) (hnt : nt0 ≤ nt)
    (hto : To (fun k => lb cx.base out [] k ≠ none) (fun t => nt0 = nt ∨ t < nt0) none (packA vs) av) (hres : resAs P ⟨tl l, lb cx.base out loc, tok, nt⟩ rs = some vs := by (simp [resAs, resA]; rfl)) (ho : out = cx.B0 := by rfl) : Fin P cx nt0 rs (fun v' m' => v' = av ∧ m' = ⟨out, cx.base, mtok, nt0⟩) ⟨tl l, lb cx.base out loc, tok, nt⟩ :=
  Fin.data hres hbox ho hm htok hnt hto
end
theorem sW {i : Nat} (h : i < 9223372036854775807) : IntKind.i64.wrap (↑i + 1) = ((i + 1 : Nat) : Int) := by rw [wrap_in (by omega) (by omega)]; rfl
theorem sB {f : FuncId} {fn : Func} {c : Code} {args : List AV} {m : AMem} {Q : AV → AMem → Prop} {k : Nat} (hfn : Tryz.prog.funcs[f]? = some fn) (hk : fn.ntmps = k)
    (h : lb m.nb m.box [] = m.box → (∀ t, m.tok t = true → t < m.nt) → AT Tryz.prog ⟨m.nb, m.nb + fn.ntmps, fn.ntmps, m.box⟩ m.nt c ⟨tl (tlArgs 0 args), lb m.nb m.box [], m.tok, m.nt⟩
      fun e S => (e = .normal ∨ e = .ret) ∧ Fin Tryz.prog ⟨m.nb, m.nb + fn.ntmps, fn.ntmps, m.box⟩ m.nt fn.results.toList Q S)
    (hb : fn.body = some c := by rfl) (hname : (fn.name == "runtime.NumGoroutine") = false := by kernel_rfl) (hl : args.length ≤ k := by simp) : ACalls Tryz.prog f args m Q :=
  ACalls.of_body hfn hb hname follows_Tryz rfl (hk ▸ hl) h
end Go.AM
namespace Go.AM
open Go Go.Proofs
def anyB {α : Type} (p : α → Bool) (xs : List α) : Bool := xs.any p
theorem any_takeG {α : Type} {p : α → Bool} {xs : List α} {i : Nat} (h : i < xs.length) (h1 : ∀ x ∈ xs.take i, p x = false) (h2 : p xs[i] = true) : anyB p xs = true ∧ xs.findIdx p = i := by
  refine ⟨List.any_eq_true.2 ⟨_, List.getElem_mem h, h2⟩, ?_⟩
  rw [List.findIdx_eq h]
  refine ⟨h2, fun j hj => ?_⟩
  have := h1 xs[j] (by
    rw [List.mem_take_iff_getElem]
    exact ⟨j, by omega, rfl⟩)
  simpa using this
theorem upd_upd {α : Type} (f : Nat → α) (k : Nat) (x y : α) : upd (upd f k x) k y = upd f k y := by
  funext j
  simp only [upd]
  split <;> rfl
theorem beqD (x y : Int) : (x == y) = decide (x = y) := by by_cases h : x = y <;> simp [h]
theorem outG {rows0 : List (List AV)} {box : Nat → Option (List (List AV))} {k base : Nat} {p q : Nat → Prop} (h0 : ∀ r ∈ rows0, ∀ x ∈ r, OkIn p q x) : ∀ k' rows, k' < base → (upd box k (some rows0)) k' = some rows → box k' = some rows ∨ ∀ r ∈ rows, ∀ x ∈ r, OkIn p q x := by
  intro k' rows hk' hr
  by_cases e : k' = k
  · subst e
    rw [upd_same] at hr
    cases hr
    exact .inr h0
  · rw [upd_other _ _ e] at hr
    exact .inl hr
abbrev nilS : AV := .osl 0 [] .full
structure Acc where
  i : Nat
  own : Own
  tok : Nat → Bool
  nt : Nat
abbrev u8 (n : Int) : D := .raw (.int .u8 n)
abbrev bytes (l : List Int) : D := .sl 1 (l.map fun n => [u8 n])
theorem wrapU8 {n : Int} (h0 : 0 ≤ n) (h1 : n < 256) : IntKind.u8.wrap n = n := IntWalk.u8_in n ⟨h0, by omega⟩
theorem AL.cut_aux {P : Program} {cx : Cx} {nt0 : Nat} {K K' : Exit → AState → Prop} {R : List CI} (hn : ∀ S, K' .normal S → AL P cx nt0 K R S) (he : ∀ e S, e ≠ .normal → K' e S → AU P cx nt0 K R e S) :
    ∀ l : List CI, (∀ S, AL P cx nt0 K' l S → AL P cx nt0 K (l ++ R) S) ∧ ∀ e S, e ≠ .normal → AU P cx nt0 K' l e S → AU P cx nt0 K (l ++ R) e S
  | [] => ⟨fun S h => hn S (by simpa only [AL] using h), fun e S h1 h => he e S h1 (by simpa only [AU] using h)⟩
  | .c c :: l => by
    obtain ⟨i1, i2⟩ := AL.cut_aux hn he l
    refine ⟨fun S h => ?_, fun e S h1 h => ?_⟩
    · simp only [AL, List.cons_append] at h ⊢
      refine h.mono fun e S' h => ?_
      cases e with
      | normal => exact i1 S' h
      | _ => exact i2 _ _ (by simp) h
    · simp only [AU, List.cons_append] at h ⊢
      exact i2 e S h1 h
  | .blk id :: l => by
    obtain ⟨i1, i2⟩ := AL.cut_aux hn he l
    refine ⟨fun S h => ?_, fun e S h1 h => ?_⟩
    · simp only [AL, List.cons_append] at h ⊢
      exact i1 S h
    · cases e with
      | normal => exact absurd rfl h1
      | exit j =>
        simp only [AU, List.cons_append] at h ⊢
        split
        · rename_i hj
          rw [if_pos hj] at h
          exact i1 S h
        · rename_i hj
          rw [if_neg hj] at h
          exact i2 _ S h1 h
      | _ =>
        simp only [AU, List.cons_append] at h ⊢
        exact i2 _ S h1 h
theorem AL.cut {P : Program} {cx : Cx} {nt0 : Nat} {K : Exit → AState → Prop} {l r : List CI} {S : AState} {y : Code} {α : Type} (T : α → AState) (inv : α → Prop)
    (h1 : AL P cx nt0 (fun e S' => match e with
      | .normal => ∃ a, inv a ∧ Weaks cx nt0 S' (T a)
      | e => AU P cx nt0 K (.c y :: r) e S') l S) (h2 : ∀ a, inv a → AL P cx nt0 K (.c y :: r) (T a)) : AL P cx nt0 K (l ++ .c y :: r) S := by
  refine (AL.cut_aux ?_ ?_ l).1 S h1
  · rintro S ⟨a, ha, hw⟩
    exact AL.weak hw (h2 a ha)
  · intro e S hne h
    cases e with
    | normal => exact absurd rfl hne
    | _ => exact h
theorem AL.cutP {P : Program} {cx : Cx} {nt0 : Nat} {K : Exit → AState → Prop} {l r : List CI} {S : AState} {y : Code} (T : AState) (p : Prop)
    (h1 : AL P cx nt0 (fun e S' => match e with
      | .normal => p ∧ Weaks cx nt0 S' T
      | e => AU P cx nt0 K (.c y :: r) e S') l S) (h2 : p → AL P cx nt0 K (.c y :: r) T) : AL P cx nt0 K (l ++ .c y :: r) S := by
  refine (AL.cut_aux ?_ ?_ l).1 S h1
  · rintro S ⟨ha, hw⟩
    exact AL.weak hw (h2 ha)
  · intro e S hne h
    cases e with
    | normal => exact absurd rfl hne
    | _ => exact h
end Go.AM
namespace Go.AM
open Go Go.Proofs
abbrev Ub (n : Int) : AV := .d (.raw (.int .u8 n))
abbrev Sb (s : ByteArray) : AV := .d (.raw (.string s))
def letB (c : Int) : Bool := decide (97 ≤ c ∧ c ≤ 122 ∨ 65 ≤ c ∧ c ≤ 90)
def digB (c : Int) : Bool := decide (48 ≤ c ∧ c ≤ 57)
def parB (c : Int) : Bool := letB c || digB c || c == 95
def byteAt (s : ByteArray) (i : Nat) : Int := (s.data.toList.getD i 0).toNat
theorem letter_c (c : Int) (tok : Nat → Bool) (nt : Nat) : DCall Tryz.prog 119 [Ub c] tok nt (B (letB c)) tok nt := by
  intro box nb
  by_cases h1 : 97 ≤ c
  · by_cases h2 : c ≤ 122
    · refine sB Tryz.func119 Tryz.ntmps119 ?_
      intro hbox htok
      simp only at hbox htok
      apply AL.start
      try (simp [h1, h2])
      repeat (refine sR ?_; simp [h1, h2])
      refine sT ?_
      try simp only [AU]
      refine ⟨by simp, sF hbox htok (fun _ h => h) (Nat.le_refl _) ?_⟩
      simp [packA, letB, h1, h2]
    · have h3 : ¬ c ≤ 90 := by omega
      have h4 : 65 ≤ c := by omega
      refine sB Tryz.func119 Tryz.ntmps119 ?_
      intro hbox htok
      simp only at hbox htok
      apply AL.start
      try (simp [h1, h2, h3, h4])
      repeat (refine sR ?_; simp [h1, h2, h3, h4])
      refine sT ?_
      try simp only [AU]
      refine ⟨by simp, sF hbox htok (fun _ h => h) (Nat.le_refl _) ?_⟩
      simp [packA, letB, h1, h2, h3, h4]
  · by_cases h3 : 65 ≤ c
    · by_cases h4 : c ≤ 90
      · refine sB Tryz.func119 Tryz.ntmps119 ?_
        intro hbox htok
        simp only at hbox htok
        apply AL.start
        try (simp [h1, h3, h4])
        repeat (refine sR ?_; simp [h1, h3, h4])
        refine sT ?_
        try simp only [AU]
        refine ⟨by simp, sF hbox htok (fun _ h => h) (Nat.le_refl _) ?_⟩
        simp [packA, letB, h1, h3, h4]
      · refine sB Tryz.func119 Tryz.ntmps119 ?_
        intro hbox htok
        simp only at hbox htok
        apply AL.start
        try (simp [h1, h3, h4])
        repeat (refine sR ?_; simp [h1, h3, h4])
        refine sT ?_
        try simp only [AU]
        refine ⟨by simp, sF hbox htok (fun _ h => h) (Nat.le_refl _) ?_⟩
        simp [packA, letB, h1, h3, h4]
    · refine sB Tryz.func119 Tryz.ntmps119 ?_
      intro hbox htok
      simp only at hbox htok
      apply AL.start
      try (simp [h1, h3])
      repeat (refine sR ?_; simp [h1, h3])
      refine sT ?_
      try simp only [AU]
      refine ⟨by simp, sF hbox htok (fun _ h => h) (Nat.le_refl _) ?_⟩
      simp [packA, letB, h1, h3]
theorem digit_c (c : Int) (tok : Nat → Bool) (nt : Nat) : DCall Tryz.prog 121 [Ub c] tok nt (B (digB c)) tok nt := by
  intro box nb
  by_cases h1 : 48 ≤ c
  · by_cases h2 : c ≤ 57
    · refine sB Tryz.func121 Tryz.ntmps121 ?_
      intro hbox htok
      simp only at hbox htok
      apply AL.start
      try (simp [h1, h2])
      repeat (refine sR ?_; simp [h1, h2])
      refine sT ?_
      try simp only [AU]
      refine ⟨by simp, sF hbox htok (fun _ h => h) (Nat.le_refl _) ?_⟩
      simp [packA, digB, h1, h2]
    · refine sB Tryz.func121 Tryz.ntmps121 ?_
      intro hbox htok
      simp only at hbox htok
      apply AL.start
      try (simp [h1, h2])
      repeat (refine sR ?_; simp [h1, h2])
      refine sT ?_
      try simp only [AU]
      refine ⟨by simp, sF hbox htok (fun _ h => h) (Nat.le_refl _) ?_⟩
      simp [packA, digB, h1, h2]
  · refine sB Tryz.func121 Tryz.ntmps121 ?_
    intro hbox htok
    simp only at hbox htok
    apply AL.start
    try (simp [h1])
    repeat (refine sR ?_; simp [h1])
    refine sT ?_
    try simp only [AU]
    refine ⟨by simp, sF hbox htok (fun _ h => h) (Nat.le_refl _) ?_⟩
    simp [packA, digB, h1]
theorem part_c1 (c : Int) (tok : Nat → Bool) (nt : Nat) : DCall Tryz.prog 120 [Ub c] tok nt (B (parB c)) tok nt := by
  intro box nb
  have h1 := letter_c c
  have h2 := digit_c c
  cases e1 : letB c
  · cases e2 : digB c
    · rw [e1] at h1
      rw [e2] at h2
      refine sB Tryz.func120 Tryz.ntmps120 ?_
      intro hbox htok
      simp only at hbox htok
      apply AL.start
      try (simp)
      repeat (refine sR ?_; simp)
      refine Stop.of_d (h1 _ _) ?_
      simp
      try (simp)
      repeat (refine sR ?_; simp)
      refine Stop.of_d (h2 _ _) ?_
      simp
      try (simp)
      repeat (refine sR ?_; simp)
      refine sT ?_
      try simp only [AU]
      refine ⟨by simp, sF hbox htok (fun _ h => h) (Nat.le_refl _) ?_⟩
      simp [packA, parB, e1, e2]
    · rw [e1] at h1
      rw [e2] at h2
      refine sB Tryz.func120 Tryz.ntmps120 ?_
      intro hbox htok
      simp only at hbox htok
      apply AL.start
      try (simp)
      repeat (refine sR ?_; simp)
      refine Stop.of_d (h1 _ _) ?_
      simp
      try (simp)
      repeat (refine sR ?_; simp)
      refine Stop.of_d (h2 _ _) ?_
      simp
      try (simp)
      repeat (refine sR ?_; simp)
      refine sT ?_
      try simp only [AU]
      refine ⟨by simp, sF hbox htok (fun _ h => h) (Nat.le_refl _) ?_⟩
      simp [packA, parB, e1, e2]
  · rw [e1] at h1
    refine sB Tryz.func120 Tryz.ntmps120 ?_
    intro hbox htok
    simp only at hbox htok
    apply AL.start
    try (simp)
    repeat (refine sR ?_; simp)
    refine Stop.of_d (h1 _ _) ?_
    simp
    try (simp)
    repeat (refine sR ?_; simp)
    refine sT ?_
    try simp only [AU]
    refine ⟨by simp, sF hbox htok (fun _ h => h) (Nat.le_refl _) ?_⟩
    simp [packA, parB, e1]
def runN (p : Int → Bool) (s : ByteArray) (at' : Nat) : Nat := ((s.data.toList.drop at').takeWhile fun b => p (b.toNat : Int)).length
theorem takeW_len {α : Type} (q : α → Bool) (d : α) : ∀ (l : List α) (i : Nat), i ≤ l.length → (∀ j, j < i → q (l.getD j d) = true) → (i = l.length ∨ q (l.getD i d) = false) → (l.takeWhile q).length = i
  | [], i, hi, _, _ => by simp at hi; subst hi; rfl
  | x :: l, 0, _, _, h => by
    have h2 : q x = false := by simpa using h
    simp [List.takeWhile_cons, h2]
  | x :: l, i + 1, hi, h1, h2 => by
    have hx : q x = true := by simpa using h1 0 (by omega)
    have ih := takeW_len q d l i (by simpa using hi) (fun j hj => by simpa using h1 (j + 1) (by omega)) (by simpa using h2)
    simp [List.takeWhile_cons, hx, ih]
theorem size_toList (s : ByteArray) : s.data.toList.length = s.size := by rw [Array.length_toList]; rfl
theorem byteAt_lt {s : ByteArray} {i : Nat} (h : i < s.size) : (s.data[i].toNat : Int) = byteAt s i := by
  have h2 : i < s.data.toList.length := by rw [size_toList]; exact h
  rw [byteAt, List.getD_eq_getElem?_getD, List.getElem?_eq_getElem h2, Option.getD_some, Array.getElem_toList]
theorem runN_eq {p : Int → Bool} {s : ByteArray} {a i : Nat} (hi : a + i ≤ s.size) (h1 : ∀ j, j < i → p (byteAt s (a + j)) = true) (h2 : a + i = s.size ∨ p (byteAt s (a + i)) = false) : runN p s a = i := by
  have hl := size_toList s
  have g : ∀ j, (s.data.toList.drop a).getD j 0 = s.data.toList.getD (a + j) 0 := fun j => by simp [List.getD_eq_getElem?_getD, List.getElem?_drop]
  refine takeW_len _ 0 _ i (by rw [List.length_drop]; omega) (fun j hj => ?_) ?_
  · rw [g]; exact h1 j hj
  · rcases h2 with h2 | h2
    · left; rw [List.length_drop]; omega
    · right; rw [g]; exact h2
def stRu (s : ByteArray) (f : FuncId) (nb : Nat) (box : Nat → Option (List (List AV))) (tok : Nat → Bool) (nt : Nat) (i : Nat) : AState := ⟨tl [(0, Sb s), (1, .fn (.func f) []), (5, I i)], lb nb box [], tok, nt⟩
theorem run_c (s : ByteArray) (f : FuncId) (p : Int → Bool) (hs : s.size ≤ 200000000000000) (tok : Nat → Bool) (nt : Nat) (hf : ∀ c, DCall Tryz.prog f [Ub c] tok nt (B (p c)) tok nt) : DCall Tryz.prog 79 [Sb s, .fn (.func f) []] tok nt (I (runN p s 0)) tok nt := by
  intro box nb
  refine sB Tryz.func79 Tryz.ntmps79 ?_
  intro hbox htok
  simp only at hbox htok
  apply AL.start
  try (simp)
  repeat (refine sR ?_; simp)
  refine sN ?_
  have hc : ∀ c ∈ ([] : List AV), OkIn (fun k => box k ≠ none) (fun _ => True) c := by simp
  refine AL.loopT (stRu s f nb box tok nt) (fun i => i ≤ s.size ∧ ∀ j, j < i → p (byteAt s j) = true) (fun i => s.size - i) 0 ⟨Nat.zero_le _, by omega⟩ (Weaks.mk (Nat.le_refl _) rfl (by simp [ToL, lk]; exact .same (okFn hc hbox [] (by simp) rfl _)) trivial) ?_
  rintro i S' ⟨hi, hok⟩ hS
  simp only [stRu] at hS
  subst hS
  have hw := sW (i := i) (by omega)
  by_cases hlt : i < s.size
  · have hbb := byteAt_lt hlt
    have hr := runN_eq (p := p) (s := s) (a := 0) (i := i) (by omega) (fun j hj => by rw [Nat.zero_add]; exact hok j hj)
    rw [Nat.zero_add, ← hbb] at hr
    have hok2 : p (s.data[i].toNat) = true → ∀ j, j < i + 1 → p (byteAt s j) = true := fun h j hj => by
      by_cases e : j = i
      · rw [e, ← hbb]; exact h
      · exact hok j (by omega)
    try (simp [hlt])
    repeat (refine sR ?_; simp [hlt])
    refine Stop.of_d (hf _) ?_
    simp
    try (simp)
    repeat (refine sR ?_; simp)
    generalize (s.data[i].toNat : Int) = c at *
    cases e : p c
    · have hr := hr (.inr e)
      refine sC ?_
      simp
      refine sX ?_
      simp only [AU, ↓reduceIte]
      try (simp)
      repeat (refine sR ?_; simp)
      refine sT ?_
      try simp only [AU]
      refine ⟨by simp, sF hbox htok (fun _ h => h) (Nat.le_refl _) ?_⟩
      simp [packA, hr]
    · refine sC ?_
      simp
      try (simp [hw])
      repeat (refine sR ?_; simp [hw])
      refine sE ?_
      exact ⟨i + 1, ⟨hlt, hok2 e⟩, by omega, Weaks.mk (Nat.le_refl _) rfl (by simp [ToL, lk]; exact .same (okFn hc hbox [] (by simp) rfl _)) trivial⟩
  · have hie : i = s.size := by omega
    have hr := runN_eq (p := p) (s := s) (a := 0) (i := i) (by omega) (fun j hj => by rw [Nat.zero_add]; exact hok j hj) (.inl (by omega))
    try (simp [hlt])
    repeat (refine sR ?_; simp [hlt])
    refine sC ?_
    simp
    refine sX ?_
    simp only [AU, ↓reduceIte]
    try (simp)
    repeat (refine sR ?_; simp)
    refine sT ?_
    try simp only [AU]
    refine ⟨by simp, sF hbox htok (fun _ h => h) (Nat.le_refl _) ?_⟩
    simp [packA, hr]
end Go.AM
namespace Go.Proofs
open Go.Shelf
def Tryz.lays137_ren : Go.Shelf.Ren := ⟨fun | 137 => 124 | 217 => 154 | 266 => 162 | n => n, fun | 9 => 9 | 5 => 5 | 3 => 3 | n => n, fun | n => n⟩
theorem Tryz.lays137 : Go.Proofs.Lays.n137 Tryz.prog Tryz.lays137_ren := {
  mixed := by kernel_rfl
  f137 := Tryz.func124.trans (congrArg some (by kernel_rfl))
  f217 := Tryz.func154.trans (congrArg some (by kernel_rfl))
  f266 := Tryz.func162.trans (congrArg some (by kernel_rfl))
  t3 := Tryz.underlying3
  a3 := Tryz.isAgg3
  z3 := Tryz.sizeOf3
  v3 := Tryz.zeroValue3
  t5 := Tryz.underlying5
  a5 := Tryz.isAgg5
  z5 := Tryz.sizeOf5
  v5 := Tryz.zeroValue5
  t9 := Tryz.underlying9
  a9 := Tryz.isAgg9
  z9 := Tryz.sizeOf9
  v9 := Tryz.zeroValue9 }
open Go.RowKit in
theorem Tryz.strings_IndexByte (s : ByteArray) (c : Int) (w : World) :
    Calls Tryz.prog 124 #[.string s, .int .u8 c] w fun e w' => e = .returned (.int .i64 (Lib.indexByte s.data.toList c.toNat.toUInt8)) ∧ w' = w := Any.strings_IndexByte Tryz.lays137 s c w
def Tryz.lays99_ren : Go.Shelf.Ren := ⟨fun | 99 => 37 | 206 => 72 | n => n, fun | 9 => 9 | 4 => 4 | 3 => 3 | n => n, fun | n => n⟩
theorem Tryz.lays99 : Go.Proofs.Lays.n99 Tryz.prog Tryz.lays99_ren := {
  mixed := by kernel_rfl
  f99 := Tryz.func37.trans (congrArg some (by kernel_rfl))
  f206 := Tryz.func72.trans (congrArg some (by kernel_rfl))
  t3 := Tryz.underlying3
  a3 := Tryz.isAgg3
  z3 := Tryz.sizeOf3
  v3 := Tryz.zeroValue3
  t4 := Tryz.underlying4
  a4 := Tryz.isAgg4
  z4 := Tryz.sizeOf4
  v4 := Tryz.zeroValue4
  t9 := Tryz.underlying9
  a9 := Tryz.isAgg9
  z9 := Tryz.sizeOf9
  v9 := Tryz.zeroValue9 }
open Go.RowKit Go.Lib in
theorem Tryz.strings_HasPrefix (s p : ByteArray) (w : World) :
    Calls Tryz.prog 37 #[.string s, .string p] w fun e w' => e = .returned (.bool (Lib.hasPrefix s.data.toList p.data.toList)) ∧ w' = w := Any.strings_HasPrefix Tryz.lays99 s p w
end Go.Proofs
namespace Go.AM
open Go Go.Proofs Go.Shelf
theorem seq_iff {a b : ByteArray} : a.toList = b.toList ↔ a = b := ⟨fun h => by rw [ByteArray.toList_eq, ByteArray.toList_eq] at h; exact Go.WideShapes.bytes_inj h, fun h => by rw [h]⟩
theorem seq_dec (a b : ByteArray) : (a.toList == b.toList) = decide (a = b) := by rw [Bool.eq_iff_iff, beq_iff_eq, decide_eq_true_eq, seq_iff]
abbrev strs (l : List ByteArray) : D := .sl 1 (l.map fun s => [.raw (.string s)])
def memS (xs : List ByteArray) (v : ByteArray) : Bool := xs.any fun x => decide (v = x)
theorem memS_iff {xs : List ByteArray} {v : ByteArray} : memS xs v = true ↔ v ∈ xs := by simp [memS]
def indexB (xs : List ByteArray) (v : ByteArray) : Int := if memS xs v = true then (xs.findIdx (fun x => decide (v = x)) : Int) else -1
theorem indexB_nonneg (xs : List ByteArray) (v : ByteArray) : (0 ≤ indexB xs v) ↔ memS xs v = true := by
  unfold indexB
  split <;> simp [*]
def stIs (xs : List ByteArray) (v : ByteArray) (nb : Nat) (box : Nat → Option (List (List AV))) (tok : Nat → Bool) (nt : Nat) (i : Nat) : AState := ⟨tl [(0, .d (strs xs)), (1, Sb v), (7, I xs.length), (8, I i)], lb nb box [], tok, nt⟩
theorem strs_at {l : List ByteArray} {i : Nat} (h : i < l.length) : (l.map fun s => [D.raw (.string s)])[i]? = some [D.raw (.string l[i])] := by simp [h]
theorem indexS_c (xs : List ByteArray) (v : ByteArray) (hx : xs.length ≤ 1000000) (tok : Nat → Bool) (nt : Nat) : DCall Tryz.prog 97 [.d (strs xs), Sb v] tok nt (I (indexB xs v)) tok nt := by
  intro box nb
  refine sB Tryz.func97 Tryz.ntmps97 ?_
  intro hbox htok
  simp only at hbox htok
  apply AL.start
  try (simp)
  repeat (refine sR ?_; simp)
  refine sN ?_
  refine AL.loopT (stIs xs v nb box tok nt) (fun i => i ≤ xs.length ∧ v ∉ xs.take i) (fun i => xs.length - i) 0 ⟨Nat.zero_le _, by simp⟩ (Weaks.mk (Nat.le_refl _) rfl (by simp [ToL, lk]) trivial) ?_
  rintro i S' ⟨hi, htk⟩ hS
  simp only [stIs] at hS
  subst hS
  have hw := sW (i := i) (by omega)
  try (simp)
  repeat (refine sR ?_; simp)
  refine sC ?_
  simp
  refine ⟨fun hlt => ?_, fun hge => ?_⟩
  · have hsp : xs = xs.take i ++ xs[i] :: xs.drop (i + 1) := by simp
    by_cases he : v = xs[i]
    · have b : (v.toList == xs[i].toList) = true := by rw [seq_dec]; simpa using he
      have hmem : memS xs v = true := memS_iff.2 (by rw [he]; exact List.getElem_mem _)
      have hid : xs.findIdx (fun x => decide (v = x)) = i := by
        rw [List.findIdx_eq hlt]
        refine ⟨by simpa using he, fun j hj => ?_⟩
        have : ¬ v = xs[j] := fun e => htk (by rw [e, List.mem_take_iff_getElem]; exact ⟨j, by omega, rfl⟩)
        simpa using this
      try (simp [hlt, b])
      repeat (refine sR ?_; simp [hlt, b])
      refine sC ?_
      simp
      try (simp)
      repeat (refine sR ?_; simp)
      refine sT ?_
      try simp only [AU]
      refine ⟨by simp, sF hbox htok (fun _ h => h) (Nat.le_refl _) ?_⟩
      simp [packA, indexB, hmem, hid]
    · have b : (v.toList == xs[i].toList) = false := by rw [seq_dec]; simpa using he
      try (simp [hlt, b])
      repeat (refine sR ?_; simp [hlt, b])
      refine sC ?_
      simp
      try (simp [hw])
      repeat (refine sR ?_; simp [hw])
      refine sE ?_
      refine ⟨i + 1, ⟨hlt, ?_⟩, by omega, Weaks.mk (Nat.le_refl _) rfl (by simp [ToL, lk]) trivial⟩
      rw [List.take_succ_eq_append_getElem hlt]
      simp only [List.mem_append, List.mem_singleton, not_or]
      exact ⟨htk, he⟩
  · refine sX ?_
    simp only [AU, ↓reduceIte]
    try (simp)
    repeat (refine sR ?_; simp)
    have hn : memS xs v = false := by
      rw [List.take_of_length_le hge] at htk
      rw [← Bool.not_eq_true, memS_iff]; exact htk
    refine sT ?_
    try simp only [AU]
    refine ⟨by simp, sF hbox htok (fun _ h => h) (Nat.le_refl _) ?_⟩
    simp [packA, indexB, hn]
theorem containsS_c (xs : List ByteArray) (v : ByteArray) (hx : xs.length ≤ 1000000) (tok : Nat → Bool) (nt : Nat) : DCall Tryz.prog 64 [.d (strs xs), Sb v] tok nt (B (memS xs v)) tok nt := by
  intro box nb
  refine sB Tryz.func64 Tryz.ntmps64 ?_
  intro hbox htok
  simp only at hbox htok
  apply AL.start
  try (simp)
  repeat (refine sR ?_; simp)
  refine Stop.of_d (indexS_c xs v hx _ _) ?_
  simp
  try (simp)
  repeat (refine sR ?_; simp)
  refine sT ?_
  try simp only [AU]
  refine ⟨by simp, sF hbox htok (fun _ h => h) (Nat.le_refl _) ?_⟩
  simp [packA, indexB_nonneg]
theorem indexByte_c (s : ByteArray) (c : Int) (tok : Nat → Bool) (nt : Nat) : DCall Tryz.prog 124 [Sb s, Ub c] tok nt (I (Lib.indexByte s.data.toList c.toNat.toUInt8)) tok nt := by
  intro box nb
  refine ⟨Enters.mk Tryz.func124 rfl (by kernel_rfl), fun G w vals hm hr => ?_⟩
  obtain ⟨hlen, hrv⟩ := hr
  match vals, hlen with
  | [v, u], _ =>
    have h0 := hrv 0 (by simp) (by simp)
    have h1 := hrv 1 (by simp) (by simp)
    simp only [List.getElem_cons_zero, List.getElem_cons_succ] at h0 h1
    cases h0 with
    | d h0 =>
    cases h0 with
    | raw h0 =>
    cases h1 with
    | d h1 =>
    cases h1 with
    | raw h1 =>
      refine (Tryz.strings_IndexByte s c w).mono ?_
      rintro e w' ⟨rfl, rfl⟩
      exact ⟨_, _, _, G, rfl, ⟨rfl, rfl⟩, rfl, hm, .d (.raw rfl), Le.refl _ _, fun k hk => ⟨hk, rfl⟩⟩
def quoB (c : Int) : Bool := decide (32 ≤ c ∧ c ≤ 126) && c != 34
theorem quoted1_c (c : Int) (tok : Nat → Bool) (nt : Nat) : DCall Tryz.prog 153 [Ub c] tok nt (B (quoB c)) tok nt := by
  intro box nb
  by_cases h1 : 32 ≤ c
  · by_cases h2 : c ≤ 126
    · refine sB Tryz.func153 Tryz.ntmps153 ?_
      intro hbox htok
      simp only at hbox htok
      apply AL.start
      try (simp [h1, h2])
      repeat (refine sR ?_; simp [h1, h2])
      refine sT ?_
      try simp only [AU]
      refine ⟨by simp, sF hbox htok (fun _ h => h) (Nat.le_refl _) ?_⟩
      simp [packA, quoB, h1, h2]
    · refine sB Tryz.func153 Tryz.ntmps153 ?_
      intro hbox htok
      simp only at hbox htok
      apply AL.start
      try (simp [h1, h2])
      repeat (refine sR ?_; simp [h1, h2])
      refine sT ?_
      try simp only [AU]
      refine ⟨by simp, sF hbox htok (fun _ h => h) (Nat.le_refl _) ?_⟩
      simp [packA, quoB, h1, h2]
  · refine sB Tryz.func153 Tryz.ntmps153 ?_
    intro hbox htok
    simp only at hbox htok
    apply AL.start
    try (simp [h1])
    repeat (refine sR ?_; simp [h1])
    refine sT ?_
    try simp only [AU]
    refine ⟨by simp, sF hbox htok (fun _ h => h) (Nat.le_refl _) ?_⟩
    simp [packA, quoB, h1]
end Go.AM
namespace Go.AM
open Go Go.Proofs Go.Shelf
theorem runN_le (p : Int → Bool) (s : ByteArray) (a : Nat) : runN p s a ≤ s.size - a := by
  have h := (List.takeWhile_sublist (l := s.data.toList.drop a) fun b => p (b.toNat : Int)).length_le
  rw [List.length_drop, size_toList] at h
  exact h
theorem ext1_size {s : ByteArray} : (s.extract 1 s.size).size = s.size - 1 := by simp [ByteArray.size_extract]
def quoR (s : ByteArray) : Int × Int :=
  if 1 + runN quoB (s.extract 1 s.size) 0 = s.size then (0, 2) else if byteAt s (1 + runN quoB (s.extract 1 s.size) 0) ≠ 34 then (0, 2)
  else if 60 < runN quoB (s.extract 1 s.size) 0 then (0, 3) else ((runN quoB (s.extract 1 s.size) 0 : Int) + 2, 0)
theorem quoted_c (s : ByteArray) (h1 : 1 ≤ s.size) (hs : s.size ≤ 200000000000000) (tok : Nat → Bool) (nt : Nat) : DCall Tryz.prog 122 [Sb s] tok nt (.tup [I (quoR s).1, I (quoR s).2]) tok nt := by
  intro box nb
  have hr := run_c (s.extract 1 s.size) 153 quoB (by rw [ext1_size]; omega) tok nt fun c => quoted1_c c tok nt
  have hle := runN_le quoB (s.extract 1 s.size) 0
  rw [ext1_size] at hle
  have hq : quoR s = if 1 + runN quoB (s.extract 1 s.size) 0 = s.size then (0, 2) else if byteAt s (1 + runN quoB (s.extract 1 s.size) 0) ≠ 34 then (0, 2) else if 60 < runN quoB (s.extract 1 s.size) 0 then (0, 3) else ((runN quoB (s.extract 1 s.size) 0 : Int) + 2, 0) := rfl
  generalize runN quoB (s.extract 1 s.size) 0 = n at *
  have h1' : (1 : Int) ≤ s.size := by omega
  have w1 : IntKind.i64.wrap (1 + (n : Int)) = ((1 + n : Nat) : Int) := by rw [wrap_in (by omega) (by omega)]; omega
  have w2 : IntKind.i64.wrap ((n : Int) + 2) = (n : Int) + 2 := wrap_in (by omega) (by omega)
  refine sB Tryz.func122 Tryz.ntmps122 ?_
  intro hbox htok
  simp only at hbox htok
  apply AL.start
  try (simp [h1, h1'])
  repeat (refine sR ?_; simp [h1, h1'])
  refine Stop.of_d (hr) ?_
  simp
  by_cases e1 : 1 + n = s.size
  · have b1 : ((1 : Int) + n == s.size) = true := by rw [beq_iff_eq]; omega
    rw [if_pos e1] at hq
    rw [hq]
    try (simp [w1, b1])
    repeat (refine sR ?_; simp [w1, b1])
    refine sC ?_
    simp
    try (simp)
    repeat (refine sR ?_; simp)
    refine sT ?_
    try simp only [AU]
    refine ⟨by simp, sF hbox htok (fun _ h => h) (Nat.le_refl _) ?_⟩
    simp [packA]
  · have b1 : ((1 : Int) + n == s.size) = false := by rw [beq_eq_false_iff_ne]; omega
    have hlt : 1 + n < s.size := by omega
    have hb := byteAt_lt hlt
    have l1 : (0 : Int) ≤ 1 + n := by omega
    have l2 : (1 : Int) + n < s.size := by omega
    have t1 : ((1 : Int) + n).toNat = 1 + n := by omega
    rw [if_neg e1] at hq
    try (simp [w1, b1, l1, l2, t1, hlt])
    repeat (refine sR ?_; simp [w1, b1, l1, l2, t1, hlt])
    rw [hb]
    by_cases e2 : byteAt s (1 + n) = 34
    · have b2 : (byteAt s (1 + n) != 34) = false := by simp [e2]
      rw [if_neg (by simp [e2])] at hq
      simp only [b2]
      refine sC ?_
      simp
      try (simp [w2])
      repeat (refine sR ?_; simp [w2])
      by_cases e3 : 60 < n
      · have e4 : (60 : Int) < n := by omega
        rw [if_pos e3] at hq
        rw [hq]
        refine sC ?_
        simp [e4]
        try (simp)
        repeat (refine sR ?_; simp)
        refine sT ?_
        try simp only [AU]
        refine ⟨by simp, sF hbox htok (fun _ h => h) (Nat.le_refl _) ?_⟩
        simp [packA]
      · have e4 : ¬ (60 : Int) < n := by omega
        rw [if_neg e3] at hq
        rw [hq]
        refine sC ?_
        simp [e4]
        try (simp [w2])
        repeat (refine sR ?_; simp [w2])
        refine sT ?_
        try simp only [AU]
        refine ⟨by simp, sF hbox htok (fun _ h => h) (Nat.le_refl _) ?_⟩
        simp [packA]
    · have b2 : (byteAt s (1 + n) != 34) = true := by simp [e2]
      rw [if_pos e2] at hq
      rw [hq]
      simp only [b2]
      refine sC ?_
      simp
      try (simp)
      repeat (refine sR ?_; simp)
      refine sT ?_
      try simp only [AU]
      refine ⟨by simp, sF hbox htok (fun _ h => h) (Nat.le_refl _) ?_⟩
      simp [packA]
def pairL : List ByteArray := [⟨#[45, 62]⟩, ⟨#[60, 61]⟩, ⟨#[62, 61]⟩, ⟨#[61, 61]⟩, ⟨#[33, 61]⟩]
def pairB (s : ByteArray) : Bool := decide (2 ≤ s.size) && memS pairL (s.extract 0 2)
theorem pair_c (s : ByteArray) (hs : s.size ≤ 200000000000000) (tok : Nat → Bool) (nt : Nat) : DCall Tryz.prog 123 [Sb s] tok nt (B (pairB s)) tok nt := by
  intro box nb
  by_cases h2 : 2 ≤ s.size
  · have h2' : (2 : Int) ≤ s.size := by omega
    refine sB Tryz.func123 Tryz.ntmps123 ?_
    intro hbox htok
    simp only at hbox htok
    apply AL.start
    have hc := containsS_c pairL (s.extract 0 2) (by decide)
    try (simp [h2, h2'])
    repeat (refine sR ?_; simp [h2, h2'])
    refine ⟨rfl, ?_⟩
    refine Stop.data ?_
    refine Stop.of_d (hc _ _) ?_
    simp
    try (simp)
    repeat (refine sR ?_; simp)
    refine sT ?_
    try simp only [AU]
    refine ⟨by simp, sF hbox htok (fun _ h => h) (Nat.le_refl _) ?_⟩
    simp [packA, pairB, h2]
  · have h2' : ¬ (2 : Int) ≤ s.size := by omega
    refine sB Tryz.func123 Tryz.ntmps123 ?_
    intro hbox htok
    simp only at hbox htok
    apply AL.start
    try (simp [h2, h2'])
    repeat (refine sR ?_; simp [h2, h2'])
    refine sT ?_
    try simp only [AU]
    refine ⟨by simp, sF hbox htok (fun _ h => h) (Nat.le_refl _) ?_⟩
    simp [packA, pairB, h2]
def nextR (s : ByteArray) : Int × Int × Int :=
  if letB (byteAt s 0) = true then (if 20 < runN parB s 0 then (0, 0, 3) else (1, runN parB s 0, 0))
  else if digB (byteAt s 0) = true then (if 9 < runN digB s 0 then (0, 0, 3) else (2, runN digB s 0, 0))
  else if byteAt s 0 = 34 then (3, (quoR s).1, (quoR s).2) else if pairB s = true then (4, 2, 0)
  else if 0 ≤ Lib.indexByte [123, 125, 40, 41, 91, 93, 44, 59, 58, 61, 43, 45, 42, 60, 62, 33, 38, 124, 46, 63] (UInt8.ofNat (byteAt s 0).toNat) then (4, 1, 0) else (0, 0, 2)
theorem next_c (s : ByteArray) (h1 : 1 ≤ s.size) (hs : s.size ≤ 200000000000000) (tok : Nat → Bool) (nt : Nat) : DCall Tryz.prog 81 [Sb s] tok nt (.tup [I (nextR s).1, I (nextR s).2.1, I (nextR s).2.2]) tok nt := by
  intro box nb
  have hl := letter_c (byteAt s 0)
  have hd := digit_c (byteAt s 0)
  have r1 := run_c s 120 parB hs tok nt fun c => part_c1 c tok nt
  have r2 := run_c s 121 digB hs tok nt fun c => digit_c c tok nt
  have hq := quoted_c s h1 hs
  have hp := pair_c s hs
  have hx := fun q => indexByte_c q (byteAt s 0)
  have h0 : 0 < s.size := h1
  have h0' : (0 : Int) < s.size := by omega
  have hb := byteAt_lt h0
  obtain ⟨N, hN⟩ : ∃ N, nextR s = N := ⟨_, rfl⟩
  rw [hN]
  unfold nextR at hN
  have n1 : runN parB s 0 ≤ s.size := runN_le _ _ _
  have n2 : runN digB s 0 ≤ s.size := runN_le _ _ _
  generalize runN parB s 0 = a1 at *
  generalize runN digB s 0 = a2 at *
  refine sB Tryz.func81 Tryz.ntmps81 ?_
  intro hbox htok
  simp only at hbox htok
  apply AL.start
  try (simp [h0, h0'])
  repeat (refine sR ?_; simp [h0, h0'])
  rw [hb]
  refine Stop.of_d (hl _ _) ?_
  simp
  try (simp)
  repeat (refine sR ?_; simp)
  cases e1 : letB (byteAt s 0)
  · rw [if_neg (by simp [e1])] at hN
    refine sC ?_
    simp
    try (simp)
    repeat (refine sR ?_; simp)
    refine Stop.of_d (hd _ _) ?_
    simp
    try (simp)
    repeat (refine sR ?_; simp)
    cases e2 : digB (byteAt s 0)
    · rw [if_neg (by simp [e2])] at hN
      refine sC ?_
      simp
      try (simp)
      repeat (refine sR ?_; simp)
      by_cases e3 : byteAt s 0 = 34
      · rw [if_pos e3] at hN
        have b3 : (byteAt s 0 == 34) = true := by simp [e3]
        simp only [b3]
        refine sC ?_
        simp
        try (simp)
        repeat (refine sR ?_; simp)
        refine Stop.of_d (hq _ _) ?_
        simp
        try (simp)
        repeat (refine sR ?_; simp)
        refine sT ?_
        try simp only [AU]
        refine ⟨by simp, sF hbox htok (fun _ h => h) (Nat.le_refl _) ?_⟩
        simp [packA, ← hN]
      · rw [if_neg e3] at hN
        have b3 : (byteAt s 0 == 34) = false := by simp [e3]
        simp only [b3]
        refine sC ?_
        simp
        try (simp)
        repeat (refine sR ?_; simp)
        refine Stop.of_d (hp _ _) ?_
        simp
        try (simp)
        repeat (refine sR ?_; simp)
        cases e4 : pairB s
        · rw [if_neg (by simp [e4])] at hN
          refine sC ?_
          simp
          try (simp)
          repeat (refine sR ?_; simp)
          refine Stop.of_d (hx _ _ _) ?_
          simp
          try (simp)
          repeat (refine sR ?_; simp)
          by_cases e5 : 0 ≤ Lib.indexByte [123, 125, 40, 41, 91, 93, 44, 59, 58, 61, 43, 45, 42, 60, 62, 33, 38, 124, 46, 63] (UInt8.ofNat (byteAt s 0).toNat)
          · rw [if_pos e5] at hN
            refine sC ?_
            simp [e5]
            try (simp)
            repeat (refine sR ?_; simp)
            refine sT ?_
            try simp only [AU]
            refine ⟨by simp, sF hbox htok (fun _ h => h) (Nat.le_refl _) ?_⟩
            simp [packA, ← hN]
          · rw [if_neg e5] at hN
            refine sC ?_
            simp [e5]
            try (simp)
            repeat (refine sR ?_; simp)
            refine sT ?_
            try simp only [AU]
            refine ⟨by simp, sF hbox htok (fun _ h => h) (Nat.le_refl _) ?_⟩
            simp [packA, ← hN]
        · rw [if_pos e4] at hN
          refine sC ?_
          simp
          try (simp)
          repeat (refine sR ?_; simp)
          refine sT ?_
          try simp only [AU]
          refine ⟨by simp, sF hbox htok (fun _ h => h) (Nat.le_refl _) ?_⟩
          simp [packA, ← hN]
    · rw [if_pos e2] at hN
      refine sC ?_
      simp
      try (simp)
      repeat (refine sR ?_; simp)
      refine Stop.of_d (r2) ?_
      simp
      try (simp)
      repeat (refine sR ?_; simp)
      by_cases e3 : 9 < a2
      · have e4 : (9 : Int) < a2 := by omega
        rw [if_pos e3] at hN
        refine sC ?_
        simp [e4]
        try (simp)
        repeat (refine sR ?_; simp)
        refine sT ?_
        try simp only [AU]
        refine ⟨by simp, sF hbox htok (fun _ h => h) (Nat.le_refl _) ?_⟩
        simp [packA, ← hN]
      · have e4 : ¬ (9 : Int) < a2 := by omega
        rw [if_neg e3] at hN
        refine sC ?_
        simp [e4]
        try (simp)
        repeat (refine sR ?_; simp)
        refine sT ?_
        try simp only [AU]
        refine ⟨by simp, sF hbox htok (fun _ h => h) (Nat.le_refl _) ?_⟩
        simp [packA, ← hN]
  · rw [if_pos e1] at hN
    refine sC ?_
    simp
    try (simp)
    repeat (refine sR ?_; simp)
    refine Stop.of_d (r1) ?_
    simp
    try (simp)
    repeat (refine sR ?_; simp)
    by_cases e3 : 20 < a1
    · have e4 : (20 : Int) < a1 := by omega
      rw [if_pos e3] at hN
      refine sC ?_
      simp [e4]
      try (simp)
      repeat (refine sR ?_; simp)
      refine sT ?_
      try simp only [AU]
      refine ⟨by simp, sF hbox htok (fun _ h => h) (Nat.le_refl _) ?_⟩
      simp [packA, ← hN]
    · have e4 : ¬ (20 : Int) < a1 := by omega
      rw [if_neg e3] at hN
      refine sC ?_
      simp [e4]
      try (simp)
      repeat (refine sR ?_; simp)
      refine sT ?_
      try simp only [AU]
      refine ⟨by simp, sF hbox htok (fun _ h => h) (Nat.le_refl _) ?_⟩
      simp [packA, ← hN]
end Go.AM
namespace Go.AM
open Go Go.Proofs Go.Shelf
def nameB (s : ByteArray) : Bool := decide (1 ≤ s.size ∧ s.size ≤ 20) && letB (byteAt s 0) && decide (runN parB s 0 = s.size)
theorem nameB_next {s : ByteArray} (h1 : 1 ≤ s.size) : ((decide ((nextR s).2.2 = 0) && decide ((nextR s).1 = 1)) && decide ((nextR s).2.1 = (s.size : Int))) = nameB s := by
  unfold nameB nextR
  by_cases e1 : letB (byteAt s 0) = true
  · rw [if_pos e1]
    by_cases e2 : 20 < runN parB s 0
    · rw [if_pos e2]
      have : ¬ ((1 ≤ s.size ∧ s.size ≤ 20) ∧ runN parB s 0 = s.size) := by omega
      rw [Bool.eq_iff_iff]
      simp [e1]
      omega
    · rw [if_neg e2]
      rw [Bool.eq_iff_iff]
      simp [e1]
      omega
  · rw [if_neg e1]
    have e1' : letB (byteAt s 0) = false := by simpa using e1
    rw [e1']
    simp only [Bool.and_false, Bool.false_and]
    split
    · split <;> simp
    · split
      · simp
      · split
        · simp
        · split <;> simp
theorem empty_dec {s : ByteArray} : (s.toList == (⟨#[]⟩ : ByteArray).toList) = decide (s.size = 0) := by
  rw [seq_dec, Bool.eq_iff_iff, decide_eq_true_eq, decide_eq_true_eq]
  constructor
  · rintro rfl; rfl
  · intro h
    obtain ⟨⟨l⟩⟩ := s
    cases l with
    | nil => rfl
    | cons x r => simp [ByteArray.size] at h
theorem wholeN_c (s : ByteArray) (hs : s.size ≤ 200000000000000) (tok : Nat → Bool) (nt : Nat) : DCall Tryz.prog 111 [.agg [I 1, Sb s, I 0]] tok nt (.tup [Sb s, B (nameB s)]) tok nt := by
  intro box nb
  by_cases h0 : s.size = 0
  · have b0 : (s.toList == (⟨#[]⟩ : ByteArray).toList) = true := by rw [empty_dec]; simp [h0]
    have hse : s = ⟨#[]⟩ := by rw [seq_dec] at b0; simpa using b0
    have hn : nameB s = false := by simp [nameB, h0]
    rw [hn]
    refine sB Tryz.func111 Tryz.ntmps111 ?_
    intro hbox htok
    simp only at hbox htok
    apply AL.start
    try (simp)
    repeat (refine sR ?_; simp)
    refine sC ?_
    simp
    have b1 : s.toList = [] := by simpa using b0
    try (simp)
    repeat (refine sR ?_; simp)
    refine sC ?_
    simp [b1]
    try (simp)
    repeat (refine sR ?_; simp)
    refine sT ?_
    try simp only [AU]
    refine ⟨by simp, sF hbox htok (fun _ h => h) (Nat.le_refl _) ?_⟩
    simp [packA, hse]
  · have b0 : (s.toList == (⟨#[]⟩ : ByteArray).toList) = false := by rw [empty_dec]; simp [h0]
    have hx := next_c s (by omega) hs
    have hnb := nameB_next (s := s) (by omega)
    generalize nextR s = N at *
    refine sB Tryz.func111 Tryz.ntmps111 ?_
    intro hbox htok
    simp only at hbox htok
    apply AL.start
    try (simp)
    repeat (refine sR ?_; simp)
    refine sC ?_
    simp
    have b1 : ¬ s.toList = [] := by simpa using b0
    try (simp)
    repeat (refine sR ?_; simp)
    refine sC ?_
    simp [b1]
    try (simp)
    repeat (refine sR ?_; simp)
    refine Stop.of_d (hx _ _) ?_
    simp
    by_cases f1 : N.2.2 = 0
    · have g1 : (N.2.2 == 0) = true := by simp [f1]
      by_cases f2 : N.1 = 1
      · have g2 : (N.1 == 1) = true := by simp [f2]
        try (simp [g1, g2])
        repeat (refine sR ?_; simp [g1, g2])
        by_cases f3 : N.2.1 = (s.size : Int)
        · have g3 : (N.2.1 == (s.size : Int)) = true := by simp [f3]
          rw [← hnb]
          refine sT ?_
          try simp only [AU]
          refine ⟨by simp, sF hbox htok (fun _ h => h) (Nat.le_refl _) ?_⟩
          simp [packA, f1, f2, f3, g3]
        · have g3 : (N.2.1 == (s.size : Int)) = false := by simp [f3]
          rw [← hnb]
          refine sT ?_
          try simp only [AU]
          refine ⟨by simp, sF hbox htok (fun _ h => h) (Nat.le_refl _) ?_⟩
          simp [packA, f1, f2, f3, g3]
      · have g2 : (N.1 == 1) = false := by simp [f2]
        rw [← hnb]
        try (simp [g1, g2])
        repeat (refine sR ?_; simp [g1, g2])
        refine sT ?_
        try simp only [AU]
        refine ⟨by simp, sF hbox htok (fun _ h => h) (Nat.le_refl _) ?_⟩
        simp [packA, f1, f2]
    · have g1 : (N.2.2 == 0) = false := by simp [f1]
      rw [← hnb]
      try (simp [g1])
      repeat (refine sR ?_; simp [g1])
      refine sT ?_
      try simp only [AU]
      refine ⟨by simp, sF hbox htok (fun _ h => h) (Nat.le_refl _) ?_⟩
      simp [packA, f1]
theorem isName_c (s : ByteArray) (hs : s.size ≤ 200000000000000) (tok : Nat → Bool) (nt : Nat) : DCall Tryz.prog 73 [Sb s] tok nt (B (nameB s)) tok nt := by
  intro box nb
  have h := wholeN_c s hs
  refine sB Tryz.func73 Tryz.ntmps73 ?_
  intro hbox htok
  simp only at hbox htok
  apply AL.start
  try (simp)
  repeat (refine sR ?_; simp)
  refine Stop.of_d (h _ _) ?_
  simp
  try (simp)
  repeat (refine sR ?_; simp)
  refine sT ?_
  try simp only [AU]
  refine ⟨by simp, sF hbox htok (fun _ h => h) (Nat.le_refl _) ?_⟩
  simp [packA]
end Go.AM
namespace Go.AM
open Go Go.Proofs Go.Shelf
end Go.AM
namespace Go.AM
open Go Go.Proofs Go.Shelf
end Go.AM
namespace Go.AM
open Go Go.Proofs Go.Shelf
theorem let_dig {c : Int} (h : letB c = true) : digB c = false := by
  unfold letB at h
  unfold digB
  simp only [decide_eq_true_eq, decide_eq_false_iff_not] at h ⊢
  omega
end Go.AM
namespace Go.AM
open Go Go.Proofs
inductive Cm where
  | mk (kind : Int) (name : ByteArray) (num : Int) (kids : List Cm)
  deriving Inhabited
def Cm.kind : Cm → Int | .mk k _ _ _ => k
def Cm.name : Cm → ByteArray | .mk _ s _ _ => s
def Cm.num : Cm → Int | .mk _ _ n _ => n
def Cm.kids : Cm → List Cm | .mk _ _ _ c => c
mutual
def Cm.cells : Cm → List D
  | .mk k s n c => [.raw (.int .i64 k), .raw (.string s), .raw (.int .i64 n), .sl 4 (Cm.rows c)]
def Cm.rows : List Cm → List (List D)
  | [] => []
  | x :: r => Cm.cells x :: Cm.rows r
end
theorem Cm.rows_map : ∀ l : List Cm, Cm.rows l = l.map Cm.cells
  | [] => by simp [Cm.rows]
  | x :: r => by simp [Cm.rows, Cm.rows_map r]
abbrev cms (l : List Cm) : D := .sl 4 (l.map Cm.cells)
theorem Cm.cells_eq (c : Cm) : c.cells = [.raw (.int .i64 c.kind), .raw (.string c.name), .raw (.int .i64 c.num), cms c.kids] := by
  cases c
  simp [Cm.cells, Cm.rows_map, Cm.kind, Cm.name, Cm.num, Cm.kids]
abbrev Cm.row (c : Cm) : List AV := [I c.kind, Sb c.name, I c.num, .d (cms c.kids)]
abbrev Cm.av (c : Cm) : AV := .agg c.row
theorem Cm.get {l : List Cm} {i : Nat} (h : i < l.length) : (l.map Cm.cells)[i]? = some [.raw (.int .i64 l[i].kind), .raw (.string l[i].name), .raw (.int .i64 l[i].num), cms l[i].kids] := by
  simp [h, Cm.cells_eq l[i]]
structure Pr where
  name : ByteArray
  body : Cm
  deriving Inhabited
abbrev Pr.cells (p : Pr) : List D := .raw (.string p.name) :: [.raw (.int .i64 p.body.kind), .raw (.string p.body.name), .raw (.int .i64 p.body.num), cms p.body.kids]
abbrev prs (l : List Pr) : D := .sl 5 (l.map Pr.cells)
abbrev prsAv (l : List Pr) : AV := .agg [.d (prs l)]
mutual
def Cm.size : Cm → Nat
  | .mk _ _ _ c => 1 + Cm.sizeL c
def Cm.sizeL : List Cm → Nat
  | [] => 0
  | x :: r => Cm.size x + Cm.sizeL r
end
mutual
def Cm.depth : Cm → Nat
  | .mk _ _ _ c => 1 + Cm.depthL c
def Cm.depthL : List Cm → Nat
  | [] => 0
  | x :: r => max (Cm.depth x) (Cm.depthL r)
end
theorem Cm.size_eq (c : Cm) : c.size = 1 + Cm.sizeL c.kids := by cases c; simp [Cm.size, Cm.kids]
theorem Cm.depth_eq (c : Cm) : c.depth = 1 + Cm.depthL c.kids := by cases c; simp [Cm.depth, Cm.kids]
theorem Cm.size_pos (c : Cm) : 1 ≤ c.size := by rw [c.size_eq]; omega
theorem Cm.sizeL_app : ∀ a b : List Cm, Cm.sizeL (a ++ b) = Cm.sizeL a + Cm.sizeL b
  | [], b => by simp [Cm.sizeL]
  | x :: r, b => by simp [Cm.sizeL, Cm.sizeL_app r b]; omega
theorem Cm.depthL_app : ∀ a b : List Cm, Cm.depthL (a ++ b) = max (Cm.depthL a) (Cm.depthL b)
  | [], b => by simp [Cm.depthL]
  | x :: r, b => by simp [Cm.depthL, Cm.depthL_app r b]
theorem Cm.sizeL_mem : ∀ {l : List Cm} {x : Cm}, x ∈ l → x.size ≤ Cm.sizeL l
  | y :: r, x, h => by
    simp only [Cm.sizeL]
    rcases List.mem_cons.1 h with rfl | h
    · omega
    · have := Cm.sizeL_mem h; omega
theorem Cm.len_le : ∀ l : List Cm, l.length ≤ Cm.sizeL l
  | [] => by simp [Cm.sizeL]
  | x :: r => by have := Cm.len_le r; have := x.size_pos; simp [Cm.sizeL]; omega
theorem Cm.depth_le_size : ∀ (n : Nat) (c : Cm), c.size < n → c.depth ≤ c.size
  | 0, c, h => absurd h (Nat.not_lt_zero _)
  | n + 1, c, h => by
    have hk : ∀ l : List Cm, Cm.sizeL l < n → Cm.depthL l ≤ Cm.sizeL l := by
      intro l
      induction l with
      | nil => intro _; simp [Cm.depthL]
      | cons x r ih =>
        intro hl
        simp only [Cm.sizeL] at hl
        have h1 := Cm.depth_le_size n x (by omega)
        have h2 := ih (by omega)
        simp only [Cm.sizeL, Cm.depthL]
        omega
    rw [c.size_eq] at h ⊢
    rw [c.depth_eq]
    have := hk c.kids (by omega)
    omega
theorem Cm.kid_size {c x : Cm} (h : x ∈ c.kids) : x.size < c.size := by
  have := Cm.sizeL_mem h
  rw [c.size_eq]
  omega
theorem Cm.sizeL_take {l : List Cm} {i : Nat} (h : i < l.length) : Cm.sizeL (l.take (i + 1)) = Cm.sizeL (l.take i) + l[i].size := by
  rw [List.take_succ_eq_append_getElem h, Cm.sizeL_app]
  simp [Cm.sizeL]
theorem Cm.depthL_take {l : List Cm} {i : Nat} (h : i < l.length) : Cm.depthL (l.take (i + 1)) = max (Cm.depthL (l.take i)) l[i].depth := by
  rw [List.take_succ_eq_append_getElem h, Cm.depthL_app]
  simp [Cm.depthL]
theorem Cm.sizeL_take_le (l : List Cm) (i : Nat) : Cm.sizeL (l.take i) ≤ Cm.sizeL l := by
  conv => rhs; rw [← List.take_append_drop i l]
  rw [Cm.sizeL_app]
  omega
theorem Cm.depthL_take_le (l : List Cm) (i : Nat) : Cm.depthL (l.take i) ≤ Cm.depthL l := by
  conv => rhs; rw [← List.take_append_drop i l]
  rw [Cm.depthL_app]
  omega
theorem Cm.kids_len (c : Cm) : c.kids.length < c.size := by have := Cm.len_le c.kids; rw [c.size_eq]; omega
def stPm (c : Cm) (nb : Nat) (box : Nat → Option (List (List AV))) (tok : Nat → Bool) (nt : Nat) (i : Nat) : AState :=
  ⟨tl [(11, .d (cms c.kids)), (12, I c.kids.length), (13, I i), (4, I (1 + Cm.sizeL (c.kids.take i) : Nat)), (5, I (Cm.depthL (c.kids.take i))), (1, .ptr (nb + 1) 0 0)], lb nb box [(1, [c.row])], tok, nt⟩
theorem measureP_c : ∀ (n : Nat) (c : Cm), c.size < n → c.size ≤ 1000000 → ∀ (tok : Nat → Bool) (nt : Nat), DCall Tryz.prog 74 [c.av] tok nt (.tup [I c.size, I c.depth]) tok nt
  | 0, c, hn, _, tok, nt => absurd hn (Nat.not_lt_zero _)
  | n + 1, c, hn, hb, tok, nt => by
    intro box nb
    have ih := fun x (hx : x ∈ c.kids) => measureP_c n x (by have := Cm.kid_size hx; omega) (by have := Cm.kid_size hx; omega)
    have hkl := c.kids_len
    have hs := c.size_eq
    have hd := c.depth_eq
    have hds := c.depth_le_size _ (Nat.lt_succ_self _)
    refine sB Tryz.func74 Tryz.ntmps74 ?_
    intro hbox htok
    simp only at hbox htok
    apply AL.start
    try (simp)
    repeat (refine sR ?_; simp)
    refine sN ?_
    refine AL.loopT (stPm c nb box tok nt) (fun i => i ≤ c.kids.length) (fun i => c.kids.length - i) 0 (Nat.zero_le _) (Weaks.mk (Nat.le_refl _) rfl (by simp [ToL, lk, Cm.sizeL, Cm.depthL]) (by simp [BoxL, lk])) ?_
    rintro i S hi hS
    simp only [stPm] at hS
    subst hS
    have hw := sW (i := i) (by omega)
    try (simp)
    repeat (refine sR ?_; simp)
    refine sC ?_
    simp
    refine ⟨fun hlt => ?_, fun hge => ?_⟩
    · have h1 := Cm.sizeL_take hlt
      have h2 := Cm.depthL_take hlt
      have h3 := Cm.sizeL_take_le c.kids (i + 1)
      have h4 := Cm.depthL_take_le c.kids (i + 1)
      have ihx := ih _ (List.getElem_mem hlt)
      have hw2 : IntKind.i64.wrap (1 + (Cm.sizeL (c.kids.take i) : Int) + (c.kids[i].size : Int)) = ((1 + Cm.sizeL (c.kids.take (i + 1)) : Nat) : Int) := by rw [wrap_in (by omega) (by omega)]; omega
      have hm : max (Cm.depthL (c.kids.take i) : Int) (c.kids[i].depth : Int) = ((Cm.depthL (c.kids.take (i + 1)) : Nat) : Int) := by omega
      try (simp [hlt, Cm.cells_eq])
      repeat (refine sR ?_; simp [hlt, Cm.cells_eq])
      generalize c.kids[i] = x at *
      try (simp)
      repeat (refine sR ?_; simp)
      refine Stop.of_d (ihx _ _) ?_
      simp
      try (simp [hw2, hm])
      repeat (refine sR ?_; simp [hw2, hm])
      try (simp [hw])
      repeat (refine sR ?_; simp [hw])
      refine sE ?_
      exact ⟨i + 1, hlt, by omega, Weaks.mk (Nat.le_refl _) rfl (by simp [ToL, lk]) (by simp [BoxL, lk])⟩
    · refine sX ?_
      simp only [AU, ↓reduceIte]
      have : i = c.kids.length := by omega
      subst this
      rw [List.take_length]
      have hw3 : IntKind.i64.wrap ((Cm.depthL c.kids : Int) + 1) = ((c.depth : Nat) : Int) := by rw [wrap_in (by omega) (by omega)]; omega
      have hs2 : (1 + (Cm.sizeL c.kids : Int)) = ((c.size : Nat) : Int) := by omega
      try (simp [hw3])
      repeat (refine sR ?_; simp [hw3])
      refine sT ?_
      try simp only [AU]
      refine ⟨by simp, sF hbox htok (fun _ h => h) (Nat.le_refl _) ?_⟩
      simp [packA, hs2, hd]
end Go.AM
namespace Go.AM
open Go Go.Proofs
def okB (c : Cm) : Bool :=
  (if c.kind = 2 then decide (2 ≤ c.kids.length) && !(c.kids.any fun k => k.kind == 2) else if c.kind = 3 then decide (2 ≤ c.kids.length) else if c.kind = 4 then decide (c.kids.length = 3)
   else if c.kind = 5 ∨ c.kind = 6 ∨ c.kind = 7 then decide (c.kids.length = 1) else if c.kind = 1 ∨ c.kind = 8 ∨ c.kind = 9 ∨ c.kind = 10 then decide (c.kids.length = 0) else false)
  && (decide (c.kind = 1 ∨ c.kind = 10) || decide (c.name = ⟨#[]⟩)) && (decide (c.kind = 6) || decide (c.num = 0))
def hasP (p : List Pr) (s : ByteArray) : Bool := p.any fun q => decide (q.name = s)
def placeR (p : List Pr) (s : ByteArray) : Int := if hasP p s = true then (p.findIdx (fun q => decide (q.name = s)) : Int) else -1
def ownE (p : List Pr) (rs : List ByteArray) (asked : Bool) (at' : Nat) (c : Cm) : Int :=
  if okB c = false then 1
  else if c.kind = 1 then (if nameB c.name = false then 2 else if (asked && !(memS rs c.name)) = true then 4 else 0)
  else if c.kind = 10 then (if nameB c.name = false then 2 else if placeR p c.name < 0 then 4 else if (at' : Int) ≤ placeR p c.name then 12 else 0)
  else if c.kind = 6 then (if 1 ≤ c.num ∧ c.num ≤ 9 then 0 else 6) else 0
mutual
def cmdE (p : List Pr) (rs : List ByteArray) (asked : Bool) (at' : Nat) : Cm → Int
  | .mk k s n c => if ownE p rs asked at' (.mk k s n c) ≠ 0 then ownE p rs asked at' (.mk k s n c) else cmdEL p rs asked at' c
def cmdEL (p : List Pr) (rs : List ByteArray) (asked : Bool) (at' : Nat) : List Cm → Int
  | [] => 0
  | x :: r => if cmdE p rs asked at' x ≠ 0 then cmdE p rs asked at' x else cmdEL p rs asked at' r
end
theorem cmdE_eq (p : List Pr) (rs : List ByteArray) (asked : Bool) (at' : Nat) (c : Cm) : cmdE p rs asked at' c = if ownE p rs asked at' c ≠ 0 then ownE p rs asked at' c else cmdEL p rs asked at' c.kids := by
  cases c
  rw [cmdE]
  rfl
theorem cmdEL_take {p : List Pr} {rs : List ByteArray} {asked : Bool} {at' : Nat} : ∀ {l : List Cm} {i : Nat} (h : i < l.length), (∀ x ∈ l.take i, cmdE p rs asked at' x = 0) → cmdE p rs asked at' l[i] ≠ 0 → cmdEL p rs asked at' l = cmdE p rs asked at' l[i]
  | x :: r, 0, _, _, h => by
    simp only [List.getElem_cons_zero] at h ⊢
    rw [cmdEL, if_pos h]
  | x :: r, i + 1, h, h1, h2 => by
    rw [cmdEL, if_neg (by rw [h1 x (by simp)]; simp)]
    exact cmdEL_take (by simpa using h) (fun y hy => h1 y (by simp [hy])) h2
theorem cmdEL_none {p : List Pr} {rs : List ByteArray} {asked : Bool} {at' : Nat} : ∀ {l : List Cm}, (∀ x ∈ l, cmdE p rs asked at' x = 0) → cmdEL p rs asked at' l = 0
  | [], _ => by rw [cmdEL]
  | x :: r, h => by
    rw [cmdEL, if_neg (by rw [h x (by simp)]; simp)]
    exact cmdEL_none fun y hy => h y (by simp [hy])
def prE (p : List Pr) (rs : List ByteArray) (asked : Bool) (i : Nat) (q : Pr) : Int :=
  if nameB q.name = false then 2 else if placeR p q.name < i then 5 else if 60 < q.body.size ∨ 6 < q.body.depth then 3 else cmdE p rs asked i q.body
def faultL (p : List Pr) (rs : List ByteArray) (asked : Bool) : List Pr → Nat → Int × Int
  | [], _ => (-1, 0)
  | q :: r, i => if prE p rs asked i q ≠ 0 then ((i : Int), prE p rs asked i q) else faultL p rs asked r (i + 1)
def faultR (p : List Pr) (rs : List ByteArray) (asked : Bool) : Int × Int := if p.length = 0 then (-1, 7) else if 20 < p.length then (-1, 3) else faultL p rs asked p 0
theorem faultL_drop (p : List Pr) (rs : List ByteArray) (asked : Bool) {l : List Pr} {i : Nat} (h : i < l.length) (k : Nat) : faultL p rs asked (l.drop i) k = if prE p rs asked k l[i] ≠ 0 then ((k : Int), prE p rs asked k l[i]) else faultL p rs asked (l.drop (i + 1)) (k + 1) := by
  rw [List.drop_eq_getElem_cons h, faultL]
end Go.AM
namespace Go.AM
open Go Go.Proofs
abbrev Pr.row (q : Pr) : List AV := [Sb q.name, I q.body.kind, Sb q.body.name, I q.body.num, .d (cms q.body.kids)]
abbrev Pr.av (q : Pr) : AV := .agg q.row
abbrev eD : D := .sl 0 []
abbrev zD : D := .raw (.int .i64 0)
abbrev ruleT : List D := [eD, eD, eD, zD, eD, eD, eD, eD, zD, eD, eD, eD, eD, eD, .raw (.bool false), zD, eD, eD, eD, eD, eD, eD, zD, eD]
abbrev ruleRow (s : ByteArray) : List D := .raw (.string s) :: ruleT
abbrev rules46 (l : List ByteArray) : D := .sl 25 (l.map ruleRow)
abbrev ruleAv (s : ByteArray) : AV := .agg (.d (.raw (.string s)) :: ruleT.map .d)
def stIP (xs : List Pr) (f : FuncId) (caps : List AV) (nb : Nat) (box : Nat → Option (List (List AV))) (tok : Nat → Bool) (nt : Nat) (i : Nat) : AState := ⟨tl [(0, .d (prs xs)), (1, .fn (.func f) caps), (7, I xs.length), (8, I i)], lb nb box [], tok, nt⟩
theorem indexFuncP_c (xs : List Pr) (f : FuncId) (caps : List AV) (p : Pr → Bool) (hx : xs.length ≤ 200000000000000) (box : Nat → Option (List (List AV))) (nb : Nat) (tok : Nat → Bool) (nt : Nat) (hc : ∀ c ∈ caps, OkIn (fun k => box k ≠ none) (fun _ => True) c)
    (hf : ∀ x ∈ xs, ∀ box' nb', Ext box box' → ACalls Tryz.prog f (x.av :: caps) ⟨box', nb', tok, nt⟩ fun v m => v = B (p x) ∧ m = ⟨box', nb', tok, nt⟩) :
    ACalls Tryz.prog 92 [.d (prs xs), .fn (.func f) caps] ⟨box, nb, tok, nt⟩ fun v m => v = I (if anyB p xs = true then (xs.findIdx p : Nat) else -1) ∧ m = ⟨box, nb, tok, nt⟩ := by
  refine sB Tryz.func92 Tryz.ntmps92 ?_
  intro hbox htok
  simp only at hbox htok
  apply AL.start
  try (simp)
  repeat (refine sR ?_; simp)
  refine sN ?_
  refine AL.loopT (stIP xs f caps nb box tok nt) (fun i => i ≤ xs.length ∧ ∀ x ∈ xs.take i, p x = false) (fun i => xs.length - i) 0 ⟨Nat.zero_le _, by simp⟩ (Weaks.mk (Nat.le_refl _) rfl (by simp [ToL]; exact .same (okFn hc hbox [] (by simp) rfl _)) trivial) ?_
  rintro i S ⟨hi, htk⟩ hS
  simp only [stIP] at hS
  subst hS
  have hw := sW (i := i) (by omega)
  try (simp)
  repeat (refine sR ?_; simp)
  refine sC ?_
  simp
  refine ⟨fun hlt => ?_, fun hge => ?_⟩
  · have hfx := hf xs[i] (List.getElem_mem _)
    have hpx : p xs[i] = true → anyB p xs = true ∧ (xs.findIdx p = i) := fun he => any_takeG hlt htk he
    have hmore : p xs[i] = false → ∀ x ∈ xs.take (i + 1), p x = false := fun he x hx => by
      rw [List.take_succ_eq_append_getElem hlt] at hx
      rcases List.mem_append.1 hx with hx | hx
      · exact htk x hx
      · simp at hx; rw [hx]; exact he
    try (simp [hlt])
    repeat (refine sR ?_; simp [hlt])
    generalize xs[i] = x at *
    refine Stop.of_b (hfx _ _ ((Ext.refl box).lb hbox [])) ?_
    simp
    cases he : p x
    · refine sC ?_
      simp
      try (simp [hw])
      repeat (refine sR ?_; simp [hw])
      refine sE ?_
      refine ⟨i + 1, ⟨hlt, ?_⟩, by omega, Weaks.mk (Nat.le_refl _) rfl (by simp [ToL]; exact .same (okFn hc hbox [] (by simp) rfl _)) trivial⟩
      exact hmore he
    · obtain ⟨h1, h2⟩ := hpx he
      refine sC ?_
      simp
      try (simp)
      repeat (refine sR ?_; simp)
      refine sT ?_
      try simp only [AU]
      refine ⟨by simp, sF hbox htok (fun _ h => h) (Nat.le_refl _) ?_⟩
      simp [packA, h1, h2]
  · refine sX ?_
    simp only [AU, ↓reduceIte]
    try (simp)
    repeat (refine sR ?_; simp)
    have hn : anyB p xs = false := by
      rw [List.take_of_length_le hge] at htk
      simpa [anyB] using htk
    refine sT ?_
    try simp only [AU]
    refine ⟨by simp, sF hbox htok (fun _ h => h) (Nat.le_refl _) ?_⟩
    simp [packA, hn]
theorem place1_c (q : Pr) (s : ByteArray) (box : Nat → Option (List (List AV))) (nb k : Nat) (tok : Nat → Bool) (nt : Nat) (h : box k = some [[Sb s]]) :
    ACalls Tryz.prog 93 [q.av, .ptr k 0 0] ⟨box, nb, tok, nt⟩ fun v m => v = B (decide (q.name = s)) ∧ m = ⟨box, nb, tok, nt⟩ := by
  refine sB Tryz.func93 Tryz.ntmps93 ?_
  intro hbox htok
  simp only at hbox htok
  apply AL.start
  have kn := key_lt hbox h
  have e := seq_dec q.name s
  try (simp [lb_out kn, h])
  repeat (refine sR ?_; simp [lb_out kn, h])
  refine sT ?_
  try simp only [AU]
  refine ⟨by simp, sF hbox htok (fun _ h => h) (Nat.le_refl _) ?_⟩
  simp [packA, e]
theorem placeP_c (p : List Pr) (s : ByteArray) (hx : p.length ≤ 200000000000000) (tok : Nat → Bool) (nt : Nat) : DCall Tryz.prog 56 [prsAv p, Sb s] tok nt (I (placeR p s)) tok nt := by
  intro box nb
  refine sB Tryz.func56 Tryz.ntmps56 ?_
  intro hbox htok
  simp only at hbox htok
  apply AL.start
  try (simp)
  repeat (refine sR ?_; simp)
  refine Stop.of_b (indexFuncP_c p 93 _ (fun q => decide (q.name = s)) hx _ _ _ _ (by simp [lb_at]) (fun x hx' box' nb' he => place1_c x s box' nb' _ tok nt (he _ _ (by simp [lb_at, lk])))) ?_
  simp
  try (simp)
  repeat (refine sR ?_; simp)
  refine sT ?_
  try simp only [AU]
  refine ⟨by simp, sF hbox htok (fun _ h => h) (Nat.le_refl _) ?_⟩
  simp [packA, placeR, hasP, anyB]
def stIM (xs : List Cm) (f : FuncId) (caps : List AV) (nb : Nat) (box : Nat → Option (List (List AV))) (tok : Nat → Bool) (nt : Nat) (i : Nat) : AState := ⟨tl [(0, .d (cms xs)), (1, .fn (.func f) caps), (7, I xs.length), (8, I i)], lb nb box [], tok, nt⟩
theorem indexFuncM_c (xs : List Cm) (f : FuncId) (caps : List AV) (p : Cm → Bool) (hx : xs.length ≤ 200000000000000) (box : Nat → Option (List (List AV))) (nb : Nat) (tok : Nat → Bool) (nt : Nat) (hc : ∀ c ∈ caps, OkIn (fun k => box k ≠ none) (fun _ => True) c)
    (hf : ∀ x ∈ xs, ∀ box' nb', Ext box box' → ACalls Tryz.prog f (x.av :: caps) ⟨box', nb', tok, nt⟩ fun v m => v = B (p x) ∧ m = ⟨box', nb', tok, nt⟩) :
    ACalls Tryz.prog 163 [.d (cms xs), .fn (.func f) caps] ⟨box, nb, tok, nt⟩ fun v m => v = I (if anyB p xs = true then (xs.findIdx p : Nat) else -1) ∧ m = ⟨box, nb, tok, nt⟩ := by
  refine sB Tryz.func163 Tryz.ntmps163 ?_
  intro hbox htok
  simp only at hbox htok
  apply AL.start
  try (simp)
  repeat (refine sR ?_; simp)
  refine sN ?_
  refine AL.loopT (stIM xs f caps nb box tok nt) (fun i => i ≤ xs.length ∧ ∀ x ∈ xs.take i, p x = false) (fun i => xs.length - i) 0 ⟨Nat.zero_le _, by simp⟩ (Weaks.mk (Nat.le_refl _) rfl (by simp [ToL]; exact .same (okFn hc hbox [] (by simp) rfl _)) trivial) ?_
  rintro i S ⟨hi, htk⟩ hS
  simp only [stIM] at hS
  subst hS
  have hw := sW (i := i) (by omega)
  try (simp)
  repeat (refine sR ?_; simp)
  refine sC ?_
  simp
  refine ⟨fun hlt => ?_, fun hge => ?_⟩
  · have hfx := hf xs[i] (List.getElem_mem _)
    have hpx : p xs[i] = true → anyB p xs = true ∧ (xs.findIdx p = i) := fun he => any_takeG hlt htk he
    have hmore : p xs[i] = false → ∀ x ∈ xs.take (i + 1), p x = false := fun he x hx => by
      rw [List.take_succ_eq_append_getElem hlt] at hx
      rcases List.mem_append.1 hx with hx | hx
      · exact htk x hx
      · simp at hx; rw [hx]; exact he
    try (simp [hlt, Cm.cells_eq])
    repeat (refine sR ?_; simp [hlt, Cm.cells_eq])
    generalize xs[i] = x at *
    refine Stop.of_b (hfx _ _ ((Ext.refl box).lb hbox [])) ?_
    simp
    cases he : p x
    · refine sC ?_
      simp
      try (simp [hw])
      repeat (refine sR ?_; simp [hw])
      refine sE ?_
      refine ⟨i + 1, ⟨hlt, ?_⟩, by omega, Weaks.mk (Nat.le_refl _) rfl (by simp [ToL]; exact .same (okFn hc hbox [] (by simp) rfl _)) trivial⟩
      exact hmore he
    · obtain ⟨h1, h2⟩ := hpx he
      refine sC ?_
      simp
      try (simp)
      repeat (refine sR ?_; simp)
      refine sT ?_
      try simp only [AU]
      refine ⟨by simp, sF hbox htok (fun _ h => h) (Nat.le_refl _) ?_⟩
      simp [packA, h1, h2]
  · refine sX ?_
    simp only [AU, ↓reduceIte]
    try (simp)
    repeat (refine sR ?_; simp)
    have hn : anyB p xs = false := by
      rw [List.take_of_length_le hge] at htk
      simpa [anyB] using htk
    refine sT ?_
    try simp only [AU]
    refine ⟨by simp, sF hbox htok (fun _ h => h) (Nat.le_refl _) ?_⟩
    simp [packA, hn]
theorem containsFuncM_c (xs : List Cm) (f : FuncId) (caps : List AV) (p : Cm → Bool) (hx : xs.length ≤ 200000000000000) (box : Nat → Option (List (List AV))) (nb : Nat) (tok : Nat → Bool) (nt : Nat) (hc : ∀ c ∈ caps, OkIn (fun k => box k ≠ none) (fun _ => True) c)
    (hf : ∀ x ∈ xs, ∀ box' nb', Ext box box' → ACalls Tryz.prog f (x.av :: caps) ⟨box', nb', tok, nt⟩ fun v m => v = B (p x) ∧ m = ⟨box', nb', tok, nt⟩) :
    ACalls Tryz.prog 157 [.d (cms xs), .fn (.func f) caps] ⟨box, nb, tok, nt⟩ fun v m => v = B (anyB p xs) ∧ m = ⟨box, nb, tok, nt⟩ := by
  refine sB Tryz.func157 Tryz.ntmps157 ?_
  intro hbox htok
  simp only at hbox htok
  apply AL.start
  try (simp)
  repeat (refine sR ?_; simp)
  refine Stop.of_b (indexFuncM_c xs f caps p hx (lb nb box []) _ _ _ (fun c h => (hc c h).mono (fun k hk => by rw [hbox]; exact hk) fun _ h => h) (fun x hx' box' nb' he => hf x hx' box' nb' (by rw [hbox] at he; exact he))) ?_
  simp
  cases hany : anyB p xs
  · try (simp)
    repeat (refine sR ?_; simp)
    refine sT ?_
    try simp only [AU]
    refine ⟨by simp, sF hbox htok (fun _ h => h) (Nat.le_refl _) ?_⟩
    simp [packA]
  · have h0 : (0 : Int) ≤ (xs.findIdx p : Nat) := by omega
    try (simp)
    repeat (refine sR ?_; simp)
    refine sT ?_
    try simp only [AU]
    refine ⟨by simp, sF hbox htok (fun _ h => h) (Nat.le_refl _) ?_⟩
    simp [packA, h0]
theorem formed1_c (q : Cm) (tok : Nat → Bool) (nt : Nat) : DCall Tryz.prog 158 [q.av] tok nt (B (q.kind == 2)) tok nt := by
  intro box nb
  refine sB Tryz.func158 Tryz.ntmps158 ?_
  intro hbox htok
  simp only at hbox htok
  apply AL.start
  try (simp)
  repeat (refine sR ?_; simp)
  refine sT ?_
  try simp only [AU]
  refine ⟨by simp, sF hbox htok (fun _ h => h) (Nat.le_refl _) ?_⟩
  simp [packA]
def stIR (xs : List ByteArray) (f : FuncId) (caps : List AV) (nb : Nat) (box : Nat → Option (List (List AV))) (tok : Nat → Bool) (nt : Nat) (i : Nat) : AState := ⟨tl [(0, .d (rules46 xs)), (1, .fn (.func f) caps), (7, I xs.length), (8, I i)], lb nb box [], tok, nt⟩
theorem indexFuncR_c (xs : List ByteArray) (f : FuncId) (caps : List AV) (p : ByteArray → Bool) (hx : xs.length ≤ 200000000000000) (box : Nat → Option (List (List AV))) (nb : Nat) (tok : Nat → Bool) (nt : Nat) (hc : ∀ c ∈ caps, OkIn (fun k => box k ≠ none) (fun _ => True) c)
    (hf : ∀ x ∈ xs, ∀ box' nb', Ext box box' → ACalls Tryz.prog f (ruleAv x :: caps) ⟨box', nb', tok, nt⟩ fun v m => v = B (p x) ∧ m = ⟨box', nb', tok, nt⟩) :
    ACalls Tryz.prog 159 [.d (rules46 xs), .fn (.func f) caps] ⟨box, nb, tok, nt⟩ fun v m => v = I (if anyB p xs = true then (xs.findIdx p : Nat) else -1) ∧ m = ⟨box, nb, tok, nt⟩ := by
  refine sB Tryz.func159 Tryz.ntmps159 ?_
  intro hbox htok
  simp only at hbox htok
  apply AL.start
  try (simp)
  repeat (refine sR ?_; simp)
  refine sN ?_
  refine AL.loopT (stIR xs f caps nb box tok nt) (fun i => i ≤ xs.length ∧ ∀ x ∈ xs.take i, p x = false) (fun i => xs.length - i) 0 ⟨Nat.zero_le _, by simp⟩ (Weaks.mk (Nat.le_refl _) rfl (by simp [ToL]; exact .same (okFn hc hbox [] (by simp) rfl _)) trivial) ?_
  rintro i S ⟨hi, htk⟩ hS
  simp only [stIR] at hS
  subst hS
  have hw := sW (i := i) (by omega)
  try (simp)
  repeat (refine sR ?_; simp)
  refine sC ?_
  simp
  refine ⟨fun hlt => ?_, fun hge => ?_⟩
  · have hfx := hf xs[i] (List.getElem_mem _)
    have hpx : p xs[i] = true → anyB p xs = true ∧ (xs.findIdx p = i) := fun he => any_takeG hlt htk he
    have hmore : p xs[i] = false → ∀ x ∈ xs.take (i + 1), p x = false := fun he x hx => by
      rw [List.take_succ_eq_append_getElem hlt] at hx
      rcases List.mem_append.1 hx with hx | hx
      · exact htk x hx
      · simp at hx; rw [hx]; exact he
    try (simp [hlt])
    repeat (refine sR ?_; simp [hlt])
    generalize xs[i] = x at *
    refine Stop.of_b (hfx _ _ ((Ext.refl box).lb hbox [])) ?_
    simp
    cases he : p x
    · refine sC ?_
      simp
      try (simp [hw])
      repeat (refine sR ?_; simp [hw])
      refine sE ?_
      refine ⟨i + 1, ⟨hlt, ?_⟩, by omega, Weaks.mk (Nat.le_refl _) rfl (by simp [ToL]; exact .same (okFn hc hbox [] (by simp) rfl _)) trivial⟩
      exact hmore he
    · obtain ⟨h1, h2⟩ := hpx he
      refine sC ?_
      simp
      try (simp)
      repeat (refine sR ?_; simp)
      refine sT ?_
      try simp only [AU]
      refine ⟨by simp, sF hbox htok (fun _ h => h) (Nat.le_refl _) ?_⟩
      simp [packA, h1, h2]
  · refine sX ?_
    simp only [AU, ↓reduceIte]
    try (simp)
    repeat (refine sR ?_; simp)
    have hn : anyB p xs = false := by
      rw [List.take_of_length_le hge] at htk
      simpa [anyB] using htk
    refine sT ?_
    try simp only [AU]
    refine ⟨by simp, sF hbox htok (fun _ h => h) (Nat.le_refl _) ?_⟩
    simp [packA, hn]
theorem containsFuncR_c (xs : List ByteArray) (f : FuncId) (caps : List AV) (p : ByteArray → Bool) (hx : xs.length ≤ 200000000000000) (box : Nat → Option (List (List AV))) (nb : Nat) (tok : Nat → Bool) (nt : Nat) (hc : ∀ c ∈ caps, OkIn (fun k => box k ≠ none) (fun _ => True) c)
    (hf : ∀ x ∈ xs, ∀ box' nb', Ext box box' → ACalls Tryz.prog f (ruleAv x :: caps) ⟨box', nb', tok, nt⟩ fun v m => v = B (p x) ∧ m = ⟨box', nb', tok, nt⟩) :
    ACalls Tryz.prog 147 [.d (rules46 xs), .fn (.func f) caps] ⟨box, nb, tok, nt⟩ fun v m => v = B (anyB p xs) ∧ m = ⟨box, nb, tok, nt⟩ := by
  refine sB Tryz.func147 Tryz.ntmps147 ?_
  intro hbox htok
  simp only at hbox htok
  apply AL.start
  try (simp)
  repeat (refine sR ?_; simp)
  refine Stop.of_b (indexFuncR_c xs f caps p hx (lb nb box []) _ _ _ (fun c h => (hc c h).mono (fun k hk => by rw [hbox]; exact hk) fun _ h => h) (fun x hx' box' nb' he => hf x hx' box' nb' (by rw [hbox] at he; exact he))) ?_
  simp
  cases hany : anyB p xs
  · try (simp)
    repeat (refine sR ?_; simp)
    refine sT ?_
    try simp only [AU]
    refine ⟨by simp, sF hbox htok (fun _ h => h) (Nat.le_refl _) ?_⟩
    simp [packA]
  · have h0 : (0 : Int) ≤ (xs.findIdx p : Nat) := by omega
    try (simp)
    repeat (refine sR ?_; simp)
    refine sT ?_
    try simp only [AU]
    refine ⟨by simp, sF hbox htok (fun _ h => h) (Nat.le_refl _) ?_⟩
    simp [packA, h0]
theorem own1_c (r : ByteArray) (c : Cm) (box : Nat → Option (List (List AV))) (nb k : Nat) (tok : Nat → Bool) (nt : Nat) (h : box k = some [c.row]) :
    ACalls Tryz.prog 148 [ruleAv r, .ptr k 0 0] ⟨box, nb, tok, nt⟩ fun v m => v = B (decide (c.name = r)) ∧ m = ⟨box, nb, tok, nt⟩ := by
  refine sB Tryz.func148 Tryz.ntmps148 ?_
  intro hbox htok
  simp only at hbox htok
  apply AL.start
  have kn := key_lt hbox h
  have e := seq_dec r c.name
  have e2 : decide (r = c.name) = decide (c.name = r) := by rw [Bool.eq_iff_iff, decide_eq_true_eq, decide_eq_true_eq]; exact eq_comm
  rw [e2] at e
  try (simp [lb_out kn, h])
  repeat (refine sR ?_; simp [lb_out kn, h])
  refine sT ?_
  try simp only [AU]
  refine ⟨by simp, sF hbox htok (fun _ h => h) (Nat.le_refl _) ?_⟩
  simp [packA, e]
end Go.AM
namespace Go.AM
open Go Go.Proofs
def lenB (c : Cm) : Bool :=
  if c.kind = 2 ∨ c.kind = 3 then decide (2 ≤ c.kids.length) else if c.kind = 4 then decide (c.kids.length = 3)
   else if c.kind = 5 ∨ c.kind = 6 ∨ c.kind = 7 then decide (c.kids.length = 1) else if c.kind = 1 ∨ c.kind = 8 ∨ c.kind = 9 ∨ c.kind = 10 then decide (c.kids.length = 0) else false
theorem okB_len (c : Cm) : okB c = (lenB c && !(decide (c.kind = 2) && c.kids.any fun k => k.kind == 2) && (decide (c.kind = 1 ∨ c.kind = 10) || decide (c.name = ⟨#[]⟩)) && (decide (c.kind = 6) || decide (c.num = 0))) := by
  unfold okB lenB
  congr 2
  by_cases h2 : c.kind = 2
  · simp [h2]
  · by_cases h3 : c.kind = 3
    · simp [h3]
    · simp [h2, h3]
theorem name_nil {s : ByteArray} : s.toList = [] ↔ s = ⟨#[]⟩ := by
  have h := seq_iff (a := s) (b := ⟨#[]⟩)
  simpa using h
structure I2 where
  a : Int
  b : Int
def stFo (c : Cm) (nb : Nat) (box : Nat → Option (List (List AV))) (tok : Nat → Bool) (nt : Nat) (a : I2) : AState := ⟨tl [(1, .ptr (nb + 1) 0 0), (3, I a.a), (4, I a.b)], lb nb box [(1, [c.row])], tok, nt⟩
set_option maxRecDepth 100000 in
theorem formed_c (c : Cm) (hl : c.kids.length ≤ 200000000000000) (tok : Nat → Bool) (nt : Nat) : DCall Tryz.prog 146 [c.av] tok nt (B (okB c)) tok nt := by
  intro box nb
  have hk : c.kind = 2 ∨ c.kind = 3 ∨ c.kind = 4 ∨ c.kind = 5 ∨ c.kind = 6 ∨ c.kind = 7 ∨ c.kind = 1 ∨ c.kind = 8 ∨ c.kind = 9 ∨ c.kind = 10 ∨ (c.kind ≠ 2 ∧ c.kind ≠ 3 ∧ c.kind ≠ 4 ∧ c.kind ≠ 5 ∧ c.kind ≠ 6 ∧ c.kind ≠ 7 ∧ c.kind ≠ 1 ∧ c.kind ≠ 8 ∧ c.kind ≠ 9 ∧ c.kind ≠ 10) := by omega
  have hok := okB_len c
  refine sB Tryz.func146 Tryz.ntmps146 ?_
  intro hbox htok
  simp only at hbox htok
  apply AL.start
  try (simp)
  repeat (refine sR ?_; simp)
  refine AL.cut (l := [_, _, _]) (stFo c nb box tok nt) (fun a => lenB c = (decide (a.a ≤ (c.kids.length : Int)) && decide ((c.kids.length : Int) ≤ a.b))) ?_ ?_
  · rcases hk with hk | hk | hk | hk | hk | hk | hk | hk | hk | hk | hk
    · try (simp [hk])
      repeat (first | (refine sR ?_; simp [hk]) | (refine sC ?_; simp [hk]) | (refine sX ?_; simp only [AU, ↓reduceIte]))
      refine sE ?_
      exact ⟨⟨2, c.kids.length⟩, by simp only [lenB, hk]; rw [Bool.eq_iff_iff]; simp; omega, Weaks.mk (Nat.le_refl _) rfl (by simp [ToL, lk]) (by simp [BoxL, lk])⟩
    · try (simp [hk])
      repeat (first | (refine sR ?_; simp [hk]) | (refine sC ?_; simp [hk]) | (refine sX ?_; simp only [AU, ↓reduceIte]))
      refine sE ?_
      exact ⟨⟨2, c.kids.length⟩, by simp only [lenB, hk]; rw [Bool.eq_iff_iff]; simp; omega, Weaks.mk (Nat.le_refl _) rfl (by simp [ToL, lk]) (by simp [BoxL, lk])⟩
    · try (simp [hk])
      repeat (first | (refine sR ?_; simp [hk]) | (refine sC ?_; simp [hk]) | (refine sX ?_; simp only [AU, ↓reduceIte]))
      refine sE ?_
      exact ⟨⟨3, 3⟩, by simp only [lenB, hk]; rw [Bool.eq_iff_iff]; simp; omega, Weaks.mk (Nat.le_refl _) rfl (by simp [ToL, lk]) (by simp [BoxL, lk])⟩
    · try (simp [hk])
      repeat (first | (refine sR ?_; simp [hk]) | (refine sC ?_; simp [hk]) | (refine sX ?_; simp only [AU, ↓reduceIte]))
      refine sE ?_
      exact ⟨⟨1, 1⟩, by simp only [lenB, hk]; rw [Bool.eq_iff_iff]; simp; omega, Weaks.mk (Nat.le_refl _) rfl (by simp [ToL, lk]) (by simp [BoxL, lk])⟩
    · try (simp [hk])
      repeat (first | (refine sR ?_; simp [hk]) | (refine sC ?_; simp [hk]) | (refine sX ?_; simp only [AU, ↓reduceIte]))
      refine sE ?_
      exact ⟨⟨1, 1⟩, by simp only [lenB, hk]; rw [Bool.eq_iff_iff]; simp; omega, Weaks.mk (Nat.le_refl _) rfl (by simp [ToL, lk]) (by simp [BoxL, lk])⟩
    · try (simp [hk])
      repeat (first | (refine sR ?_; simp [hk]) | (refine sC ?_; simp [hk]) | (refine sX ?_; simp only [AU, ↓reduceIte]))
      refine sE ?_
      exact ⟨⟨1, 1⟩, by simp only [lenB, hk]; rw [Bool.eq_iff_iff]; simp; omega, Weaks.mk (Nat.le_refl _) rfl (by simp [ToL, lk]) (by simp [BoxL, lk])⟩
    · try (simp [hk])
      repeat (first | (refine sR ?_; simp [hk]) | (refine sC ?_; simp [hk]) | (refine sX ?_; simp only [AU, ↓reduceIte]))
      refine sE ?_
      exact ⟨⟨0, 0⟩, by simp only [lenB, hk]; rw [Bool.eq_iff_iff]; simp, Weaks.mk (Nat.le_refl _) rfl (by simp [ToL, lk]) (by simp [BoxL, lk])⟩
    · try (simp [hk])
      repeat (first | (refine sR ?_; simp [hk]) | (refine sC ?_; simp [hk]) | (refine sX ?_; simp only [AU, ↓reduceIte]))
      refine sE ?_
      exact ⟨⟨0, 0⟩, by simp only [lenB, hk]; rw [Bool.eq_iff_iff]; simp, Weaks.mk (Nat.le_refl _) rfl (by simp [ToL, lk]) (by simp [BoxL, lk])⟩
    · try (simp [hk])
      repeat (first | (refine sR ?_; simp [hk]) | (refine sC ?_; simp [hk]) | (refine sX ?_; simp only [AU, ↓reduceIte]))
      refine sE ?_
      exact ⟨⟨0, 0⟩, by simp only [lenB, hk]; rw [Bool.eq_iff_iff]; simp, Weaks.mk (Nat.le_refl _) rfl (by simp [ToL, lk]) (by simp [BoxL, lk])⟩
    · try (simp [hk])
      repeat (first | (refine sR ?_; simp [hk]) | (refine sC ?_; simp [hk]) | (refine sX ?_; simp only [AU, ↓reduceIte]))
      refine sE ?_
      exact ⟨⟨0, 0⟩, by simp only [lenB, hk]; rw [Bool.eq_iff_iff]; simp, Weaks.mk (Nat.le_refl _) rfl (by simp [ToL, lk]) (by simp [BoxL, lk])⟩
    · have hn : okB c = false := by rw [hok]; simp [lenB, hk]
      have b1 : (c.kind == 2) = false := by simp [hk]
      have b2 : (c.kind == 3) = false := by simp [hk]
      have b3 : (c.kind == 4) = false := by simp [hk]
      have b4 : (c.kind == 5) = false := by simp [hk]
      have b5 : (c.kind == 6) = false := by simp [hk]
      have b6 : (c.kind == 7) = false := by simp [hk]
      have b7 : (c.kind == 1) = false := by simp [hk]
      have b8 : (c.kind == 8) = false := by simp [hk]
      have b9 : (c.kind == 9) = false := by simp [hk]
      have b10 : (c.kind == 10) = false := by simp [hk]
      rw [hn]
      simp only [b1]
      try (simp [b2, b3, b4, b5, b6, b7, b8, b9, b10])
      repeat (first | (refine sR ?_; simp [b2, b3, b4, b5, b6, b7, b8, b9, b10]) | (refine sC ?_; simp [b2, b3, b4, b5, b6, b7, b8, b9, b10]) | (refine sX ?_; simp only [AU, ↓reduceIte]))
      refine sT ?_
      try simp only [AU]
      refine ⟨by simp, sF hbox htok (fun _ h => h) (Nat.le_refl _) ?_⟩
      simp [packA]
  · rintro ⟨a, b⟩ hab
    simp only at hab
    simp only [stFo]
    have hx := fun tok nt => containsFuncM_c c.kids 158 [] (fun k => k.kind == 2) hl (lb nb box [(1, [c.row])]) (nb + 69) tok nt (by simp) (fun x _ box' nb' _ => formed1_c x tok nt box' nb')
    by_cases h1 : (c.kids.length : Int) < a
    · have hn : okB c = false := by rw [hok, hab]; simp; omega
      rw [hn]
      try (simp [h1])
      repeat (first | (refine sR ?_; simp [h1]) | (refine sC ?_; simp [h1]) | (refine sX ?_; simp only [AU, ↓reduceIte]))
      refine sT ?_
      try simp only [AU]
      refine ⟨by simp, sF hbox htok (fun _ h => h) (Nat.le_refl _) ?_⟩
      simp [packA]
    · by_cases h2 : b < (c.kids.length : Int)
      · have hn : okB c = false := by rw [hok, hab]; simp; omega
        rw [hn]
        try (simp [h1, h2])
        repeat (first | (refine sR ?_; simp [h1, h2]) | (refine sC ?_; simp [h1, h2]) | (refine sX ?_; simp only [AU, ↓reduceIte]))
        refine sT ?_
        try simp only [AU]
        refine ⟨by simp, sF hbox htok (fun _ h => h) (Nat.le_refl _) ?_⟩
        simp [packA]
      · have hlt : lenB c = true := by rw [hab]; simp; omega
        rw [hlt] at hok
        by_cases k2 : c.kind = 2
        · try (simp [h1, h2, k2])
          repeat (first | (refine sR ?_; simp [h1, h2, k2]) | (refine sC ?_; simp [h1, h2, k2]) | (refine sX ?_; simp only [AU, ↓reduceIte]))
          refine Stop.of_b (hx _ _) ?_
          simp
          cases ha : anyB (fun k : Cm => k.kind == 2) c.kids
          · have ha' : (c.kids.any fun k => k.kind == 2) = false := ha
            by_cases hs : c.name = ⟨#[]⟩
            · have hs' := name_nil.2 hs
              by_cases hn : c.num = 0
              · try (simp [k2, hs', hn])
                repeat (first | (refine sR ?_; simp [k2, hs', hn]) | (refine sC ?_; simp [k2, hs', hn]) | (refine sX ?_; simp only [AU, ↓reduceIte]))
                refine sT ?_
                try simp only [AU]
                refine ⟨by simp, sF hbox htok (fun _ h => h) (Nat.le_refl _) ?_⟩
                simp [packA, hok, k2, ha', hs, hn]
              · have hn' : (c.num == 0) = false := by simp [hn]
                try (simp [k2, hs', hn'])
                repeat (first | (refine sR ?_; simp [k2, hs', hn']) | (refine sC ?_; simp [k2, hs', hn']) | (refine sX ?_; simp only [AU, ↓reduceIte]))
                refine sT ?_
                try simp only [AU]
                refine ⟨by simp, sF hbox htok (fun _ h => h) (Nat.le_refl _) ?_⟩
                simp [packA, hok, k2, ha', hs, hn]
            · have hs' : c.name.toList.isEmpty = false := by simpa using fun h => hs (name_nil.1 h)
              try (simp [k2, hs'])
              repeat (first | (refine sR ?_; simp [k2, hs']) | (refine sC ?_; simp [k2, hs']) | (refine sX ?_; simp only [AU, ↓reduceIte]))
              refine sT ?_
              try simp only [AU]
              refine ⟨by simp, sF hbox htok (fun _ h => h) (Nat.le_refl _) ?_⟩
              simp [packA, hok, k2, ha', hs]
          · have ha' : (c.kids.any fun k => k.kind == 2) = true := ha
            try (simp)
            repeat (first | (refine sR ?_; simp) | (refine sC ?_; simp) | (refine sX ?_; simp only [AU, ↓reduceIte]))
            refine sT ?_
            try simp only [AU]
            refine ⟨by simp, sF hbox htok (fun _ h => h) (Nat.le_refl _) ?_⟩
            simp [packA, hok, k2, ha']
        · have b2 : (c.kind == 2) = false := by simp [k2]
          by_cases k1 : c.kind = 1
          · by_cases hn : c.num = 0
            · try (simp [h1, h2, b2, k1, hn])
              repeat (first | (refine sR ?_; simp [h1, h2, b2, k1, hn]) | (refine sC ?_; simp [h1, h2, b2, k1, hn]) | (refine sX ?_; simp only [AU, ↓reduceIte]))
              refine sT ?_
              try simp only [AU]
              refine ⟨by simp, sF hbox htok (fun _ h => h) (Nat.le_refl _) ?_⟩
              simp [packA, hok, k2, k1, hn]
            · have hn' : (c.num == 0) = false := by simp [hn]
              try (simp [h1, h2, b2, k1, hn'])
              repeat (first | (refine sR ?_; simp [h1, h2, b2, k1, hn']) | (refine sC ?_; simp [h1, h2, b2, k1, hn']) | (refine sX ?_; simp only [AU, ↓reduceIte]))
              refine sT ?_
              try simp only [AU]
              refine ⟨by simp, sF hbox htok (fun _ h => h) (Nat.le_refl _) ?_⟩
              simp [packA, hok, k2, k1, hn]
          · have b1 : (c.kind == 1) = false := by simp [k1]
            by_cases k10 : c.kind = 10
            · by_cases hn : c.num = 0
              · try (simp [h1, h2, b2, k10, hn])
                repeat (first | (refine sR ?_; simp [h1, h2, b2, k10, hn]) | (refine sC ?_; simp [h1, h2, b2, k10, hn]) | (refine sX ?_; simp only [AU, ↓reduceIte]))
                refine sT ?_
                try simp only [AU]
                refine ⟨by simp, sF hbox htok (fun _ h => h) (Nat.le_refl _) ?_⟩
                simp [packA, hok, k2, k10, hn]
              · have hn' : (c.num == 0) = false := by simp [hn]
                try (simp [h1, h2, b2, k10, hn'])
                repeat (first | (refine sR ?_; simp [h1, h2, b2, k10, hn']) | (refine sC ?_; simp [h1, h2, b2, k10, hn']) | (refine sX ?_; simp only [AU, ↓reduceIte]))
                refine sT ?_
                try simp only [AU]
                refine ⟨by simp, sF hbox htok (fun _ h => h) (Nat.le_refl _) ?_⟩
                simp [packA, hok, k2, k10, hn]
            · have b10 : (c.kind == 10) = false := by simp [k10]
              by_cases hs : c.name = ⟨#[]⟩
              · have hs' := name_nil.2 hs
                by_cases k6 : c.kind = 6
                · try (simp [h1, h2, k6, hs'])
                  repeat (first | (refine sR ?_; simp [h1, h2, k6, hs']) | (refine sC ?_; simp [h1, h2, k6, hs']) | (refine sX ?_; simp only [AU, ↓reduceIte]))
                  refine sT ?_
                  try simp only [AU]
                  refine ⟨by simp, sF hbox htok (fun _ h => h) (Nat.le_refl _) ?_⟩
                  simp [packA, hok, k6, hs]
                · have b6 : (c.kind == 6) = false := by simp [k6]
                  by_cases hn : c.num = 0
                  · try (simp [h1, h2, b2, b1, b10, b6, hs', hn])
                    repeat (first | (refine sR ?_; simp [h1, h2, b2, b1, b10, b6, hs', hn]) | (refine sC ?_; simp [h1, h2, b2, b1, b10, b6, hs', hn]) | (refine sX ?_; simp only [AU, ↓reduceIte]))
                    refine sT ?_
                    try simp only [AU]
                    refine ⟨by simp, sF hbox htok (fun _ h => h) (Nat.le_refl _) ?_⟩
                    simp [packA, hok, k2, k1, k10, k6, hs, hn]
                  · have hn' : (c.num == 0) = false := by simp [hn]
                    try (simp [h1, h2, b2, b1, b10, b6, hs', hn'])
                    repeat (first | (refine sR ?_; simp [h1, h2, b2, b1, b10, b6, hs', hn']) | (refine sC ?_; simp [h1, h2, b2, b1, b10, b6, hs', hn']) | (refine sX ?_; simp only [AU, ↓reduceIte]))
                    refine sT ?_
                    try simp only [AU]
                    refine ⟨by simp, sF hbox htok (fun _ h => h) (Nat.le_refl _) ?_⟩
                    simp [packA, hok, k2, k1, k10, k6, hs, hn]
              · have hs' : c.name.toList.isEmpty = false := by simpa using fun h => hs (name_nil.1 h)
                try (simp [h1, h2, b2, b1, b10, hs'])
                repeat (first | (refine sR ?_; simp [h1, h2, b2, b1, b10, hs']) | (refine sC ?_; simp [h1, h2, b2, b1, b10, hs']) | (refine sX ?_; simp only [AU, ↓reduceIte]))
                refine sT ?_
                try simp only [AU]
                refine ⟨by simp, sF hbox htok (fun _ h => h) (Nat.le_refl _) ?_⟩
                simp [packA, hok, k1, k10, hs]
end Go.AM
