/-
 Parts of the proof, as merged from many texts: a machine over data, what the functions compute, plain laws.
-/
import Derived.Test.YtainalmfffjnjaaGreatDoorPKE5
import Derived.Test.YtainalmfffjnjaaGreatDoorRows
set_option linter.unusedSimpArgs false
set_option linter.unusedVariables false
namespace Go.AM
open Go Go.Proofs
theorem follows_Tryz:Tryz.prog.follows .mixedOrders=true:=by kernel_rfl
@[simp] theorem tb10_E6:(szOf Tryz.prog 2=some 1)∧(aggT Tryz.prog 2=some false)∧(strT Tryz.prog 2=false)∧(boolT Tryz.prog 2=false)∧(elemT Tryz.prog 2=none)∧(rowT Tryz.prog 2=none)∧(kindT Tryz.prog 2=some .i64)∧(zeroT Tryz.prog 2=some [.int .i64 0])∧(szOf Tryz.prog 3=some 1)∧(aggT Tryz.prog 3=some false)∧(strT Tryz.prog 3=false)∧(boolT Tryz.prog 3=false):=by
 and_intros <;> kernel_rfl
@[simp] theorem tb11_E6:(elemT Tryz.prog 3=none)∧(rowT Tryz.prog 3=none)∧(kindT Tryz.prog 3=some .i64)∧(zeroT Tryz.prog 3=some [.int .i64 0])∧(szOf Tryz.prog 4=some 1)∧(aggT Tryz.prog 4=some false)∧(strT Tryz.prog 4=false)∧(boolT Tryz.prog 4=true)∧(elemT Tryz.prog 4=none)∧(rowT Tryz.prog 4=none)∧(zeroT Tryz.prog 4=some [.bool false])∧(szOf Tryz.prog 5=some 1):=by
 and_intros <;> kernel_rfl
@[simp] theorem tb12_E6:(aggT Tryz.prog 5=some false)∧(strT Tryz.prog 5=false)∧(boolT Tryz.prog 5=false)∧(elemT Tryz.prog 5=none)∧(rowT Tryz.prog 5=none)∧(kindT Tryz.prog 5=some .u8)∧(zeroT Tryz.prog 5=some [.int .u8 0])∧(szOf Tryz.prog 9=some 1)∧(aggT Tryz.prog 9=some false)∧(strT Tryz.prog 9=true)∧(boolT Tryz.prog 9=false)∧(elemT Tryz.prog 9=none):=by
 and_intros <;> kernel_rfl
@[simp] theorem tb13_E6:(rowT Tryz.prog 9=none)∧(zeroT Tryz.prog 9=some [.string ⟨#[]⟩])∧(szOf Tryz.prog 21=some 1)∧(aggT Tryz.prog 21=some false)∧(strT Tryz.prog 21=false)∧(boolT Tryz.prog 21=false)∧(elemT Tryz.prog 21=none)∧(rowT Tryz.prog 21=none)∧(kindT Tryz.prog 21=some .i32)∧(zeroT Tryz.prog 21=some [.int .i32 0])∧(szOf Tryz.prog 22=some 1)∧(aggT Tryz.prog 22=some false):=by
 and_intros <;> kernel_rfl
@[simp] theorem tb14_E6:(strT Tryz.prog 22=false)∧(boolT Tryz.prog 22=false)∧(elemT Tryz.prog 22=some 106)∧(rowT Tryz.prog 22=some (106,4,56))∧(makeT Tryz.prog 22=some (4,56,[.string ⟨#[]⟩,.int .i64 0,.bool false,.slice none 0 0]))∧(zeroT Tryz.prog 22=some [.slice none 0 0])∧(szOf Tryz.prog 23=some 1)∧(aggT Tryz.prog 23=some false)∧(strT Tryz.prog 23=false)∧(boolT Tryz.prog 23=false)∧(elemT Tryz.prog 23=some 143)∧(rowT Tryz.prog 23=some (143,7,64)):=by
 and_intros <;> kernel_rfl
@[simp] theorem tb15_E6:(makeT Tryz.prog 23=some (7,64,[.string ⟨#[]⟩,.int .i64 0,.int .i64 0,.int .i64 0,.int .i64 0,.int .i64 0,.int .i64 0]))∧(zeroT Tryz.prog 23=some [.slice none 0 0])∧(szOf Tryz.prog 25=some 2)∧(aggT Tryz.prog 25=some true)∧(strT Tryz.prog 25=false)∧(boolT Tryz.prog 25=false)∧(elemT Tryz.prog 25=none)∧(rowT Tryz.prog 25=none)∧(structT Tryz.prog 25=some [(0,1),(1,1)])∧(fieldT Tryz.prog 25 0=some (22,0))∧(fieldT Tryz.prog 25 1=some (23,1))∧(zeroT Tryz.prog 25=some [.slice none 0 0,.slice none 0 0]):=by
 and_intros <;> kernel_rfl
@[simp] theorem tb16_E6:(szOf Tryz.prog 26=some 1)∧(aggT Tryz.prog 26=some false)∧(strT Tryz.prog 26=false)∧(boolT Tryz.prog 26=false)∧(elemT Tryz.prog 26=some 3)∧(rowT Tryz.prog 26=some (3,1,8))∧(makeT Tryz.prog 26=some (1,8,[.int .i64 0]))∧(zeroT Tryz.prog 26=some [.slice none 0 0])∧(szOf Tryz.prog 27=some 1)∧(aggT Tryz.prog 27=some false)∧(strT Tryz.prog 27=false)∧(boolT Tryz.prog 27=false):=by
 and_intros <;> kernel_rfl
@[simp] theorem tb17_E6:(elemT Tryz.prog 27=some 139)∧(rowT Tryz.prog 27=some (139,3,24))∧(makeT Tryz.prog 27=some (3,24,[.int .i64 0,.int .i64 0,.int .i64 0]))∧(zeroT Tryz.prog 27=some [.slice none 0 0])∧(szOf Tryz.prog 29=some 2)∧(aggT Tryz.prog 29=some true)∧(strT Tryz.prog 29=false)∧(boolT Tryz.prog 29=false)∧(elemT Tryz.prog 29=none)∧(rowT Tryz.prog 29=none)∧(structT Tryz.prog 29=some [(0,1),(1,1)])∧(fieldT Tryz.prog 29 0=some (26,0)):=by
 and_intros <;> kernel_rfl
@[simp] theorem tb18_E6:(fieldT Tryz.prog 29 1=some (27,1))∧(zeroT Tryz.prog 29=some [.slice none 0 0,.slice none 0 0])∧(szOf Tryz.prog 30=some 1)∧(aggT Tryz.prog 30=some false)∧(strT Tryz.prog 30=false)∧(boolT Tryz.prog 30=false)∧(elemT Tryz.prog 30=some 146)∧(rowT Tryz.prog 30=some (146,4,96))∧(makeT Tryz.prog 30=some (4,96,[.slice none 0 0,.slice none 0 0,.slice none 0 0,.slice none 0 0]))∧(zeroT Tryz.prog 30=some [.slice none 0 0])∧(szOf Tryz.prog 32=some 5)∧(aggT Tryz.prog 32=some true):=by
 and_intros <;> kernel_rfl
@[simp] theorem tb19_E6:(strT Tryz.prog 32=false)∧(boolT Tryz.prog 32=false)∧(elemT Tryz.prog 32=none)∧(rowT Tryz.prog 32=none)∧(structT Tryz.prog 32=some [(0,1),(1,1),(2,2),(4,1)])∧(fieldT Tryz.prog 32 0=some (9,0))∧(fieldT Tryz.prog 32 1=some (3,1))∧(fieldT Tryz.prog 32 2=some (29,2))∧(fieldT Tryz.prog 32 3=some (30,4))∧(zeroT Tryz.prog 32=some [.string ⟨#[]⟩,.int .i64 0,.slice none 0 0,.slice none 0 0,.slice none 0 0])∧(szOf Tryz.prog 36=some 1)∧(aggT Tryz.prog 36=some false):=by
 and_intros <;> kernel_rfl
@[simp] theorem tb20_E6:(strT Tryz.prog 36=false)∧(boolT Tryz.prog 36=false)∧(elemT Tryz.prog 36=some 44)∧(rowT Tryz.prog 36=some (44,9,184))∧(makeT Tryz.prog 36=some (9,184,[.int .i64 0,.slice none 0 0,.slice none 0 0,.slice none 0 0,.slice none 0 0,.slice none 0 0,.slice none 0 0,.int .i64 0,.slice none 0 0]))∧(zeroT Tryz.prog 36=some [.slice none 0 0])∧(szOf Tryz.prog 38=some 2)∧(aggT Tryz.prog 38=some true)∧(strT Tryz.prog 38=false)∧(boolT Tryz.prog 38=false)∧(elemT Tryz.prog 38=none)∧(rowT Tryz.prog 38=none):=by
 and_intros <;> kernel_rfl
@[simp] theorem tb21_E6:(structT Tryz.prog 38=some [(0,1),(1,1)])∧(fieldT Tryz.prog 38 0=some (26,0))∧(fieldT Tryz.prog 38 1=some (26,1))∧(zeroT Tryz.prog 38=some [.slice none 0 0,.slice none 0 0])∧(szOf Tryz.prog 39=some 1)∧(aggT Tryz.prog 39=some false)∧(strT Tryz.prog 39=false)∧(boolT Tryz.prog 39=false)∧(elemT Tryz.prog 39=some 159)∧(rowT Tryz.prog 39=some (159,4,32))∧(makeT Tryz.prog 39=some (4,32,[.int .i64 0,.int .i64 0,.int .i64 0,.int .i64 0]))∧(zeroT Tryz.prog 39=some [.slice none 0 0]):=by
 and_intros <;> kernel_rfl
@[simp] theorem tb22_E6:(szOf Tryz.prog 40=some 1)∧(aggT Tryz.prog 40=some false)∧(strT Tryz.prog 40=false)∧(boolT Tryz.prog 40=false)∧(elemT Tryz.prog 40=some 161)∧(rowT Tryz.prog 40=some (161,5,40))∧(makeT Tryz.prog 40=some (5,40,[.int .i64 0,.int .i64 0,.int .i64 0,.int .i64 0,.int .i64 0]))∧(zeroT Tryz.prog 40=some [.slice none 0 0])∧(szOf Tryz.prog 42=some 5)∧(aggT Tryz.prog 42=some true)∧(strT Tryz.prog 42=false)∧(boolT Tryz.prog 42=false):=by
 and_intros <;> kernel_rfl
@[simp] theorem tb23_E6:(elemT Tryz.prog 42=none)∧(rowT Tryz.prog 42=none)∧(structT Tryz.prog 42=some [(0,2),(2,1),(3,1),(4,1)])∧(fieldT Tryz.prog 42 0=some (29,0))∧(fieldT Tryz.prog 42 1=some (39,2))∧(fieldT Tryz.prog 42 2=some (3,3))∧(fieldT Tryz.prog 42 3=some (40,4))∧(zeroT Tryz.prog 42=some [.slice none 0 0,.slice none 0 0,.slice none 0 0,.int .i64 0,.slice none 0 0])∧(szOf Tryz.prog 44=some 9)∧(aggT Tryz.prog 44=some true)∧(strT Tryz.prog 44=false)∧(boolT Tryz.prog 44=false):=by
 and_intros <;> kernel_rfl
@[simp] theorem tb24_E6:(elemT Tryz.prog 44=none)∧(rowT Tryz.prog 44=none)∧(structT Tryz.prog 44=some [(0,1),(1,1),(2,2),(4,5)])∧(fieldT Tryz.prog 44 0=some (3,0))∧(fieldT Tryz.prog 44 1=some (36,1))∧(fieldT Tryz.prog 44 2=some (38,2))∧(fieldT Tryz.prog 44 3=some (42,4))∧(zeroT Tryz.prog 44=some [.int .i64 0,.slice none 0 0,.slice none 0 0,.slice none 0 0,.slice none 0 0,.slice none 0 0,.slice none 0 0,.int .i64 0,.slice none 0 0])∧(szOf Tryz.prog 45=some 1)∧(aggT Tryz.prog 45=some false)∧(strT Tryz.prog 45=false)∧(boolT Tryz.prog 45=false):=by
 and_intros <;> kernel_rfl
@[simp] theorem tb25_E6:(elemT Tryz.prog 45=none)∧(rowT Tryz.prog 45=none)∧(kindT Tryz.prog 45=some .i64)∧(zeroT Tryz.prog 45=some [.int .i64 0])∧(szOf Tryz.prog 57=some 1)∧(aggT Tryz.prog 57=some false)∧(strT Tryz.prog 57=false)∧(boolT Tryz.prog 57=false)∧(elemT Tryz.prog 57=some 59)∧(rowT Tryz.prog 57=some (59,3,48))∧(makeT Tryz.prog 57=some (3,48,[.int .i64 0,.string ⟨#[]⟩,.slice none 0 0]))∧(zeroT Tryz.prog 57=some [.slice none 0 0]):=by
 and_intros <;> kernel_rfl
@[simp] theorem tb26_E6:(szOf Tryz.prog 59=some 3)∧(aggT Tryz.prog 59=some true)∧(strT Tryz.prog 59=false)∧(boolT Tryz.prog 59=false)∧(elemT Tryz.prog 59=none)∧(rowT Tryz.prog 59=none)∧(structT Tryz.prog 59=some [(0,1),(1,1),(2,1)])∧(fieldT Tryz.prog 59 0=some (3,0))∧(fieldT Tryz.prog 59 1=some (9,1))∧(fieldT Tryz.prog 59 2=some (57,2))∧(zeroT Tryz.prog 59=some [.int .i64 0,.string ⟨#[]⟩,.slice none 0 0])∧(szOf Tryz.prog 60=some 1):=by
 and_intros <;> kernel_rfl
@[simp] theorem tb27_E6:(aggT Tryz.prog 60=some false)∧(strT Tryz.prog 60=false)∧(boolT Tryz.prog 60=false)∧(elemT Tryz.prog 60=some 32)∧(rowT Tryz.prog 60=some (32,5,96))∧(makeT Tryz.prog 60=some (5,96,[.string ⟨#[]⟩,.int .i64 0,.slice none 0 0,.slice none 0 0,.slice none 0 0]))∧(zeroT Tryz.prog 60=some [.slice none 0 0])∧(szOf Tryz.prog 62=some 4)∧(aggT Tryz.prog 62=some true)∧(strT Tryz.prog 62=false)∧(boolT Tryz.prog 62=false)∧(elemT Tryz.prog 62=none):=by
 and_intros <;> kernel_rfl
@[simp] theorem tb28_E6:(rowT Tryz.prog 62=none)∧(structT Tryz.prog 62=some [(0,3),(3,1)])∧(fieldT Tryz.prog 62 0=some (59,0))∧(fieldT Tryz.prog 62 1=some (60,3))∧(zeroT Tryz.prog 62=some [.int .i64 0,.string ⟨#[]⟩,.slice none 0 0,.slice none 0 0])∧(szOf Tryz.prog 66=some 1):=by
 and_intros <;> kernel_rfl
@[simp] theorem aggT_66:aggT Tryz.prog 66=some false:=by kernel_rfl
@[simp] theorem tb30_E6:(strT Tryz.prog 66=false)∧(boolT Tryz.prog 66=false)∧(elemT Tryz.prog 66=some 5)∧(rowT Tryz.prog 66=some (5,1,1))∧(makeT Tryz.prog 66=some (1,1,[.int .u8 0]))∧(zeroT Tryz.prog 66=some [.slice none 0 0])∧(szOf Tryz.prog 67=some 1)∧(aggT Tryz.prog 67=some false)∧(strT Tryz.prog 67=false)∧(boolT Tryz.prog 67=false)∧(elemT Tryz.prog 67=some 169)∧(rowT Tryz.prog 67=some (169,2,2)):=by
 and_intros <;> kernel_rfl
@[simp] theorem tb31_E6:(makeT Tryz.prog 67=some (2,2,[.int .u8 0,.int .u8 0]))∧(zeroT Tryz.prog 67=some [.slice none 0 0])∧(szOf Tryz.prog 69=some 2)∧(aggT Tryz.prog 69=some true)∧(strT Tryz.prog 69=false)∧(boolT Tryz.prog 69=false)∧(elemT Tryz.prog 69=none)∧(rowT Tryz.prog 69=none)∧(structT Tryz.prog 69=some [(0,1),(1,1)])∧(fieldT Tryz.prog 69 0=some (66,0))∧(fieldT Tryz.prog 69 1=some (67,1))∧(zeroT Tryz.prog 69=some [.slice none 0 0,.slice none 0 0]):=by
 and_intros <;> kernel_rfl
@[simp] theorem tb32_E6:(szOf Tryz.prog 70=some 1)∧(aggT Tryz.prog 70=some false)∧(strT Tryz.prog 70=false)∧(boolT Tryz.prog 70=false)∧(elemT Tryz.prog 70=some 116)∧(rowT Tryz.prog 70=some (116,3,72))∧(makeT Tryz.prog 70=some (3,72,[.slice none 0 0,.slice none 0 0,.slice none 0 0]))∧(zeroT Tryz.prog 70=some [.slice none 0 0])∧(szOf Tryz.prog 71=some 1)∧(aggT Tryz.prog 71=some false)∧(strT Tryz.prog 71=false)∧(boolT Tryz.prog 71=false):=by
 and_intros <;> kernel_rfl
@[simp] theorem tb33_E6:(elemT Tryz.prog 71=some 94)∧(rowT Tryz.prog 71=some (94,6,96))∧(makeT Tryz.prog 71=some (6,96,[.int .i64 0,.int .i64 0,.int .i64 0,.slice none 0 0,.slice none 0 0,.slice none 0 0]))∧(zeroT Tryz.prog 71=some [.slice none 0 0])∧(szOf Tryz.prog 73=some 2)∧(aggT Tryz.prog 73=some true)∧(strT Tryz.prog 73=false)∧(boolT Tryz.prog 73=false)∧(elemT Tryz.prog 73=none)∧(rowT Tryz.prog 73=none)∧(structT Tryz.prog 73=some [(0,1),(1,1)])∧(fieldT Tryz.prog 73 0=some (70,0)):=by
 and_intros <;> kernel_rfl
@[simp] theorem tb34_E6:(fieldT Tryz.prog 73 1=some (71,1))∧(zeroT Tryz.prog 73=some [.slice none 0 0,.slice none 0 0])∧(szOf Tryz.prog 78=some 6)∧(aggT Tryz.prog 78=some true)∧(strT Tryz.prog 78=false)∧(boolT Tryz.prog 78=false)∧(elemT Tryz.prog 78=none)∧(rowT Tryz.prog 78=none)∧(arrT Tryz.prog 78=some (2,59))∧(structT Tryz.prog 78=none)∧(zeroT Tryz.prog 78=some [.int .i64 0,.string ⟨#[]⟩,.slice none 0 0,.int .i64 0,.string ⟨#[]⟩,.slice none 0 0])∧(szOf Tryz.prog 79=some 1):=by
 and_intros <;> kernel_rfl
@[simp] theorem tb35_E6:(aggT Tryz.prog 79=some false)∧(strT Tryz.prog 79=false)∧(boolT Tryz.prog 79=false)∧(elemT Tryz.prog 79=some 78)∧(rowT Tryz.prog 79=some (78,6,96))∧(makeT Tryz.prog 79=some (6,96,[.int .i64 0,.string ⟨#[]⟩,.slice none 0 0,.int .i64 0,.string ⟨#[]⟩,.slice none 0 0]))∧(zeroT Tryz.prog 79=some [.slice none 0 0])∧(szOf Tryz.prog 80=some 1)∧(aggT Tryz.prog 80=some false)∧(strT Tryz.prog 80=false)∧(boolT Tryz.prog 80=false)∧(elemT Tryz.prog 80=some 4):=by
 and_intros <;> kernel_rfl
@[simp] theorem tb36_E6:(rowT Tryz.prog 80=some (4,1,1))∧(makeT Tryz.prog 80=some (1,1,[.bool false]))∧(zeroT Tryz.prog 80=some [.slice none 0 0])∧(szOf Tryz.prog 92=some 3)∧(aggT Tryz.prog 92=some true)∧(strT Tryz.prog 92=false)∧(boolT Tryz.prog 92=false)∧(elemT Tryz.prog 92=none)∧(rowT Tryz.prog 92=none)∧(structT Tryz.prog 92=some [(0,2),(2,1)])∧(fieldT Tryz.prog 92 0=some (38,0))∧(fieldT Tryz.prog 92 1=some (26,2)):=by
 and_intros <;> kernel_rfl
@[simp] theorem tb37_E6:(zeroT Tryz.prog 92=some [.slice none 0 0,.slice none 0 0,.slice none 0 0])∧(szOf Tryz.prog 94=some 6)∧(aggT Tryz.prog 94=some true)∧(strT Tryz.prog 94=false)∧(boolT Tryz.prog 94=false)∧(elemT Tryz.prog 94=none)∧(rowT Tryz.prog 94=none)∧(structT Tryz.prog 94=some [(0,1),(1,1),(2,1),(3,3)])∧(fieldT Tryz.prog 94 0=some (3,0))∧(fieldT Tryz.prog 94 1=some (3,1))∧(fieldT Tryz.prog 94 2=some (3,2))∧(fieldT Tryz.prog 94 3=some (92,3)):=by
 and_intros <;> kernel_rfl
@[simp] theorem tb38_E6:(zeroT Tryz.prog 94=some [.int .i64 0,.int .i64 0,.int .i64 0,.slice none 0 0,.slice none 0 0,.slice none 0 0])∧(szOf Tryz.prog 96=some 1)∧(aggT Tryz.prog 96=some false)∧(strT Tryz.prog 96=false)∧(boolT Tryz.prog 96=false)∧(elemT Tryz.prog 96=some 193)∧(rowT Tryz.prog 96=some (193,3,3))∧(makeT Tryz.prog 96=some (3,3,[.int .u8 0,.int .u8 0,.int .u8 0]))∧(zeroT Tryz.prog 96=some [.slice none 0 0])∧(szOf Tryz.prog 97=some 1)∧(aggT Tryz.prog 97=some false)∧(strT Tryz.prog 97=false):=by
 and_intros <;> kernel_rfl
@[simp] theorem tb39_E6:(boolT Tryz.prog 97=false)∧(elemT Tryz.prog 97=some 66)∧(rowT Tryz.prog 97=some (66,1,24))∧(makeT Tryz.prog 97=some (1,24,[.slice none 0 0]))∧(zeroT Tryz.prog 97=some [.slice none 0 0])∧(szOf Tryz.prog 99=some 3)∧(aggT Tryz.prog 99=some true)∧(strT Tryz.prog 99=false)∧(boolT Tryz.prog 99=false)∧(elemT Tryz.prog 99=none)∧(rowT Tryz.prog 99=none)∧(structT Tryz.prog 99=some [(0,1),(1,1),(2,1)]):=by
 and_intros <;> kernel_rfl
@[simp] theorem tb40_E6:(fieldT Tryz.prog 99 0=some (66,0))∧(fieldT Tryz.prog 99 1=some (96,1))∧(fieldT Tryz.prog 99 2=some (97,2))∧(zeroT Tryz.prog 99=some [.slice none 0 0,.slice none 0 0,.slice none 0 0])∧(szOf Tryz.prog 101=some 7):=by
 and_intros <;> kernel_rfl
@[simp] theorem aggT_101:aggT Tryz.prog 101=some true:=by kernel_rfl
@[simp] theorem tb42_E6:(strT Tryz.prog 101=false)∧(boolT Tryz.prog 101=false)∧(elemT Tryz.prog 101=none)∧(rowT Tryz.prog 101=none)∧(structT Tryz.prog 101=some [(0,1),(1,1),(2,3),(5,1),(6,1)])∧(fieldT Tryz.prog 101 0=some (67,0))∧(fieldT Tryz.prog 101 1=some (67,1))∧(fieldT Tryz.prog 101 2=some (99,2))∧(fieldT Tryz.prog 101 3=some (66,5))∧(fieldT Tryz.prog 101 4=some (96,6))∧(zeroT Tryz.prog 101=some [.slice none 0 0,.slice none 0 0,.slice none 0 0,.slice none 0 0,.slice none 0 0,.slice none 0 0,.slice none 0 0])∧(szOf Tryz.prog 104=some 1):=by
 and_intros <;> kernel_rfl
@[simp] theorem tb43_E6:(aggT Tryz.prog 104=some false)∧(strT Tryz.prog 104=false)∧(boolT Tryz.prog 104=false)∧(elemT Tryz.prog 104=some 141)∧(rowT Tryz.prog 104=some (141,4,56))∧(makeT Tryz.prog 104=some (4,56,[.string ⟨#[]⟩,.int .i64 0,.int .i64 0,.slice none 0 0]))∧(zeroT Tryz.prog 104=some [.slice none 0 0])∧(szOf Tryz.prog 106=some 4)∧(aggT Tryz.prog 106=some true)∧(strT Tryz.prog 106=false)∧(boolT Tryz.prog 106=false)∧(elemT Tryz.prog 106=none):=by
 and_intros <;> kernel_rfl
@[simp] theorem tb44_E6:(rowT Tryz.prog 106=none)∧(structT Tryz.prog 106=some [(0,1),(1,1),(2,1),(3,1)])∧(fieldT Tryz.prog 106 0=some (9,0))∧(fieldT Tryz.prog 106 1=some (3,1))∧(fieldT Tryz.prog 106 2=some (4,2))∧(fieldT Tryz.prog 106 3=some (104,3))∧(zeroT Tryz.prog 106=some [.string ⟨#[]⟩,.int .i64 0,.bool false,.slice none 0 0])∧(szOf Tryz.prog 111=some 1)∧(aggT Tryz.prog 111=some false)∧(strT Tryz.prog 111=false)∧(boolT Tryz.prog 111=false)∧(elemT Tryz.prog 111=some 265):=by
 and_intros <;> kernel_rfl
@[simp] theorem tb45_E6:(rowT Tryz.prog 111=some (265,4,32))∧(makeT Tryz.prog 111=some (4,32,[.int .i64 0,.int .i64 0,.int .i64 0,.bool false]))∧(zeroT Tryz.prog 111=some [.slice none 0 0])∧(szOf Tryz.prog 114=some 1)∧(aggT Tryz.prog 114=some false)∧(strT Tryz.prog 114=false)∧(boolT Tryz.prog 114=false)∧(elemT Tryz.prog 114=some 26)∧(rowT Tryz.prog 114=some (26,1,24))∧(makeT Tryz.prog 114=some (1,24,[.slice none 0 0]))∧(zeroT Tryz.prog 114=some [.slice none 0 0])∧(szOf Tryz.prog 116=some 3):=by
 and_intros <;> kernel_rfl
@[simp] theorem tb46_E6:(aggT Tryz.prog 116=some true)∧(strT Tryz.prog 116=false)∧(boolT Tryz.prog 116=false)∧(elemT Tryz.prog 116=none)∧(rowT Tryz.prog 116=none)∧(structT Tryz.prog 116=some [(0,2),(2,1)])∧(fieldT Tryz.prog 116 0=some (29,0))∧(fieldT Tryz.prog 116 1=some (114,2))∧(zeroT Tryz.prog 116=some [.slice none 0 0,.slice none 0 0,.slice none 0 0])∧(szOf Tryz.prog 117=some 1)∧(aggT Tryz.prog 117=some false)∧(strT Tryz.prog 117=false):=by
 and_intros <;> kernel_rfl
@[simp] theorem tb47_E6:(boolT Tryz.prog 117=false)∧(elemT Tryz.prog 117=some 38)∧(rowT Tryz.prog 117=some (38,2,48))∧(makeT Tryz.prog 117=some (2,48,[.slice none 0 0,.slice none 0 0]))∧(zeroT Tryz.prog 117=some [.slice none 0 0])∧(szOf Tryz.prog 127=some 1)∧(aggT Tryz.prog 127=some false)∧(strT Tryz.prog 127=false)∧(boolT Tryz.prog 127=false)∧(elemT Tryz.prog 127=none)∧(rowT Tryz.prog 127=none)∧(zeroT Tryz.prog 127=some [.pointer none]):=by
 and_intros <;> kernel_rfl
@[simp] theorem tb48_E6:(szOf Tryz.prog 129=some 2)∧(aggT Tryz.prog 129=some true)∧(strT Tryz.prog 129=false)∧(boolT Tryz.prog 129=false)∧(elemT Tryz.prog 129=none)∧(rowT Tryz.prog 129=none)∧(structT Tryz.prog 129=some [(0,1),(1,1)])∧(fieldT Tryz.prog 129 0=some (127,0))∧(fieldT Tryz.prog 129 1=some (66,1))∧(zeroT Tryz.prog 129=some [.pointer none,.slice none 0 0])∧(szOf Tryz.prog 130=some 1)∧(aggT Tryz.prog 130=some false):=by
 and_intros <;> kernel_rfl
@[simp] theorem tb49_E6:(strT Tryz.prog 130=false)∧(boolT Tryz.prog 130=false)∧(elemT Tryz.prog 130=some 9)∧(rowT Tryz.prog 130=some (9,1,16))∧(makeT Tryz.prog 130=some (1,16,[.string ⟨#[]⟩]))∧(zeroT Tryz.prog 130=some [.slice none 0 0])∧(szOf Tryz.prog 133=some 1)∧(aggT Tryz.prog 133=some false)∧(strT Tryz.prog 133=false)∧(boolT Tryz.prog 133=false)∧(elemT Tryz.prog 133=none)∧(rowT Tryz.prog 133=none):=by
 and_intros <;> kernel_rfl
@[simp] theorem tb50_E6:(zeroT Tryz.prog 133=some [.nilIface])∧(szOf Tryz.prog 139=some 3)∧(aggT Tryz.prog 139=some true)∧(strT Tryz.prog 139=false)∧(boolT Tryz.prog 139=false)∧(elemT Tryz.prog 139=none)∧(rowT Tryz.prog 139=none)∧(eqT Tryz.prog 139=some 3)∧(structT Tryz.prog 139=some [(0,1),(1,1),(2,1)])∧(fieldT Tryz.prog 139 0=some (3,0))∧(fieldT Tryz.prog 139 1=some (3,1))∧(fieldT Tryz.prog 139 2=some (3,2)):=by
 and_intros <;> kernel_rfl
@[simp] theorem tb51_E6:(zeroT Tryz.prog 139=some [.int .i64 0,.int .i64 0,.int .i64 0])∧(szOf Tryz.prog 141=some 4)∧(aggT Tryz.prog 141=some true)∧(strT Tryz.prog 141=false)∧(boolT Tryz.prog 141=false)∧(elemT Tryz.prog 141=none)∧(rowT Tryz.prog 141=none)∧(structT Tryz.prog 141=some [(0,1),(1,1),(2,1),(3,1)])∧(fieldT Tryz.prog 141 0=some (9,0))∧(fieldT Tryz.prog 141 1=some (3,1))∧(fieldT Tryz.prog 141 2=some (3,2))∧(fieldT Tryz.prog 141 3=some (130,3)):=by
 and_intros <;> kernel_rfl
@[simp] theorem tb52_E6:(zeroT Tryz.prog 141=some [.string ⟨#[]⟩,.int .i64 0,.int .i64 0,.slice none 0 0])∧(szOf Tryz.prog 143=some 7)∧(aggT Tryz.prog 143=some true)∧(strT Tryz.prog 143=false)∧(boolT Tryz.prog 143=false)∧(elemT Tryz.prog 143=none)∧(rowT Tryz.prog 143=none)∧(structT Tryz.prog 143=some [(0,1),(1,1),(2,1),(3,1),(4,1),(5,1),(6,1)])∧(fieldT Tryz.prog 143 0=some (9,0))∧(fieldT Tryz.prog 143 1=some (3,1))∧(fieldT Tryz.prog 143 2=some (3,2))∧(fieldT Tryz.prog 143 3=some (3,3)):=by
 and_intros <;> kernel_rfl
@[simp] theorem tb53_E6:(fieldT Tryz.prog 143 4=some (3,4))∧(fieldT Tryz.prog 143 5=some (3,5))∧(fieldT Tryz.prog 143 6=some (3,6))∧(zeroT Tryz.prog 143=some [.string ⟨#[]⟩,.int .i64 0,.int .i64 0,.int .i64 0,.int .i64 0,.int .i64 0,.int .i64 0])∧(szOf Tryz.prog 146=some 4)∧(aggT Tryz.prog 146=some true)∧(strT Tryz.prog 146=false)∧(boolT Tryz.prog 146=false)∧(elemT Tryz.prog 146=none)∧(rowT Tryz.prog 146=none)∧(structT Tryz.prog 146=some [(0,2),(2,2)])∧(fieldT Tryz.prog 146 0=some (38,0)):=by
 and_intros <;> kernel_rfl
@[simp] theorem tb54_E6:(fieldT Tryz.prog 146 1=some (29,2))∧(zeroT Tryz.prog 146=some [.slice none 0 0,.slice none 0 0,.slice none 0 0,.slice none 0 0])∧(szOf Tryz.prog 157=some 2)∧(aggT Tryz.prog 157=some true)∧(strT Tryz.prog 157=false)∧(boolT Tryz.prog 157=false)∧(elemT Tryz.prog 157=none)∧(rowT Tryz.prog 157=none)∧(eqT Tryz.prog 157=some 2)∧(structT Tryz.prog 157=some [(0,1),(1,1)])∧(fieldT Tryz.prog 157 0=some (3,0))∧(fieldT Tryz.prog 157 1=some (3,1)):=by
 and_intros <;> kernel_rfl
@[simp] theorem tb55_E6:(zeroT Tryz.prog 157=some [.int .i64 0,.int .i64 0])∧(szOf Tryz.prog 159=some 4)∧(aggT Tryz.prog 159=some true)∧(strT Tryz.prog 159=false)∧(boolT Tryz.prog 159=false)∧(elemT Tryz.prog 159=none)∧(rowT Tryz.prog 159=none)∧(structT Tryz.prog 159=some [(0,1),(1,1),(2,2)])∧(fieldT Tryz.prog 159 0=some (3,0))∧(fieldT Tryz.prog 159 1=some (3,1))∧(fieldT Tryz.prog 159 2=some (157,2))∧(zeroT Tryz.prog 159=some [.int .i64 0,.int .i64 0,.int .i64 0,.int .i64 0]):=by
 and_intros <;> kernel_rfl
@[simp] theorem tb56_E6:(szOf Tryz.prog 161=some 5)∧(aggT Tryz.prog 161=some true)∧(strT Tryz.prog 161=false)∧(boolT Tryz.prog 161=false)∧(elemT Tryz.prog 161=none)∧(rowT Tryz.prog 161=none)∧(structT Tryz.prog 161=some [(0,1),(1,2),(3,2)])∧(fieldT Tryz.prog 161 0=some (3,0))∧(fieldT Tryz.prog 161 1=some (157,1))∧(fieldT Tryz.prog 161 2=some (157,3))∧(zeroT Tryz.prog 161=some [.int .i64 0,.int .i64 0,.int .i64 0,.int .i64 0,.int .i64 0])∧(szOf Tryz.prog 163=some 6):=by
 and_intros <;> kernel_rfl
@[simp] theorem tb57_E6:(aggT Tryz.prog 163=some true)∧(strT Tryz.prog 163=false)∧(boolT Tryz.prog 163=false)∧(elemT Tryz.prog 163=none)∧(rowT Tryz.prog 163=none)∧(structT Tryz.prog 163=some [(0,2),(2,2),(4,1),(5,1)])∧(fieldT Tryz.prog 163 0=some (29,0))∧(fieldT Tryz.prog 163 1=some (29,2))∧(fieldT Tryz.prog 163 2=some (26,4))∧(fieldT Tryz.prog 163 3=some (26,5))∧(zeroT Tryz.prog 163=some [.slice none 0 0,.slice none 0 0,.slice none 0 0,.slice none 0 0,.slice none 0 0,.slice none 0 0])∧(szOf Tryz.prog 169=some 2):=by
 and_intros <;> kernel_rfl
@[simp] theorem tb58_E6:(aggT Tryz.prog 169=some true)∧(strT Tryz.prog 169=false)∧(boolT Tryz.prog 169=false)∧(elemT Tryz.prog 169=none)∧(rowT Tryz.prog 169=none)∧(arrT Tryz.prog 169=some (2,5))∧(structT Tryz.prog 169=none)∧(zeroT Tryz.prog 169=some [.int .u8 0,.int .u8 0])∧(szOf Tryz.prog 178=some 1)∧(aggT Tryz.prog 178=some false)∧(strT Tryz.prog 178=false)∧(boolT Tryz.prog 178=false):=by
 and_intros <;> kernel_rfl
@[simp] theorem tb59_E6:(elemT Tryz.prog 178=none)∧(rowT Tryz.prog 178=none)∧(zeroT Tryz.prog 178=some [.map none])∧(szOf Tryz.prog 180=some 3)∧(aggT Tryz.prog 180=some true)∧(strT Tryz.prog 180=false)∧(boolT Tryz.prog 180=false)∧(elemT Tryz.prog 180=none)∧(rowT Tryz.prog 180=none)∧(structT Tryz.prog 180=some [(0,1),(1,1),(2,1)])∧(fieldT Tryz.prog 180 0=some (114,0))∧(fieldT Tryz.prog 180 1=some (114,1)):=by
 and_intros <;> kernel_rfl
@[simp] theorem tb60_E6:(fieldT Tryz.prog 180 2=some (178,2))∧(zeroT Tryz.prog 180=some [.slice none 0 0,.slice none 0 0,.map none])∧(szOf Tryz.prog 185=some 1)∧(aggT Tryz.prog 185=some false)∧(strT Tryz.prog 185=false)∧(boolT Tryz.prog 185=false)∧(elemT Tryz.prog 185=some 29)∧(rowT Tryz.prog 185=some (29,2,48))∧(makeT Tryz.prog 185=some (2,48,[.slice none 0 0,.slice none 0 0]))∧(zeroT Tryz.prog 185=some [.slice none 0 0])∧(szOf Tryz.prog 187=some 4)∧(aggT Tryz.prog 187=some true):=by
 and_intros <;> kernel_rfl
@[simp] theorem tb61_E6:(strT Tryz.prog 187=false)∧(boolT Tryz.prog 187=false)∧(elemT Tryz.prog 187=none)∧(rowT Tryz.prog 187=none)∧(structT Tryz.prog 187=some [(0,1),(1,1),(2,1),(3,1)])∧(fieldT Tryz.prog 187 0=some (80,0))∧(fieldT Tryz.prog 187 1=some (80,1))∧(fieldT Tryz.prog 187 2=some (4,2))∧(fieldT Tryz.prog 187 3=some (4,3))∧(zeroT Tryz.prog 187=some [.slice none 0 0,.slice none 0 0,.bool false,.bool false])∧(szOf Tryz.prog 192=some 1)∧(aggT Tryz.prog 192=some false):=by
 and_intros <;> kernel_rfl
@[simp] theorem tb62_E6:(zeroT Tryz.prog 192=some [.nilFunc])∧(szOf Tryz.prog 193=some 3)∧(aggT Tryz.prog 193=some true)∧(strT Tryz.prog 193=false)∧(boolT Tryz.prog 193=false)∧(elemT Tryz.prog 193=none)∧(rowT Tryz.prog 193=none)∧(arrT Tryz.prog 193=some (3,5))∧(structT Tryz.prog 193=none)∧(zeroT Tryz.prog 193=some [.int .u8 0,.int .u8 0,.int .u8 0])∧(szOf Tryz.prog 196=some 1)∧(aggT Tryz.prog 196=some false):=by
 and_intros <;> kernel_rfl
@[simp] theorem tb63_E6:(strT Tryz.prog 196=false)∧(boolT Tryz.prog 196=false)∧(elemT Tryz.prog 196=some 199)∧(rowT Tryz.prog 196=some (199,6,48))∧(makeT Tryz.prog 196=some (6,48,[.int .i64 0,.bool false,.int .i64 0,.int .i64 0,.int .i64 0,.int .i64 0]))∧(zeroT Tryz.prog 196=some [.slice none 0 0])∧(szOf Tryz.prog 199=some 6)∧(aggT Tryz.prog 199=some true)∧(strT Tryz.prog 199=false)∧(boolT Tryz.prog 199=false)∧(elemT Tryz.prog 199=none)∧(rowT Tryz.prog 199=none):=by
 and_intros <;> kernel_rfl
@[simp] theorem tb64_E6:(structT Tryz.prog 199=some [(0,1),(1,1),(2,1),(3,1),(4,1),(5,1)])∧(fieldT Tryz.prog 199 0=some (3,0))∧(fieldT Tryz.prog 199 1=some (4,1))∧(fieldT Tryz.prog 199 2=some (3,2))∧(fieldT Tryz.prog 199 3=some (3,3))∧(fieldT Tryz.prog 199 4=some (3,4))∧(fieldT Tryz.prog 199 5=some (3,5))∧(zeroT Tryz.prog 199=some [.int .i64 0,.bool false,.int .i64 0,.int .i64 0,.int .i64 0,.int .i64 0])∧(szOf Tryz.prog 209=some 1)∧(aggT Tryz.prog 209=some false)∧(strT Tryz.prog 209=false)∧(boolT Tryz.prog 209=false):=by
 and_intros <;> kernel_rfl
@[simp] theorem tb65_E6:(elemT Tryz.prog 209=some 217)∧(rowT Tryz.prog 209=some (217,3,32))∧(makeT Tryz.prog 209=some (3,32,[.int .i64 0,.string ⟨#[]⟩,.int .i64 0]))∧(zeroT Tryz.prog 209=some [.slice none 0 0])∧(szOf Tryz.prog 212=some 1)∧(aggT Tryz.prog 212=some false)∧(strT Tryz.prog 212=false)∧(boolT Tryz.prog 212=false)∧(elemT Tryz.prog 212=none)∧(rowT Tryz.prog 212=none)∧(zeroT Tryz.prog 212=some [.pointer none])∧(szOf Tryz.prog 214=some 3):=by
 and_intros <;> kernel_rfl
@[simp] theorem tb66_E6:(aggT Tryz.prog 214=some true)∧(strT Tryz.prog 214=false)∧(boolT Tryz.prog 214=false)∧(elemT Tryz.prog 214=none)∧(rowT Tryz.prog 214=none)∧(structT Tryz.prog 214=some [(0,1),(1,1),(2,1)])∧(fieldT Tryz.prog 214 0=some (209,0))∧(fieldT Tryz.prog 214 1=some (3,1))∧(fieldT Tryz.prog 214 2=some (3,2))∧(zeroT Tryz.prog 214=some [.slice none 0 0,.int .i64 0,.int .i64 0])∧(szOf Tryz.prog 217=some 3)∧(aggT Tryz.prog 217=some true):=by
 and_intros <;> kernel_rfl
@[simp] theorem tb67_E6:(strT Tryz.prog 217=false)∧(boolT Tryz.prog 217=false)∧(elemT Tryz.prog 217=none)∧(rowT Tryz.prog 217=none)∧(structT Tryz.prog 217=some [(0,1),(1,1),(2,1)])∧(fieldT Tryz.prog 217 0=some (3,0))∧(fieldT Tryz.prog 217 1=some (9,1))∧(fieldT Tryz.prog 217 2=some (3,2))∧(zeroT Tryz.prog 217=some [.int .i64 0,.string ⟨#[]⟩,.int .i64 0])∧(szOf Tryz.prog 218=some 1)∧(aggT Tryz.prog 218=some false)∧(strT Tryz.prog 218=false):=by
 and_intros <;> kernel_rfl
@[simp] theorem tb68_E6:(boolT Tryz.prog 218=false)∧(elemT Tryz.prog 218=none)∧(rowT Tryz.prog 218=none)∧(zeroT Tryz.prog 218=some [.pointer none])∧(szOf Tryz.prog 220=some 3)∧(aggT Tryz.prog 220=some true)∧(strT Tryz.prog 220=false)∧(boolT Tryz.prog 220=false)∧(elemT Tryz.prog 220=none)∧(rowT Tryz.prog 220=none)∧(structT Tryz.prog 220=some [(0,1),(1,1),(2,1)])∧(fieldT Tryz.prog 220 0=some (209,0)):=by
 and_intros <;> kernel_rfl
@[simp] theorem tb69_E6:(fieldT Tryz.prog 220 1=some (3,1))∧(fieldT Tryz.prog 220 2=some (4,2))∧(zeroT Tryz.prog 220=some [.slice none 0 0,.int .i64 0,.bool false])∧(szOf Tryz.prog 223=some 256)∧(aggT Tryz.prog 223=some true)∧(strT Tryz.prog 223=false)∧(boolT Tryz.prog 223=false)∧(elemT Tryz.prog 223=none)∧(rowT Tryz.prog 223=none)∧(arrT Tryz.prog 223=some (256,5))∧(structT Tryz.prog 223=none)∧(zeroT Tryz.prog 223=some [.int .u8 0,.int .u8 0,.int .u8 0,.int .u8 0,.int .u8 0,.int .u8 0,.int .u8 0,.int .u8 0,.int .u8 0,.int .u8 0,.int .u8 0,.int .u8 0,.int .u8 0,.int .u8 0,.int .u8 0,.int .u8 0,.int .u8 0,.int .u8 0,.int .u8 0,.int .u8 0,.int .u8 0,.int .u8 0,.int .u8 0,.int .u8 0,.int .u8 0,.int .u8 0,.int .u8 0,.int .u8 0,.int .u8 0,.int .u8 0,.int .u8 0,.int .u8 0,.int .u8 0,.int .u8 0,.int .u8 0,.int .u8 0,.int .u8 0,.int .u8 0,.int .u8 0,.int .u8 0,.int .u8 0,.int .u8 0,.int .u8 0,.int .u8 0,.int .u8 0,.int .u8 0,.int .u8 0,.int .u8 0,.int .u8 0,.int .u8 0,.int .u8 0,.int .u8 0,.int .u8 0,.int .u8 0,.int .u8 0,.int .u8 0,.int .u8 0,.int .u8 0,.int .u8 0,.int .u8 0,.int .u8 0,.int .u8 0,.int .u8 0,.int .u8 0,.int .u8 0,.int .u8 0,.int .u8 0,.int .u8 0,.int .u8 0,.int .u8 0,.int .u8 0,.int .u8 0,.int .u8 0,.int .u8 0,.int .u8 0,.int .u8 0,.int .u8 0,.int .u8 0,.int .u8 0,.int .u8 0,.int .u8 0,.int .u8 0,.int .u8 0,.int .u8 0,.int .u8 0,.int .u8 0,.int .u8 0,.int .u8 0,.int .u8 0,.int .u8 0,.int .u8 0,.int .u8 0,.int .u8 0,.int .u8 0,.int .u8 0,.int .u8 0,.int .u8 0,.int .u8 0,.int .u8 0,.int .u8 0,.int .u8 0,.int .u8 0,.int .u8 0,.int .u8 0,.int .u8 0,.int .u8 0,.int .u8 0,.int .u8 0,.int .u8 0,.int .u8 0,.int .u8 0,.int .u8 0,.int .u8 0,.int .u8 0,.int .u8 0,.int .u8 0,.int .u8 0,.int .u8 0,.int .u8 0,.int .u8 0,.int .u8 0,.int .u8 0,.int .u8 0,.int .u8 0,.int .u8 0,.int .u8 0,.int .u8 0,.int .u8 0,.int .u8 0,.int .u8 0,.int .u8 0,.int .u8 0,.int .u8 0,.int .u8 0,.int .u8 0,.int .u8 0,.int .u8 0,.int .u8 0,.int .u8 0,.int .u8 0,.int .u8 0,.int .u8 0,.int .u8 0,.int .u8 0,.int .u8 0,.int .u8 0,.int .u8 0,.int .u8 0,.int .u8 0,.int .u8 0,.int .u8 0,.int .u8 0,.int .u8 0,.int .u8 0,.int .u8 0,.int .u8 0,.int .u8 0,.int .u8 0,.int .u8 0,.int .u8 0,.int .u8 0,.int .u8 0,.int .u8 0,.int .u8 0,.int .u8 0,.int .u8 0,.int .u8 0,.int .u8 0,.int .u8 0,.int .u8 0,.int .u8 0,.int .u8 0,.int .u8 0,.int .u8 0,.int .u8 0,.int .u8 0,.int .u8 0,.int .u8 0,.int .u8 0,.int .u8 0,.int .u8 0,.int .u8 0,.int .u8 0,.int .u8 0,.int .u8 0,.int .u8 0,.int .u8 0,.int .u8 0,.int .u8 0,.int .u8 0,.int .u8 0,.int .u8 0,.int .u8 0,.int .u8 0,.int .u8 0,.int .u8 0,.int .u8 0,.int .u8 0,.int .u8 0,.int .u8 0,.int .u8 0,.int .u8 0,.int .u8 0,.int .u8 0,.int .u8 0,.int .u8 0,.int .u8 0,.int .u8 0,.int .u8 0,.int .u8 0,.int .u8 0,.int .u8 0,.int .u8 0,.int .u8 0,.int .u8 0,.int .u8 0,.int .u8 0,.int .u8 0,.int .u8 0,.int .u8 0,.int .u8 0,.int .u8 0,.int .u8 0,.int .u8 0,.int .u8 0,.int .u8 0,.int .u8 0,.int .u8 0,.int .u8 0,.int .u8 0,.int .u8 0,.int .u8 0,.int .u8 0,.int .u8 0,.int .u8 0,.int .u8 0,.int .u8 0,.int .u8 0,.int .u8 0,.int .u8 0,.int .u8 0,.int .u8 0,.int .u8 0,.int .u8 0,.int .u8 0,.int .u8 0,.int .u8 0,.int .u8 0,.int .u8 0,.int .u8 0,.int .u8 0,.int .u8 0,.int .u8 0,.int .u8 0,.int .u8 0,.int .u8 0]):=by
 and_intros <;> kernel_rfl
@[simp] theorem tb70_E6:(szOf Tryz.prog 226=some 1)∧(aggT Tryz.prog 226=some false)∧(strT Tryz.prog 226=false)∧(boolT Tryz.prog 226=false)∧(elemT Tryz.prog 226=none)∧(rowT Tryz.prog 226=none)∧(zeroT Tryz.prog 226=some [.pointer none])∧(szOf Tryz.prog 236=some 1)∧(aggT Tryz.prog 236=some false)∧(strT Tryz.prog 236=false)∧(boolT Tryz.prog 236=false)∧(elemT Tryz.prog 236=none):=by
 and_intros <;> kernel_rfl
@[simp] theorem tb71_E6:(rowT Tryz.prog 236=none)∧(zeroT Tryz.prog 236=some [.pointer none])∧(szOf Tryz.prog 238=some 1)∧(aggT Tryz.prog 238=some false)∧(strT Tryz.prog 238=false)∧(boolT Tryz.prog 238=false)∧(elemT Tryz.prog 238=none)∧(rowT Tryz.prog 238=none)∧(zeroT Tryz.prog 238=some [.pointer none])∧(szOf Tryz.prog 240=some 9)∧(aggT Tryz.prog 240=some true)∧(strT Tryz.prog 240=false):=by
 and_intros <;> kernel_rfl
@[simp] theorem tb72_E6:(boolT Tryz.prog 240=false)∧(elemT Tryz.prog 240=none)∧(rowT Tryz.prog 240=none)∧(structT Tryz.prog 240=some [(0,2),(2,2),(4,2),(6,2),(8,1)])∧(fieldT Tryz.prog 240 0=some (29,0))∧(fieldT Tryz.prog 240 1=some (29,2))∧(fieldT Tryz.prog 240 2=some (38,4))∧(fieldT Tryz.prog 240 3=some (38,6))∧(fieldT Tryz.prog 240 4=some (117,8))∧(zeroT Tryz.prog 240=some [.slice none 0 0,.slice none 0 0,.slice none 0 0,.slice none 0 0,.slice none 0 0,.slice none 0 0,.slice none 0 0,.slice none 0 0,.slice none 0 0])∧(szOf Tryz.prog 249=some 1)∧(aggT Tryz.prog 249=some false):=by
 and_intros <;> kernel_rfl
@[simp] theorem tb73_E6:(strT Tryz.prog 249=false)∧(boolT Tryz.prog 249=false)∧(elemT Tryz.prog 249=some 80)∧(rowT Tryz.prog 249=some (80,1,24))∧(makeT Tryz.prog 249=some (1,24,[.slice none 0 0]))∧(zeroT Tryz.prog 249=some [.slice none 0 0])∧(szOf Tryz.prog 265=some 4)∧(aggT Tryz.prog 265=some true)∧(strT Tryz.prog 265=false)∧(boolT Tryz.prog 265=false)∧(elemT Tryz.prog 265=none)∧(rowT Tryz.prog 265=none):=by
 and_intros <;> kernel_rfl
@[simp] theorem tb74_E6:(structT Tryz.prog 265=some [(0,1),(1,1),(2,1),(3,1)])∧(fieldT Tryz.prog 265 0=some (3,0))∧(fieldT Tryz.prog 265 1=some (3,1))∧(fieldT Tryz.prog 265 2=some (3,2))∧(fieldT Tryz.prog 265 3=some (4,3))∧(zeroT Tryz.prog 265=some [.int .i64 0,.int .i64 0,.int .i64 0,.bool false])∧(szOf Tryz.prog 270=some 1)∧(aggT Tryz.prog 270=some false)∧(zeroT Tryz.prog 270=some [.nilFunc])∧(szOf Tryz.prog 280=some 1)∧(aggT Tryz.prog 280=some false)∧(strT Tryz.prog 280=false):=by
 and_intros <;> kernel_rfl
@[simp] theorem tb75_E6:(boolT Tryz.prog 280=false)∧(elemT Tryz.prog 280=some 282)∧(rowT Tryz.prog 280=some (282,2,16))∧(makeT Tryz.prog 280=some (2,16,[.int .i64 0,.int .i64 0]))∧(zeroT Tryz.prog 280=some [.slice none 0 0])∧(szOf Tryz.prog 282=some 2)∧(aggT Tryz.prog 282=some true)∧(strT Tryz.prog 282=false)∧(boolT Tryz.prog 282=false)∧(elemT Tryz.prog 282=none)∧(rowT Tryz.prog 282=none)∧(eqT Tryz.prog 282=some 2):=by
 and_intros <;> kernel_rfl
@[simp] theorem tb76_E6:(structT Tryz.prog 282=some [(0,1),(1,1)])∧(fieldT Tryz.prog 282 0=some (3,0))∧(fieldT Tryz.prog 282 1=some (3,1))∧(zeroT Tryz.prog 282=some [.int .i64 0,.int .i64 0])∧(szOf Tryz.prog 283=some 1)∧(aggT Tryz.prog 283=some false)∧(strT Tryz.prog 283=false)∧(boolT Tryz.prog 283=false)∧(elemT Tryz.prog 283=none)∧(rowT Tryz.prog 283=none)∧(kindT Tryz.prog 283=some .u32)∧(zeroT Tryz.prog 283=some [.int .u32 0]):=by
 and_intros <;> kernel_rfl
@[simp] theorem tb77_E6:(szOf Tryz.prog 285=some 1)∧(aggT Tryz.prog 285=some false)∧(strT Tryz.prog 285=false)∧(boolT Tryz.prog 285=false)∧(elemT Tryz.prog 285=none)∧(rowT Tryz.prog 285=none)∧(zeroT Tryz.prog 285=some [.pointer none])∧(elemT Tryz.prog 310=none)∧(kindT Tryz.prog 310=some .u64)∧(szOf Tryz.prog 324=some 1)∧(aggT Tryz.prog 324=some false)∧(strT Tryz.prog 324=false):=by
 and_intros <;> kernel_rfl
@[simp] theorem tb78_E6:(boolT Tryz.prog 324=false)∧(elemT Tryz.prog 324=some 330)∧(rowT Tryz.prog 324=some (330,3,6))∧(makeT Tryz.prog 324=some (3,6,[.int .u16 0,.int .u16 0,.int .u16 0]))∧(zeroT Tryz.prog 324=some [.slice none 0 0])∧(szOf Tryz.prog 325=some 1)∧(aggT Tryz.prog 325=some false)∧(strT Tryz.prog 325=false)∧(boolT Tryz.prog 325=false)∧(elemT Tryz.prog 325=some 333)∧(rowT Tryz.prog 325=some (333,3,12))∧(makeT Tryz.prog 325=some (3,12,[.int .u32 0,.int .u32 0,.int .u32 0])):=by
 and_intros <;> kernel_rfl
@[simp] theorem tb79_E6:(zeroT Tryz.prog 325=some [.slice none 0 0])∧(szOf Tryz.prog 327=some 3)∧(aggT Tryz.prog 327=some true)∧(strT Tryz.prog 327=false)∧(boolT Tryz.prog 327=false)∧(elemT Tryz.prog 327=none)∧(rowT Tryz.prog 327=none)∧(structT Tryz.prog 327=some [(0,1),(1,1),(2,1)])∧(fieldT Tryz.prog 327 0=some (324,0))∧(fieldT Tryz.prog 327 1=some (325,1))∧(fieldT Tryz.prog 327 2=some (3,2))∧(zeroT Tryz.prog 327=some [.slice none 0 0,.slice none 0 0,.int .i64 0]):=by
 and_intros <;> kernel_rfl
@[simp] theorem tb80_E6:(szOf Tryz.prog 328=some 1)∧(aggT Tryz.prog 328=some false)∧(strT Tryz.prog 328=false)∧(boolT Tryz.prog 328=false)∧(elemT Tryz.prog 328=none)∧(rowT Tryz.prog 328=none)∧(kindT Tryz.prog 328=some .u16)∧(zeroT Tryz.prog 328=some [.int .u16 0])∧(szOf Tryz.prog 330=some 3)∧(aggT Tryz.prog 330=some true)∧(strT Tryz.prog 330=false)∧(boolT Tryz.prog 330=false):=by
 and_intros <;> kernel_rfl
@[simp] theorem tb81_E6:(elemT Tryz.prog 330=none)∧(rowT Tryz.prog 330=none)∧(eqT Tryz.prog 330=some 3)∧(structT Tryz.prog 330=some [(0,1),(1,1),(2,1)])∧(fieldT Tryz.prog 330 0=some (328,0))∧(fieldT Tryz.prog 330 1=some (328,1))∧(fieldT Tryz.prog 330 2=some (328,2))∧(zeroT Tryz.prog 330=some [.int .u16 0,.int .u16 0,.int .u16 0])∧(szOf Tryz.prog 333=some 3)∧(aggT Tryz.prog 333=some true)∧(strT Tryz.prog 333=false)∧(boolT Tryz.prog 333=false):=by
 and_intros <;> kernel_rfl
@[simp] theorem tb82_E6:(elemT Tryz.prog 333=none)∧(rowT Tryz.prog 333=none)∧(eqT Tryz.prog 333=some 3)∧(structT Tryz.prog 333=some [(0,1),(1,1),(2,1)])∧(fieldT Tryz.prog 333 0=some (283,0))∧(fieldT Tryz.prog 333 1=some (283,1))∧(fieldT Tryz.prog 333 2=some (283,2))∧(zeroT Tryz.prog 333=some [.int .u32 0,.int .u32 0,.int .u32 0])∧(szOf Tryz.prog 352=some 1)∧(aggT Tryz.prog 352=some false)∧(strT Tryz.prog 352=false)∧(boolT Tryz.prog 352=false):=by
 and_intros <;> kernel_rfl
@[simp] theorem tb83_E6:(elemT Tryz.prog 352=none)∧(rowT Tryz.prog 352=none)∧(kindT Tryz.prog 352=some .u64)∧(zeroT Tryz.prog 352=some [.int .u64 0])∧(szOf Tryz.prog 353=some 24)∧(aggT Tryz.prog 353=some true)∧(strT Tryz.prog 353=false)∧(boolT Tryz.prog 353=false)∧(elemT Tryz.prog 353=none)∧(rowT Tryz.prog 353=none)∧(arrT Tryz.prog 353=some (24,5))∧(structT Tryz.prog 353=none):=by
 and_intros <;> kernel_rfl
@[simp] theorem tb84_E6:(zeroT Tryz.prog 353=some [.int .u8 0,.int .u8 0,.int .u8 0,.int .u8 0,.int .u8 0,.int .u8 0,.int .u8 0,.int .u8 0,.int .u8 0,.int .u8 0,.int .u8 0,.int .u8 0,.int .u8 0,.int .u8 0,.int .u8 0,.int .u8 0,.int .u8 0,.int .u8 0,.int .u8 0,.int .u8 0,.int .u8 0,.int .u8 0,.int .u8 0,.int .u8 0])∧(szOf Tryz.prog 357=some 1)∧(aggT Tryz.prog 357=some false)∧(strT Tryz.prog 357=false)∧(boolT Tryz.prog 357=false)∧(elemT Tryz.prog 357=none)∧(rowT Tryz.prog 357=none)∧(zeroT Tryz.prog 357=some [.pointer none])∧(szOf Tryz.prog 360=some 12)∧(aggT Tryz.prog 360=some true)∧(strT Tryz.prog 360=false)∧(boolT Tryz.prog 360=false):=by
 and_intros <;> kernel_rfl
@[simp] theorem tb85_E6:(elemT Tryz.prog 360=none)∧(rowT Tryz.prog 360=none)∧(structT Tryz.prog 360=some [(0,2),(2,2),(4,1),(5,2),(7,1),(8,1),(9,1),(10,1),(11,1)])∧(fieldT Tryz.prog 360 0=some (29,0))∧(fieldT Tryz.prog 360 1=some (29,2))∧(fieldT Tryz.prog 360 2=some (249,4))∧(fieldT Tryz.prog 360 3=some (38,5))∧(fieldT Tryz.prog 360 4=some (4,7))∧(fieldT Tryz.prog 360 5=some (3,8))∧(fieldT Tryz.prog 360 6=some (26,9))∧(fieldT Tryz.prog 360 7=some (26,10))∧(fieldT Tryz.prog 360 8=some (117,11)):=by
 and_intros <;> kernel_rfl
@[simp] theorem tb86_E6:(zeroT Tryz.prog 360=some [.slice none 0 0,.slice none 0 0,.slice none 0 0,.slice none 0 0,.slice none 0 0,.slice none 0 0,.slice none 0 0,.bool false,.int .i64 0,.slice none 0 0,.slice none 0 0,.slice none 0 0])∧(szOf Tryz.prog 371=some 1)∧(aggT Tryz.prog 371=some false)∧(strT Tryz.prog 371=false)∧(boolT Tryz.prog 371=false)∧(elemT Tryz.prog 371=none)∧(rowT Tryz.prog 371=none)∧(zeroT Tryz.prog 371=some [.pointer none])∧(szOf Tryz.prog 375=some 20)∧(aggT Tryz.prog 375=some true)∧(strT Tryz.prog 375=false)∧(boolT Tryz.prog 375=false):=by
 and_intros <;> kernel_rfl
@[simp] theorem tb87_E6:(elemT Tryz.prog 375=none)∧(rowT Tryz.prog 375=none)∧(arrT Tryz.prog 375=some (20,352))∧(structT Tryz.prog 375=none)∧(zeroT Tryz.prog 375=some [.int .u64 0,.int .u64 0,.int .u64 0,.int .u64 0,.int .u64 0,.int .u64 0,.int .u64 0,.int .u64 0,.int .u64 0,.int .u64 0,.int .u64 0,.int .u64 0,.int .u64 0,.int .u64 0,.int .u64 0,.int .u64 0,.int .u64 0,.int .u64 0,.int .u64 0,.int .u64 0])∧(szOf Tryz.prog 376=some 65)∧(aggT Tryz.prog 376=some true)∧(strT Tryz.prog 376=false)∧(boolT Tryz.prog 376=false)∧(elemT Tryz.prog 376=none)∧(rowT Tryz.prog 376=none)∧(arrT Tryz.prog 376=some (65,5)):=by
 and_intros <;> kernel_rfl
@[simp] theorem tb88_E6:(structT Tryz.prog 376=none)∧(zeroT Tryz.prog 376=some [.int .u8 0,.int .u8 0,.int .u8 0,.int .u8 0,.int .u8 0,.int .u8 0,.int .u8 0,.int .u8 0,.int .u8 0,.int .u8 0,.int .u8 0,.int .u8 0,.int .u8 0,.int .u8 0,.int .u8 0,.int .u8 0,.int .u8 0,.int .u8 0,.int .u8 0,.int .u8 0,.int .u8 0,.int .u8 0,.int .u8 0,.int .u8 0,.int .u8 0,.int .u8 0,.int .u8 0,.int .u8 0,.int .u8 0,.int .u8 0,.int .u8 0,.int .u8 0,.int .u8 0,.int .u8 0,.int .u8 0,.int .u8 0,.int .u8 0,.int .u8 0,.int .u8 0,.int .u8 0,.int .u8 0,.int .u8 0,.int .u8 0,.int .u8 0,.int .u8 0,.int .u8 0,.int .u8 0,.int .u8 0,.int .u8 0,.int .u8 0,.int .u8 0,.int .u8 0,.int .u8 0,.int .u8 0,.int .u8 0,.int .u8 0,.int .u8 0,.int .u8 0,.int .u8 0,.int .u8 0,.int .u8 0,.int .u8 0,.int .u8 0,.int .u8 0,.int .u8 0])∧(szOf Tryz.prog 385=some 32)∧(aggT Tryz.prog 385=some true)∧(strT Tryz.prog 385=false)∧(boolT Tryz.prog 385=false)∧(elemT Tryz.prog 385=none)∧(rowT Tryz.prog 385=none)∧(arrT Tryz.prog 385=some (32,5))∧(structT Tryz.prog 385=none)∧(zeroT Tryz.prog 385=some [.int .u8 0,.int .u8 0,.int .u8 0,.int .u8 0,.int .u8 0,.int .u8 0,.int .u8 0,.int .u8 0,.int .u8 0,.int .u8 0,.int .u8 0,.int .u8 0,.int .u8 0,.int .u8 0,.int .u8 0,.int .u8 0,.int .u8 0,.int .u8 0,.int .u8 0,.int .u8 0,.int .u8 0,.int .u8 0,.int .u8 0,.int .u8 0,.int .u8 0,.int .u8 0,.int .u8 0,.int .u8 0,.int .u8 0,.int .u8 0,.int .u8 0,.int .u8 0])∧(szOf Tryz.prog 386=some 64):=by
 and_intros <;> kernel_rfl
@[simp] theorem tb89_E6:(aggT Tryz.prog 386=some true)∧(strT Tryz.prog 386=false)∧(boolT Tryz.prog 386=false)∧(elemT Tryz.prog 386=none)∧(rowT Tryz.prog 386=none)∧(arrT Tryz.prog 386=some (64,5))∧(structT Tryz.prog 386=none)∧(zeroT Tryz.prog 386=some [.int .u8 0,.int .u8 0,.int .u8 0,.int .u8 0,.int .u8 0,.int .u8 0,.int .u8 0,.int .u8 0,.int .u8 0,.int .u8 0,.int .u8 0,.int .u8 0,.int .u8 0,.int .u8 0,.int .u8 0,.int .u8 0,.int .u8 0,.int .u8 0,.int .u8 0,.int .u8 0,.int .u8 0,.int .u8 0,.int .u8 0,.int .u8 0,.int .u8 0,.int .u8 0,.int .u8 0,.int .u8 0,.int .u8 0,.int .u8 0,.int .u8 0,.int .u8 0,.int .u8 0,.int .u8 0,.int .u8 0,.int .u8 0,.int .u8 0,.int .u8 0,.int .u8 0,.int .u8 0,.int .u8 0,.int .u8 0,.int .u8 0,.int .u8 0,.int .u8 0,.int .u8 0,.int .u8 0,.int .u8 0,.int .u8 0,.int .u8 0,.int .u8 0,.int .u8 0,.int .u8 0,.int .u8 0,.int .u8 0,.int .u8 0,.int .u8 0,.int .u8 0,.int .u8 0,.int .u8 0,.int .u8 0,.int .u8 0,.int .u8 0,.int .u8 0]):=by
 and_intros <;> kernel_rfl
variable {P:Program}
attribute [simp] buildT zrow strA stkA Own.live nilCmp FReg preF FOne FSkip Gd.tt Gd.tf Gd.ft Gd.ff fN fR fW fA AState.ev putT_tl putT_none tlArgs tl_cons tl_nil ofVal ofVal1 lenF idxF sliceF boundF rawOf rawsOf binF unF loadD loadA lb_at lk_cons lk_nil upd_lb yieldA AV.cells? AV.elems? toDs AV.toD rowsOf fillA setCells FCond copySrc
@[simp] theorem FOps_nil {cx:Cx} {ops:Array Oper} {dr:Bool} {K:AState→Prop} {t:Nat→AV} {b:Bxs} {k:Nat→Bool} {n:Nat}:FOps P cx ops dr [] K ⟨t,b,k,n⟩=K ⟨t,b,k,n⟩:=by simp only [FOps]
@[simp] theorem FOps_cons {cx:Cx} {ops:Array Oper} {dr:Bool} {o:Oper} {r:List Oper} {K:AState→Prop} {t:Nat→AV} {b:Bxs} {k:Nat→Bool} {n:Nat}:FOps P cx ops dr (o::r) K ⟨t,b,k,n⟩=match o.guard with
  | none=>FOne P cx dr o (FOps P cx ops dr r K) ⟨t,b,k,n⟩
  | some (j,want)=>match yieldA ops ⟨t,b,k,n⟩ j with
   | some (some c)=>Gd c want (FOne P cx dr o (FOps P cx ops dr r K)) (FSkip o.dst (FOps P cx ops dr r K)) ⟨t,b,k,n⟩
   | some none=>FSkip o.dst (FOps P cx ops dr r K) ⟨t,b,k,n⟩
   | none=>False:=by
 simp only [FOps];all_goals rfl
@[simp] theorem live_full {tok:Nat→Bool}:Own.full.liveP tok=True:=rfl
@[simp] theorem kill_full {tok:Nat→Bool}:Own.full.kill tok=tok:=rfl
@[simp] theorem live_tok {tok:Nat→Bool} {t:Nat}:(Own.tok t).liveP tok=(tok t=true):=rfl
@[simp] theorem kill_tok {tok:Nat→Bool} {t:Nat}:(Own.tok t).kill tok=upd tok t false:=rfl
def ToL (p q:Nat→Prop) (fz:Option (Nat × Nat × List (List D))) (l:List (Nat × AV)):List (Nat × AV)→Prop
 | []=>True
 | (i,v)::r=>To p q fz (tl l i) v∧ToL p q fz l r
theorem ToL.all {p q:Nat→Prop} {fz:Option (Nat × Nat × List (List D))} {l:List (Nat × AV)}:∀ {l':List (Nat × AV)},ToL p q fz l l'→∀ t,To p q fz (tl l t) (tl l' t)
 | [],_,t=>.bot
 | (i,v)::r,h,t=>by
  rw [tl_cons];split
  ·rename_i e; subst e; exact h.1
  ·exact ToL.all h.2 t
def BoxL (p q:Nat→Prop) (fz:Option (Nat × Nat × List (List D))) (loc:List (Nat × List (List AV))):List (Nat × List (List AV))→Prop
 | []=>True
 | (s,rows')::r=>(∃ rows,lk loc s=some rows∧RowsTo p q fz rows rows')∧BoxL p q fz loc r
theorem BoxL.all {p q:Nat→Prop} {fz:Option (Nat × Nat × List (List D))} {loc:List (Nat × List (List AV))}:∀ {loc':List (Nat × List (List AV))},BoxL p q fz loc loc'→∀ s rows',lk loc' s=some rows'→∃ rows,lk loc s=some rows∧RowsTo p q fz rows rows'
 | [],_,s,rows',h=>by simp [lk] at h
 | (i,v)::r,h,s,rows',hs=>by
  rw [lk_cons] at hs;split at hs
  ·rename_i e; subst e; cases hs; exact h.1
  ·exact BoxL.all h.2 s rows' hs
theorem Weaks.mk' {cx:Cx} {nt0 nt:Nat} {l l':List (Nat × AV)} {out:Bxs} {loc loc':List (Nat × List (List AV))} {tok:Nat→Bool} (hnt:nt0≤nt)
  (hl:ToL (fun k=>lb cx.base out loc' k≠none) (fun _=>True) none l l') (hb:BoxL (fun k=>lb cx.base out loc' k≠none) (fun _=>True) none loc loc')
  (ho:∀ k rows,k<cx.base→out k=some rows→cx.B0 k=some rows∨∀ r∈rows,∀ x∈r,OkIn (fun k=>lb cx.base out loc' k≠none) (fun _=>True) x) :
  Weaks cx nt0 ⟨tl l,lb cx.base out loc,tok,nt⟩ ⟨tl l',lb cx.base out loc',tok,nt⟩:=by
 refine ⟨out,loc,loc',none,rfl,rfl,Nat.le_refl _,hnt,fun t h=>⟨h,.inl rfl⟩,?_,?_,(fun _ _ _ h=>by cases h),?_⟩
 ·simp only [true_or,Option.map_none]; exact hl.all
 ·simp only [true_or,Option.map_none]; exact hb.all
 ·simp only [true_or]; exact ho
theorem Weaks.mk {cx:Cx} {nt0 nt:Nat} {l l':List (Nat × AV)} {out:Bxs} {loc loc':List (Nat × List (List AV))} {tok:Nat→Bool} (hnt:nt0≤nt) (ho:out=cx.B0)
  (hl:ToL (fun k=>lb cx.base out loc' k≠none) (fun _=>True) none l l') (hb:BoxL (fun k=>lb cx.base out loc' k≠none) (fun _=>True) none loc loc') :
  Weaks cx nt0 ⟨tl l,lb cx.base out loc,tok,nt⟩ ⟨tl l',lb cx.base out loc',tok,nt⟩ :=
 Weaks.mk' hnt hl hb fun k rows _ h=>.inl (by rw [←ho]; exact h)
theorem Fin.data {cx:Cx} {nt0 nt:Nat} {rs:List ResultVar} {l:List (Nat × AV)} {out:Bxs} {loc:List (Nat × List (List AV))} {tok mtok:Nat→Bool} {vs:List AV} {av:AV}
  (hres:resAs P ⟨tl l,lb cx.base out loc,tok,nt⟩ rs=some vs) (hbox:lb cx.base out []=out) (ho:out=cx.B0) (hm:∀ t,mtok t=true→t<nt0) (htok:∀ t,mtok t=true→tok t=true) (hnt:nt0≤nt)
  (hto:To (fun k=>lb cx.base out [] k≠none) (fun t=>nt0=nt∨t<nt0) none (packA vs) av):Fin P cx nt0 rs (fun v' m'=>v'=av∧m'=⟨out,cx.base,mtok,nt0⟩) ⟨tl l,lb cx.base out loc,tok,nt⟩ :=
 ⟨vs,out,loc,none,av,⟨out,cx.base,mtok,nt0⟩,hres,⟨rfl,rfl,hnt,Nat.le_refl _,fun t h=>⟨htok t h,.inr (hm t h)⟩,fun _=>.bot,fun s rows' h=>by simp [lk] at h,(fun _ _ _ h=>by cases h),
  fun k rows _ h=>.inl (by rw [←ho]; exact h)⟩,hbox.symm,rfl,by simpa using hto,rfl,rfl⟩
section
variable {p q:Nat→Prop} {fz:Option (Nat × Nat × List (List D))}
@[simp] theorem to_bot (x:AV):To p q fz x .bot:=.bot
@[simp] theorem to_d (x:D):To p q fz (.d x) (.d x):=.same .d
@[simp] theorem to_data (sz:Nat) (es:List (List D)) (o:Own):To p q fz (.osl sz es o) (.d (.sl sz es)):=.data
@[simp] theorem to_osl (sz:Nat) (es:List (List D)) (o:Own):To p (fun _=>True) fz (.osl sz es o) (.osl sz es o):=.same (.osl fun _ _=>trivial)
theorem to_snoc {sz:Nat} {es:List (List D)} {r r':List D} (h:DS1 r r') (o:Own):To p (fun _=>True) fz (.osl sz (es++[r]) o) (.osl sz (es++[r']) o):=.otok ((DSs.snoc h).sub sz) fun _ _=>trivial
theorem dsub_one {sz:Nat} {r r':List D} (h:DS1 r r'):DSub (.sl sz [r]) (.sl sz [r']):=(DSs.one h).sub sz
@[simp] theorem to_full (sz:Nat) (es:List (List D)):To p q fz (.osl sz es .full) (.osl sz es .full):=.same (.osl fun _ h=>by cases h)
@[simp] theorem to_nil0 (sz sz':Nat) (h:sz'=0→sz=0):To p q fz (.osl sz [] .full) (.osl sz' [] .full):=.nil h rfl
@[simp] theorem to_emp0 (sz sz':Nat) (o:Own):To p q fz (.osl sz [] o) (.d (.sl sz' [])):=.odsub .emp
@[simp] theorem to_emp1 (sz sz':Nat):To p q fz (.d (.sl sz [])) (.d (.sl sz' [])):=.dsub .emp
@[simp] theorem to_emp2 (sz sz':Nat):To p q fz (.osl 1 [[.sl sz []]] .full) (.osl 1 [[.sl sz' []]] .full) :=
 .osub (fun e=>by cases e) (.sl rfl (fun i h1 h2=>by simp at h1; subst h1; rfl) (fun i h1 h2 j g1 g2=>by simp at h1; subst h1; simp at g1; subst g1; exact .emp))
@[simp] theorem to_emp3 (sz sz':Nat) (o:Own):To p q fz (.osl 1 [[.sl sz []]] o) (.d (.sl 1 [[.sl sz' []]])) :=
 .odsub (.sl rfl (fun i h1 h2=>by simp at h1; subst h1; rfl) (fun i h1 h2 j g1 g2=>by simp at h1; subst h1; simp at g1; subst g1; exact .emp))
@[simp] theorem to_cptr (cs:List D) (off:Nat):To p q fz (.cptr cs off) (.cptr cs off):=.same .cptr
theorem to_ptr {k i off:Nat} (h:p k):To p q fz (.ptr k i off) (.ptr k i off):=.same (.ptr h)
@[simp] theorem to_ptr_lb {base s i off:Nat} {out:Bxs} {loc:List (Nat × List (List AV))}:To (fun k=>lb base out loc k≠none) q fz (.ptr (base+s) i off) (.ptr (base+s) i off)↔lk loc s≠none:=by
 constructor
 ·intro h;cases h with
  | same h=>cases h with|ptr h=>rw [lb_at] at h; exact h
 ·intro h;exact to_ptr (by rw [lb_at]; exact h)
@[simp] theorem to_buf (E:TypeId) (t:Nat) (es:List (List D)):To p (fun _=>True) fz (.buf E t es) (.buf E t es):=.same (.buf trivial)
@[simp] theorem to_here_lb {base s:Nat} {T:TypeId} {out:Bxs} {loc:List (Nat × List (List AV))}:To (fun k=>lb base out loc k≠none) q fz (.here (base+s) T) (.here (base+s) T)↔lk loc s≠none:=by
 constructor
 ·intro h;cases h with
  | same h=>cases h with|here h=>rw [lb_at] at h; exact h
 ·intro h;exact .same (.here (by rw [lb_at]; exact h))
@[simp] theorem to_msl_lb {base s off n sz:Nat} {out:Bxs} {loc:List (Nat × List (List AV))}:To (fun k=>lb base out loc k≠none) q fz (.msl (base+s) off n sz) (.msl (base+s) off n sz)↔lk loc s≠none:=by
 constructor
 ·intro h;cases h with
  | same h=>cases h with|msl h=>rw [lb_at] at h; exact h
 ·intro h;exact .same (.msl (by rw [lb_at]; exact h))
@[simp] theorem okIn_d (x:D):OkIn p q (.d x):=.d
@[simp] theorem okIn_bot:OkIn p q .bot:=.bot
@[simp] theorem okIn_osl (sz:Nat) (es:List (List D)) (o:Own):OkIn p (fun _=>True) (.osl sz es o):=.osl fun _ _=>trivial
@[simp] theorem okIn_ptr {k i off:Nat}:OkIn p q (.ptr k i off)↔p k:=⟨fun h=>by cases h; assumption,.ptr⟩
@[simp] theorem okIn_agg {cs:List AV}:OkIn p q (.agg cs)↔∀ c∈cs,OkIn p q c:=⟨fun h=>by cases h; assumption,.agg⟩
@[simp] theorem okIn_fn {f:Fn} {cs:List AV}:OkIn p q (.fn f cs)↔∀ c∈cs,OkIn p q c:=⟨fun h=>by cases h; assumption,.fn⟩
@[simp] theorem to_tup_nil:To p q fz (.tup []) (.tup []):=.tup rfl fun i h=>by simp at h
theorem to_cons_agg {a b:AV} {as1 bs:List AV} (h:To p q fz a b) (k:To p q fz (.agg as1) (.agg bs)):To p q fz (.agg (a::as1)) (.agg (b::bs)):=by
 cases k with
 | same k =>
  refine .agg rfl fun i h1 h2=>?_
  cases i with
  | zero=>exact h
  | succ i=>exact .same ((okIn_agg.1 k) _ (List.getElem_mem _))
 | agg hl k =>
  refine .agg (by simp [hl]) fun i h1 h2=>?_
  cases i with
  | zero=>exact h
  | succ i=>exact k i (by simpa using h1) (by simpa using h2)
theorem to_cons_tup {a b:AV} {as1 bs:List AV} (h:To p q fz a b) (k:To p q fz (.tup as1) (.tup bs)):To p q fz (.tup (a::as1)) (.tup (b::bs)):=by
 cases k with
 | same k =>
  refine .tup rfl fun i h1 h2=>?_
  cases i with
  | zero=>exact h
  | succ i=>cases k with|tup k=>exact .same (k _ (List.getElem_mem _))
 | tup hl k =>
  refine .tup (by simp [hl]) fun i h1 h2=>?_
  cases i with
  | zero=>exact h
  | succ i=>exact k i (by simpa using h1) (by simpa using h2)
@[simp] theorem to_cons_agg_iff {a b:AV} {as1 bs:List AV}:To p q fz (.agg (a::as1)) (.agg (b::bs))↔To p q fz a b∧To p q fz (.agg as1) (.agg bs):=by
 constructor
 ·intro h;cases h with
  | same h=>have:=okIn_agg.1 h; exact ⟨.same (this _ (by simp)),.same (okIn_agg.2 fun c hc=>this c (by simp [hc]))⟩
  | agg hl h=>exact ⟨h 0 (by simp) (by simp),.agg (by simpa using hl) fun i h1 h2=>h (i+1) (by simpa using h1) (by simpa using h2)⟩
 ·exact fun ⟨h,k⟩=>to_cons_agg h k
@[simp] theorem to_cons_tup_iff {a b:AV} {as1 bs:List AV}:To p q fz (.tup (a::as1)) (.tup (b::bs))↔To p q fz a b∧To p q fz (.tup as1) (.tup bs):=by
 constructor
 ·intro h;cases h with
  | same h =>
   cases h with
   | tup this=>exact ⟨.same (this _ (by simp)),.same (.tup fun c hc=>this c (by simp [hc]))⟩
  | tup hl h=>exact ⟨h 0 (by simp) (by simp),.tup (by simpa using hl) fun i h1 h2=>h (i+1) (by simpa using h1) (by simpa using h2)⟩
 ·exact fun ⟨h,k⟩=>to_cons_tup h k
@[simp] theorem to_nil_agg:To p q fz (.agg []) (.agg []):=.agg rfl fun i h=>by simp at h
end
def SideD (t:List (Nat × AV)):List Oper→Prop
 | []=>True
 | o::r=>(match o.dst with|some d=>NP (tl t d)|none=>True)∧SideD t r
theorem SideD.all {t:List (Nat × AV)} {l:List Oper} (h:SideD t l):∀ o∈l,∀ d,o.dst=some d→NP (tl t d):=by
 induction l with
 | nil=>intro o ho; simp at ho
 | cons o r ih =>
  intro x hx d hd;unfold SideD at h;rcases List.mem_cons.1 hx with e|hx
  ·subst e;have:=h.1
   rw [hd] at this;exact this
  ·exact ih h.2 x hx d hd
theorem Side.of {ops:Array Oper} {l:List (Nat × AV)} {b:Bxs} {k:Nat→Bool} {n:Nat} (h:SideD l ops.toList):Side ops ⟨tl l,b,k,n⟩ :=
 fun o ho d hd=>h.all o ho d hd
attribute [simp] SideD NP NK ptrs Far Far1
theorem AL.loopT {cx:Cx} {nt0:Nat} {K:Exit→AState→Prop} {r:List CI} {S:AState} {c:Code} {α:Type} (T:α→AState) (inv:α→Prop) (μ:α→Nat) (a0:α) (h0:inv a0) (hw:Weaks cx nt0 S (T a0))
  (hstep:∀ a S,inv a→S=T a→AL P cx nt0 (fun e S'=>match e with
   | .normal=>∃ a',inv a'∧μ a'<μ a∧Weaks cx nt0 S' (T a')
   | e=>AU P cx nt0 K r e S') [.c c] S):AL P cx nt0 K (.c (.loop c)::r) S:=by
 refine AL.loop (fun n S=>∃ a,inv a∧n=μ a∧S=T a) ⟨_,_,hw,a0,h0,rfl,rfl⟩ ?_;rintro n S ⟨a,ha,rfl,hS⟩;have:=AL.start (hstep a S ha hS)
 simp only [AL];refine this.mono fun e S' h=>?_
 cases e with
 | normal =>
  obtain ⟨a',h1,h2,h3⟩:=h;exact ⟨μ a',T a',h2,h3,a',h1,rfl,rfl⟩
 | _=>simpa only [AU] using h
structure TK (mtok:Tks) (nt0:Nat) (tok:Tks) (nt:Nat) (os:List Own):Prop where
 old:∀ t,mtok t=true→tok t=true
 lt:∀ t,mtok t=true→t<nt0
 le:nt0≤nt
 own:∀ o∈os,∀ t,o=.tok t→tok t=true∧nt0≤t∧t<nt
 ne:os.Pairwise fun a b=>∀ t,a=.tok t→b≠.tok t
theorem TK.start {mtok:Nat→Bool} {nt0:Nat} (h:∀ t,mtok t=true→t<nt0):TK mtok nt0 mtok nt0 []:=⟨fun _ h=>h,h,Nat.le_refl _,by simp,.nil⟩
theorem TK.full {mtok:Nat→Bool} {nt0:Nat} {tok:Nat→Bool} {nt:Nat} {os:List Own} (h:TK mtok nt0 tok nt os):TK mtok nt0 tok nt (.full::os) :=
 ⟨h.old,h.lt,h.le,fun o ho t e=>by
  rcases List.mem_cons.1 ho with rfl|ho
  ·cases e
  ·exact h.own o ho t e,.cons (fun b _ t e=>by cases e) h.ne⟩
theorem TK.live {mtok:Nat→Bool} {nt0:Nat} {tok:Nat→Bool} {nt:Nat} {o:Own} {os:List Own} (h:TK mtok nt0 tok nt (o::os)):o.liveP tok:=by
 cases o with
 | full=>trivial
 | tok t=>exact (h.own _ (by simp) t rfl).1
theorem TK.tail {mtok:Nat→Bool} {nt0:Nat} {tok:Nat→Bool} {nt:Nat} {o:Own} {os:List Own} (h:TK mtok nt0 tok nt (o::os)):TK mtok nt0 tok nt os :=
 ⟨h.old,h.lt,h.le,fun o' ho=>h.own o' (by simp [ho]),(List.pairwise_cons.1 h.ne).2⟩
theorem TK.swap {mtok:Nat→Bool} {nt0:Nat} {tok:Nat→Bool} {nt:Nat} {a b:Own} {os:List Own} (h:TK mtok nt0 tok nt (a::b::os)):TK mtok nt0 tok nt (b::a::os):=by
 have h1:=List.pairwise_cons.1 h.ne;have h2:=List.pairwise_cons.1 h1.2;refine ⟨h.old,h.lt,h.le,fun o' ho=>h.own o' (by simp at ho ⊢; rcases ho with h|h|h <;> simp [h]),?_⟩;refine List.pairwise_cons.2 ⟨fun c hc t e=>?_,List.pairwise_cons.2 ⟨fun c hc=>h1.1 c (by simp [hc]),h2.2⟩⟩;rcases List.mem_cons.1 hc with rfl|hc
 ·intro e';exact h1.1 b (by simp) t e' e
 ·exact h2.1 c hc t e
theorem TK.app {mtok:Nat→Bool} {nt0:Nat} {tok:Nat→Bool} {nt:Nat} {o:Own} {os:List Own} (h:TK mtok nt0 tok nt (o::os)):TK mtok nt0 (upd (o.kill tok) nt true) (nt+1) (.tok nt::os):=by
 have hp:=List.pairwise_cons.1 h.ne;have key:∀ t,t<nt→(∀ t',o=.tok t'→t≠t')→(upd (o.kill tok) nt true) t=tok t:=by
  intro t ht hne;rw [upd_other _ _ (by omega)];cases o with
  | full=>rfl
  | tok t'=>simp only [Own.kill]; rw [upd_other _ _ (hne t' rfl)]
 have hle:=h.le;refine ⟨fun t ht=>?_,h.lt,by omega,fun o' ho t e=>?_,?_⟩
 ·have hlt:=h.lt t ht;rw [key t (by omega) (fun t' e=>by have:=(h.own o (by simp) t' e).2.1; omega)];exact h.old t ht
 ·rcases List.mem_cons.1 ho with rfl|ho
  ·cases e;exact ⟨by rw [upd_same],hle,by omega⟩
  ·obtain ⟨h1,h2,h3⟩:=h.own o' (by simp [ho]) t e;refine ⟨?_,h2,by omega⟩;rw [key t h3 (fun t' e'=>fun e2=>by subst e2; exact hp.1 o' ho t e' e)];exact h1
 ·refine List.pairwise_cons.2 ⟨fun b hb t e e'=>?_,hp.2⟩;cases e;have:=(h.own b (by simp [hb]) _ e').2.2
  omega
theorem Stop.of_b {cx:Cx} {fid:FuncId} {args:List AV} {S:AState} {dst:Option Tmp} {K:AState→Prop} {v:AV} {tok':Nat→Bool} {nt':Nat} (h:ACalls P fid args ⟨S.box,cx.nb,S.tok,S.nt⟩ fun v' m'=>v'=v∧m'=⟨S.box,cx.nb,tok',nt'⟩)
  (hk:K ⟨putT S.tmps dst v,S.box,tok',nt'⟩):Stop P cx false fid args S dst K:=by
 refine h.mono ?_;rintro v' m' ⟨rfl,rfl⟩;exact hk
theorem key_lt {nb k:Nat} {box:Bxs} {r:List (List AV)} (hbox:lb nb box []=box) (h:box k=some r):k<nb:=by
 rcases Nat.lt_or_ge k nb with h1|h1
 ·exact h1
 ·rw [←hbox] at h;have:¬ k<nb:=by omega
  simp [lb,lk,this] at h
abbrev ints (xs:List Int):D:=.sl 1 (xs.map fun n=>[D.raw (.int .i64 n)])
abbrev I (n:Int):AV:=.d (.raw (.int .i64 n))
abbrev B (b:Bool):AV:=.d (.raw (.bool b))
structure E where
 ty:Int
 fr:Int
 to:Int
 deriving DecidableEq,Inhabited
abbrev E.cells (e:E):List D:=[.raw (.int .i64 e.ty),.raw (.int .i64 e.fr),.raw (.int .i64 e.to)]
abbrev edges (es:List E):D:=.sl 3 (es.map E.cells)
structure Gr where
 nodes:List Int
 edges:List E
 deriving DecidableEq,Inhabited
structure Mo where
 nodes:List Int
 edges:List Int
 deriving DecidableEq,Inhabited
abbrev Gr.av (g:Gr):AV:=.agg [.d (ints g.nodes),.d (AM.edges g.edges)]
abbrev Mo.av (m:Mo):AV:=.agg [.d (ints m.nodes),.d (ints m.edges)]
@[simp] theorem map_at {α β:Type} (f:α→β) (l:List α) (i:Nat) (d:β) (h:i<l.length):((l.map f)[i]?).getD d=f l[i]:=by simp [h]
class Nrm (l:List CI) (l':outParam (List CI)):Prop where
 h:∀ {P:Program} {cx:Cx} {nt0:Nat} {K:Exit→AState→Prop} {S:AState},AL P cx nt0 K l' S→AL P cx nt0 K l S
instance (priority:=low) Nrm.base {l:List CI}:Nrm l l:=⟨id⟩
instance Nrm.seq {a b:Code} {r l':List CI} [h:Nrm (.c a::.c b::r) l']:Nrm (.c (.seq a b)::r) l':=⟨fun x=>AL.seq (h.h x)⟩
instance Nrm.block {id:Nat} {c:Code} {r l':List CI} [h:Nrm (.c c::.blk id::r) l']:Nrm (.c (.block id c)::r) l':=⟨fun x=>AL.block (h.h x)⟩
instance Nrm.skip {r l':List CI} [h:Nrm r l']:Nrm (.c .skip::r) l':=⟨fun x=>AL.skip (h.h x)⟩
instance Nrm.blk {id:Nat} {r l':List CI} [h:Nrm r l']:Nrm (.blk id::r) l':=⟨fun x=>AL.blk (h.h x)⟩
section
variable {P:Program} {cx:Cx} {nt0:Nat} {K:Exit→AState→Prop} {S:AState} {l l' r:List CI}
theorem sN [h:Nrm l l'] (k:AL P cx nt0 K l' S):AL P cx nt0 K l S:=h.h k
theorem sR {id:Nat} {ops:Array Oper} {draw:Bool} [h:Nrm l (.c (.region id ops draw)::r)] (k:FReg Tryz.prog cx ops draw (AL Tryz.prog cx nt0 K r) S) (hnb:cx.base+cx.n≤cx.nb:=by exact Nat.le_refl _) (hok:regionOk cx.n ops draw=true:=by kernel_rfl):AL Tryz.prog cx nt0 K l S :=
 h.h (AL.region follows_Tryz hnb hok k)
theorem sC {x:Operand} {a b:Code} [h:Nrm l (.c (.cond x a b)::r)] (k:FCond P cx nt0 K r a b S (S.ev x)):AL P cx nt0 K l S:=h.h (AL.cond k)
theorem sT [h:Nrm l (.c .ret::r)] (k:K .ret S):AL P cx nt0 K l S:=h.h (AL.ret k)
theorem sE [h:Nrm l []] (k:K .normal S):AL P cx nt0 K l S:=h.h (AL.nil k)
theorem sX {id:Nat} [h:Nrm l (.c (.exit id)::r)] (k:AU P cx nt0 K r (.exit id) S):AL P cx nt0 K l S:=h.h (AL.exit k)
theorem sF {nt:Nat} {rs:List ResultVar} {l:List (Nat × AV)} {out:Bxs} {loc:List (Nat × List (List AV))} {tok mtok:Nat→Bool} {vs:List AV} {av:AV}
  (hbox:lb cx.base out []=out) (hm:∀ t,mtok t=true→t<nt0) (htok:∀ t,mtok t=true→tok t=true) (hnt:nt0≤nt)
  (hto:To (fun k=>lb cx.base out [] k≠none) (fun t=>nt0=nt∨t<nt0) none (packA vs) av) (hres:resAs P ⟨tl l,lb cx.base out loc,tok,nt⟩ rs=some vs:=by (simp [resAs,resA]; rfl)) (ho:out=cx.B0:=by rfl):Fin P cx nt0 rs (fun v' m'=>v'=av∧m'=⟨out,cx.base,mtok,nt0⟩) ⟨tl l,lb cx.base out loc,tok,nt⟩ :=
 Fin.data hres hbox ho hm htok hnt hto
end
theorem sW {i:Nat} (h:i<9223372036854775807):IntKind.i64.wrap (↑i+1)=((i+1:Nat):Int):=by rw [wrap_in (by omega) (by omega)]; rfl
theorem sB {f:FuncId} {fn:Func} {c:Code} {args:List AV} {m:AMem} {Q:AV→AMem→Prop} {k:Nat} (hfn:Tryz.prog.funcs[f]?=some fn) (hk:fn.ntmps=k)
  (h:lb m.nb m.box []=m.box→(∀ t,m.tok t=true→t<m.nt)→AT Tryz.prog ⟨m.nb,m.nb+fn.ntmps,fn.ntmps,m.box⟩ m.nt c ⟨tl (tlArgs 0 args),lb m.nb m.box [],m.tok,m.nt⟩
   fun e S=>(e=.normal∨e=.ret)∧Fin Tryz.prog ⟨m.nb,m.nb+fn.ntmps,fn.ntmps,m.box⟩ m.nt fn.results.toList Q S)
  (hb:fn.body=some c:=by rfl) (hname:(fn.name == "runtime.NumGoroutine")=false:=by kernel_rfl) (hl:args.length≤k:=by simp):ACalls Tryz.prog f args m Q :=
 ACalls.of_body hfn hb hname follows_Tryz rfl (hk ▸ hl) h
theorem sI {f:FuncId} {fn:Func} {c:Code} {args:List AV} {box:Nat→Option (List (List AV))} {nb:Nat} {tok:Nat→Bool} {nt:Nat} {Q:AV→AMem→Prop} {k:Nat} (hfn:Tryz.prog.funcs[f]?=some fn) (hk:fn.ntmps=k)
 (h:lb nb box []=box→(∀ t,tok t=true→t<nt)→AL Tryz.prog ⟨nb,nb+k,k,box⟩ nt (fun e S=>(e=.normal∨e=.ret)∧Fin Tryz.prog ⟨nb,nb+k,k,box⟩ nt fn.results.toList Q S) [.c c] ⟨tl (tlArgs 0 args),lb nb box [],tok,nt⟩)
 (hb:fn.body=some c:=by rfl) (hname:(fn.name == "runtime.NumGoroutine")=false:=by kernel_rfl) (hl:args.length≤k:=by simp):ACalls Tryz.prog f args ⟨box,nb,tok,nt⟩ Q:=by
 subst hk;exact sB (m:=⟨box,nb,tok,nt⟩) hfn rfl (fun h1 h2=>AL.start (h h1 h2)) hb hname hl
theorem sG {P:Program} {cx:Cx} {nt0:Nat} {rs:List ResultVar} {l:List (Nat × AV)} {out:Nat→Option (List (List AV))} {loc:List (Nat × List (List AV))} {tok mtok:Nat→Bool} {vs:List AV} {av:AV} {nt:Nat} (hbox:lb cx.base out []=out) (hm:∀ t,mtok t=true→t<nt0)
 (htok:∀ t,mtok t=true→tok t=true) (hnt:nt0≤nt) (hto:To (fun k=>lb cx.base out [] k≠none) (fun t=>nt0=nt∨t<nt0) none (packA vs) av) (hres:resAs P ⟨tl l,lb cx.base out loc,tok,nt⟩ rs=some vs:=by (simp [resAs,resA]; rfl)) (ho:out=cx.B0:=by rfl) :
 (Exit.ret=Exit.normal∨Exit.ret=Exit.ret)∧Fin P cx nt0 rs (fun v' m'=>v'=av∧m'=⟨out,cx.base,mtok,nt0⟩) ⟨tl l,lb cx.base out loc,tok,nt⟩:=⟨.inr rfl,sF hbox hm htok hnt hto hres ho⟩
theorem sH {P:Program} {cx:Cx} {nt0:Nat} {rs:List ResultVar} {l:List (Nat × AV)} {out:Nat→Option (List (List AV))} {loc:List (Nat × List (List AV))} {tok:Nat→Bool} {vs:List AV} {av:AV} (hbox:lb cx.base out []=out) (hm:∀ t,tok t=true→t<nt0)
 (hto:To (fun k=>lb cx.base out [] k≠none) (fun t=>nt0=nt0∨t<nt0) none (packA vs) av) (hres:resAs P ⟨tl l,lb cx.base out loc,tok,nt0⟩ rs=some vs:=by (simp [resAs,resA]; rfl)) (ho:out=cx.B0:=by rfl) :
 (Exit.ret=Exit.normal∨Exit.ret=Exit.ret)∧Fin P cx nt0 rs (fun v' m'=>v'=av∧m'=⟨out,cx.base,tok,nt0⟩) ⟨tl l,lb cx.base out loc,tok,nt0⟩:=sG hbox hm (fun _ h=>h) (Nat.le_refl _) hto hres ho
theorem wkA {cx:Cx} {nt0 nt:Nat} {l l':List (Nat × AV)} {out:Nat→Option (List (List AV))} {loc loc':List (Nat × List (List AV))} {tok:Nat→Bool} (hl:ToL (fun k=>lb cx.base out loc' k≠none) (fun _=>True) none l l':=by simp [ToL,lk,lb_at])
 (hb:BoxL (fun k=>lb cx.base out loc' k≠none) (fun _=>True) none loc loc':=by simp [BoxL,lk]) (hnt:nt0≤nt:=by exact Nat.le_refl _) (ho:out=cx.B0:=by rfl):Weaks cx nt0 ⟨tl l,lb cx.base out loc,tok,nt⟩ ⟨tl l',lb cx.base out loc',tok,nt⟩:=Weaks.mk hnt ho hl hb
def withinB (n most:Int):Bool:=decide (0≤n)&&decide (n≤most)
def fitsB (e:E) (nodes:Int):Bool:=withinB e.ty 99&&(withinB e.fr (nodes - 1)&&withinB e.to (nodes - 1))
theorem within_c (n most:Int) (tok:Tks) (nt:Nat):DCall Tryz.prog 202 [I n,I most] tok nt (B (withinB n most)) tok nt:=by
 intro box nb;refine sI Tryz.func202 Tryz.ntmps202 fun hbox htok=>?_
 refine sR ?_;simp;refine sR ?_;simp;first|refine Gd.dt (fun h=>?_) (fun h=>?_)|refine Gd.df (fun h=>?_) (fun h=>?_)|refine Gd.t (fun h=>?_) (fun h=>?_)|refine Gd.f (fun h=>?_) (fun h=>?_)
 ·simp [h];refine sT (sH hbox htok ?_);simp [packA,withinB,h]
 ·simp [h];refine sT (sH hbox htok ?_);simp [packA,withinB,h]
theorem fits_c (e:E) (nodes:Int) (h0:0≤nodes) (h1:nodes≤1000000) (tok:Tks) (nt:Nat):DCall Tryz.prog 204 [.agg [I e.ty,I e.fr,I e.to],I nodes] tok nt (B (fitsB e nodes)) tok nt:=by
 intro box nb;have hw:IntKind.i64.wrap (nodes - 1)=nodes - 1:=wrap_in (by omega) (by omega)
 refine sI Tryz.func204 Tryz.ntmps204 fun hbox htok=>?_
 refine sR ?_;simp;refine sR ?_;simp [hw];refine Stop.of_d (within_c _ _ _ _) ?_;simp [hw];first|refine Gd.dt (fun h2=>?_) (fun h2=>?_)|refine Gd.df (fun h2=>?_) (fun h2=>?_)|refine Gd.t (fun h2=>?_) (fun h2=>?_)|refine Gd.f (fun h2=>?_) (fun h2=>?_)
 ·simp [hw,h2];refine Stop.of_d (within_c _ _ _ _) ?_;simp [hw,h2];first|refine Gd.dt (fun h3=>?_) (fun h3=>?_)|refine Gd.df (fun h3=>?_) (fun h3=>?_)|refine Gd.t (fun h3=>?_) (fun h3=>?_)|refine Gd.f (fun h3=>?_) (fun h3=>?_)
  ·simp [hw,h3];refine Stop.of_d (within_c _ _ _ _) ?_;simp [hw,h2,h3];refine sT (sH hbox htok ?_);simp [packA,fitsB,h2,h3]
  ·simp [h3];refine sT (sH hbox htok ?_);simp [packA,fitsB,h2,h3]
 ·simp [h2];refine sT (sH hbox htok ?_);simp [packA,fitsB,h2]
theorem valid1_c (n:Int) (tok:Tks) (nt:Nat):DCall Tryz.prog 201 [I n] tok nt (B (!withinB n 99)) tok nt:=by
 intro box nb;refine sI Tryz.func201 Tryz.ntmps201 fun hbox htok=>?_
 refine sR ?_;simp;refine sR ?_;simp;refine Stop.of_d (within_c _ _ _ _) ?_;simp;refine sT (sH hbox htok ?_);simp [packA]
theorem valid2_c (e:E) (g:Gr) (hg:g.nodes.length≤1000000) (tok:Tks) (nt:Nat) (box:Bxs) (nb k:Nat) (hk:box k=some [[.d (ints g.nodes),.d (AM.edges g.edges)]]) :
  ACalls Tryz.prog 203 [.agg [I e.ty,I e.fr,I e.to],.ptr k 0 0] ⟨box,nb,tok,nt⟩ fun v m=>v=B (!fitsB e g.nodes.length)∧m=⟨box,nb,tok,nt⟩:=by
 refine sI Tryz.func203 Tryz.ntmps203 fun hbox htok=>?_
 have hkn:=key_lt hbox hk;refine sR ?_;simp;refine sR ?_;simp [lb_out hkn,hk];refine Stop.of_d (fits_c e g.nodes.length (by omega) (by omega) _ _) ?_;simp;refine sT (sH hbox htok ?_);simp [packA]
variable {P:Program}
def RowTo (p q:Nat→Prop) (fz:Option (Nat × Nat × List (List D))) (r r':List AV):Prop :=
 r.length=r'.length∧∀ j (g1:j<r.length) (g2:j<r'.length),To p q fz r[j] r'[j]
section
variable {p q:Nat→Prop} {fz:Option (Nat × Nat × List (List D))}
@[simp] theorem rowTo_nil:RowTo p q fz [] []:=⟨rfl,fun j h=>by simp at h⟩
@[simp] theorem rowTo_cons {x y:AV} {xs ys:List AV}:RowTo p q fz (x::xs) (y::ys)↔To p q fz x y∧RowTo p q fz xs ys:=by
 constructor
 ·rintro ⟨h1,h2⟩;refine ⟨h2 0 (by simp) (by simp),by simpa using h1,fun j g1 g2=>?_⟩;exact h2 (j+1) (by simpa using g1) (by simpa using g2)
 ·rintro ⟨h1,h2,h3⟩;refine ⟨by simp [h2],fun j g1 g2=>?_⟩;cases j with
  | zero=>exact h1
  | succ j=>exact h3 j (by simpa using g1) (by simpa using g2)
@[simp] theorem rowsTo_nil:RowsTo p q fz [] []:=⟨rfl,fun j h=>by simp at h⟩
@[simp] theorem rowsTo_cons {x y:List AV} {xs ys:List (List AV)}:RowsTo p q fz (x::xs) (y::ys)↔RowTo p q fz x y∧RowsTo p q fz xs ys:=by
 constructor
 ·rintro ⟨h1,h2⟩;refine ⟨h2 0 (by simp) (by simp),by simpa using h1,fun j g1 g2=>?_⟩;exact h2 (j+1) (by simpa using g1) (by simpa using g2)
 ·rintro ⟨h1,h2,h3⟩;refine ⟨by simp [h2],fun j g1 g2=>?_⟩;cases j with
  | zero=>exact h1
  | succ j=>exact h3 j (by simpa using g1) (by simpa using g2)
theorem rowsTo_same {rows:List (List AV)} (h:∀ r∈rows,∀ x∈r,OkIn p q x):RowsTo p q fz rows rows :=
 ⟨rfl,fun i h1 h2=>⟨rfl,fun j g1 g2=>.same (h _ (List.getElem_mem _) _ (List.getElem_mem _))⟩⟩
end
def rowsD (es:List (List D)):List (List AV):=es.map fun e=>e.map AV.d
@[simp] theorem rowsD_length (es:List (List D)):(rowsD es).length=es.length:=by simp [rowsD]
@[simp] theorem rowsD_get {es:List (List D)} {i:Nat} (h:i<es.length):(rowsD es)[i]?=some ((es[i]).map AV.d):=by simp [rowsD,h]
@[simp] theorem rowsTo_D {p q:Nat→Prop} {fz:Option (Nat × Nat × List (List D))} (es:List (List D)):RowsTo p q fz (rowsD es) (rowsD es):=by
 refine rowsTo_same fun r hr x hx=>?_
 obtain ⟨e,_,rfl⟩:=List.mem_map.1 hr;obtain ⟨d,_,rfl⟩:=List.mem_map.1 hx;exact .d
abbrev rI (xs:List Int):List (List D):=xs.map fun n=>[D.raw (.int .i64 n)]
abbrev rE (es:List E):List (List D):=es.map E.cells
def rowsI (xs:List Int):List (List AV):=xs.map fun n=>[AV.d (.raw (.int .i64 n))]
def rowsE (xs:List E):List (List AV):=xs.map fun e=>[AV.d (.raw (.int .i64 e.ty)),AV.d (.raw (.int .i64 e.fr)),AV.d (.raw (.int .i64 e.to))]
theorem rowsI_eq (xs:List Int):rowsI xs=rowsD (rI xs):=by simp [rowsI,rowsD,rI]
theorem rowsE_eq (xs:List E):rowsE xs=rowsD (rE xs):=by simp [rowsE,rowsD,rE,E.cells]
@[simp] theorem rep_rI (n:Nat):List.replicate n [AV.d (.raw (.int .i64 0))]=rowsI (List.replicate n 0):=by simp [rowsI]
@[simp] theorem rep_rE (n:Nat):List.replicate n [AV.d (.raw (.int .i64 0)),AV.d (.raw (.int .i64 0)),AV.d (.raw (.int .i64 0))]=rowsE (List.replicate n ⟨0,0,0⟩):=by simp [rowsE]
@[simp] theorem set_rI (xs:List Int) (i:Nat) (v:Int):(rowsI xs).set i [AV.d (.raw (.int .i64 v))]=rowsI (xs.set i v):=by simp [rowsI,List.map_set]
@[simp] theorem set_rE (xs:List E) (i:Nat) (a b c:Int):(rowsE xs).set i [AV.d (.raw (.int .i64 a)),AV.d (.raw (.int .i64 b)),AV.d (.raw (.int .i64 c))]=rowsE (xs.set i ⟨a,b,c⟩):=by simp [rowsE,List.map_set]
@[simp] theorem rowsI_length (xs:List Int):(rowsI xs).length=xs.length:=by simp [rowsI]
@[simp] theorem rowsE_length (xs:List E):(rowsE xs).length=xs.length:=by simp [rowsE]
@[simp high] theorem rowsI_get {xs:List Int} {i:Nat} (h:i<xs.length):(rowsI xs)[i]?=some [AV.d (.raw (.int .i64 xs[i]))]:=by simp [rowsI,h]
@[simp high] theorem rowsE_get {xs:List E} {i:Nat} (h:i<xs.length):(rowsE xs)[i]?=some [AV.d (.raw (.int .i64 xs[i].ty)),AV.d (.raw (.int .i64 xs[i].fr)),AV.d (.raw (.int .i64 xs[i].to))]:=by simp [rowsE,h]
@[simp] theorem rowsTo_I {p q:Nat→Prop} {fz:Option (Nat × Nat × List (List D))} (xs:List Int):RowsTo p q fz (rowsI xs) (rowsI xs):=by rw [rowsI_eq]; simp
@[simp] theorem rowsTo_E {p q:Nat→Prop} {fz:Option (Nat × Nat × List (List D))} (xs:List E):RowsTo p q fz (rowsE xs) (rowsE xs):=by rw [rowsE_eq]; simp
theorem toDs_map:∀ (e:List D),toDs (e.map AV.d)=some e
 | []=>rfl
 | d::e=>by simp [toDs,AV.toD,toDs_map e]
theorem Weaks.frz {cx:Cx} {nt0 nt:Nat} {l l':List (Nat × AV)} {out:Bxs} {loc loc':List (Nat × List (List AV))} {tok:Nat→Bool} (s sz:Nat) (es:List (List D)) (hnt:nt0≤nt) (ho:out=cx.B0)
  (hs:lk loc s=some (rowsD es)) (hs':lk loc' s=none) (hsz:∀ e∈es,e.length=sz)
  (hl:ToL (fun k=>lb cx.base out loc' k≠none) (fun _=>True) (some (cx.base+s,sz,es)) l l') (hb:BoxL (fun k=>lb cx.base out loc' k≠none) (fun _=>True) (some (cx.base+s,sz,es)) loc loc') :
  Weaks cx nt0 ⟨tl l,lb cx.base out loc,tok,nt⟩ ⟨tl l',lb cx.base out loc',tok,nt⟩:=by
 refine ⟨out,loc,loc',some (s,sz,es),rfl,rfl,Nat.le_refl _,hnt,fun t h=>⟨h,.inl rfl⟩,?_,?_,?_,?_⟩
 ·simp only [true_or,Option.map_some]; exact hl.all
 ·simp only [true_or,Option.map_some]; exact hb.all
 ·rintro s' sz' es' h;cases h;refine ⟨hs',rowsD es,hs,by simp,?_,?_⟩
  ·intro r hr;obtain ⟨e,he,rfl⟩:=List.mem_map.1 hr;simpa using hsz e he
  ·intro i h1 h2;have:(rowsD es)[i]=(es[i]).map AV.d:=by simp [rowsD]
   rw [this];exact toDs_map _
 ·intro k rows _ h;exact .inl (by rw [←ho]; exact h)
@[simp] theorem to_frz {p q:Nat→Prop} {k n sz:Nat} {es:List (List D)} (h:n=es.length):To p q (some (k,sz,es)) (.msl k 0 n sz) (.d (.sl sz es)):=by
 subst h;exact .frz rfl
theorem Fin.gen {cx:Cx} {nt0 nt nt':Nat} {rs:List ResultVar} {l:List (Nat × AV)} {out:Bxs} {loc:List (Nat × List (List AV))} {tok tok':Nat→Bool} {vs:List AV} {av:AV}
  (hres:resAs P ⟨tl l,lb cx.base out loc,tok,nt⟩ rs=some vs) (hbox:lb cx.base out []=out) (h0:nt0≤nt') (hnt:nt'≤nt) (htok:∀ t,tok' t=true→tok t=true∧(nt'=nt∨t<nt'))
  (ho:∀ k rows,k<cx.base→out k=some rows→cx.B0 k=some rows∨∀ r∈rows,∀ x∈r,OkIn (fun k=>lb cx.base out [] k≠none) (fun t=>nt'=nt∨t<nt') x)
  (hto:To (fun k=>lb cx.base out [] k≠none) (fun t=>nt'=nt∨t<nt') none (packA vs) av):Fin P cx nt0 rs (fun v' m'=>v'=av∧m'=⟨out,cx.base,tok',nt'⟩) ⟨tl l,lb cx.base out loc,tok,nt⟩ :=
 ⟨vs,out,loc,none,av,⟨out,cx.base,tok',nt'⟩,hres,⟨rfl,rfl,hnt,h0,htok,fun _=>.bot,fun s rows' h=>by simp [lk] at h,(fun _ _ _ h=>by cases h),
  ho⟩,hbox.symm,rfl,by simpa using hto,rfl,rfl⟩
theorem Fin.own {cx:Cx} {nt0 nt:Nat} {rs:List ResultVar} {l:List (Nat × AV)} {out:Bxs} {loc:List (Nat × List (List AV))} {tok:Nat→Bool} {vs:List AV} {av:AV}
  (hres:resAs P ⟨tl l,lb cx.base out loc,tok,nt⟩ rs=some vs) (hbox:lb cx.base out []=out) (ho:out=cx.B0) (hnt:nt0≤nt)
  (hto:To (fun k=>lb cx.base out [] k≠none) (fun _=>True) none (packA vs) av):Fin P cx nt0 rs (fun v' m'=>v'=av∧m'=⟨out,cx.base,tok,nt⟩) ⟨tl l,lb cx.base out loc,tok,nt⟩ :=
 Fin.gen hres hbox hnt (Nat.le_refl _) (fun t h=>⟨h,.inl rfl⟩) (fun k rows _ h=>.inl (by rw [←ho]; exact h)) (by simpa using hto)
theorem Ext.lb {box box':Bxs} {nb:Nat} (h:Ext box box') (hb:lb nb box' []=box') (loc:List (Nat × List (List AV))):Ext box (AM.lb nb box' loc):=fun k r hk=>by
 have h1:=h k r hk;rw [lb_out (key_lt hb h1)];exact h1
theorem OkIn.mono {p p' q q':Nat→Prop} (hp:∀ k,p k→p' k) (hq:∀ k,q k→q' k) {x:AV} (h:OkIn p q x):OkIn p' q' x:=by
 induction h with
 | bot=>exact .bot
 | d=>exact .d
 | osl h=>exact .osl fun t e=>hq _ (h t e)
 | cptr=>exact .cptr
 | ptr h=>exact .ptr (hp _ h)
 | here h=>exact .here (hp _ h)
 | buf h=>exact .buf (hq _ h)
 | msl h=>exact .msl (hp _ h)
 | fn h ih=>exact .fn ih
 | agg h ih=>exact .agg ih
 | tup h ih=>exact .tup ih
 | ex h=>exact .ex (hq _ h)
 | stk h=>exact .stk (hq _ h)
 | que h=>exact .que (hq _ h)
 | mp h hs=>exact .mp (hq _ h) fun e he t ht=>hq _ (hs e he t ht)
 | mpd=>exact .mpd
theorem okFn {box:Bxs} {nb:Nat} {caps:List AV} (h:∀ c∈caps,OkIn (fun k=>box k≠none) (fun _=>True) c) (hb:lb nb box []=box) (loc:List (Nat × List (List AV))) {p q:Nat→Prop}
  (hp:p=fun k=>lb nb box loc k≠none) (hq:q=fun _=>True) (f:Fn):OkIn p q (.fn f caps):=by
 subst hp; subst hq;refine .fn fun c hc=>(h c hc).mono (fun k hk=>?_) fun _ h=>h
 obtain ⟨r,hr⟩:=Option.ne_none_iff_exists'.1 hk;rw [lb_out (key_lt hb hr),hr];simp
theorem Fin.mono {cx:Cx} {nt0:Nat} {rs:List ResultVar} {Q Q':AV→AMem→Prop} {S:AState} (h:Fin P cx nt0 rs Q S) (hq:∀ v m,Q v m→Q' v m):Fin P cx nt0 rs Q' S:=by
 obtain ⟨vs,out,loc,fz,av,m',h1,h2,h3,h4,h5,h6⟩:=h;exact ⟨vs,out,loc,fz,av,m',h1,h2,h3,h4,h5,hq _ _ h6⟩
def Conv (v:AV) (m:AMem) (v':AV) (m':AMem):Prop:=m'.nb=m.nb∧m'.box=m.box∧∀ G w u,RelM G m w→RV G w v u→∃ G',RelM G' m' w∧RV G' w v' u∧Le G w G' w∧∀ k,G.bx k=none→G'.bx k=none
theorem Conv.refl (v:AV) (m:AMem):Conv v m v m:=⟨rfl,rfl,fun G w u h1 h2=>⟨G,h1,h2,Le.refl G w,fun _ h=>h⟩⟩
theorem Conv.newtok (sz sz':Nat) (box:Bxs) (nb:Nat) (tok:Tks) (nt:Nat):Conv (.osl sz [] .full) ⟨box,nb,tok,nt⟩ (.osl sz' [] (.tok nt)) ⟨box,nb,upd tok nt true,nt+1⟩:=by
 refine ⟨rfl,rfl,fun G w u hm hv=>⟨G.newtok none,hm.newtok none (fun g h=>by cases h),?_,Le.newtok none,fun k h=>h⟩⟩;have hnt:G.nt=nt:=hm.nt
 cases hv with
 | osl h ho =>
  cases h with
  | sl u hcap hmax hsz hA hc hr =>
   refine .osl (.sl (fun _ _=>default) hcap hmax (by simp) (by simp) (fun a _ i j hi _=>by simp at hi) (fun i j hi _=>by simp at hi)) ⟨by simp [Gh.newtok,hnt],fun x hx=>?_⟩;simp only [Gh.newtok,hnt,upd_same,Option.some.injEq] at hx;subst hx;exact ho.imp fun _ h=>h.1
theorem ACalls.conv {f:FuncId} {args:List AV} {m:AMem} {Q Q':AV→AMem→Prop} (h:ACalls P f args m Q) (hq:∀ v m1,Q v m1→∃ v' m',Conv v m1 v' m'∧Q' v' m'):ACalls P f args m Q' :=
 ⟨h.1,fun G w vals hm hr=>(h.2 G w vals hm hr).mono fun e w' ⟨v,av,m1,G1,h1,h2,h3,h4,h5,h6,h7⟩=>by
  obtain ⟨v',m',⟨c1,c2,c3⟩,hq'⟩:=hq _ _ h2;obtain ⟨G2,k1,k2,k3,k4⟩:=c3 G1 w' v h4 h5;exact ⟨v,v',m',G2,h1,hq',c1.trans h3,k1,k2,h6.trans k3,fun k hk=>⟨k4 k (h7 k hk).1,by rw [c2]; exact (h7 k hk).2⟩⟩⟩
theorem TK.perm {mtok:Nat→Bool} {nt0:Nat} {tok:Nat→Bool} {nt:Nat} {os os':List Own} (h:TK mtok nt0 tok nt os) (hp:os.Perm os'):TK mtok nt0 tok nt os' :=
 ⟨h.old,h.lt,h.le,fun o ho=>h.own o (hp.mem_iff.2 ho),(List.Perm.pairwise_iff (fun {a b} hab t e e'=>hab t e' e) hp).1 h.ne⟩
theorem TK.pick3 {mtok:Nat→Bool} {nt0:Nat} {tok:Nat→Bool} {nt:Nat} {a b c:Own} {os:List Own} (h:TK mtok nt0 tok nt (a::b::c::os)):TK mtok nt0 tok nt (c::a::b::os) :=
 h.perm (((List.Perm.swap c b os).cons a).trans (List.Perm.swap c a (b::os)))
theorem TK.put3 {mtok:Nat→Bool} {nt0:Nat} {tok:Nat→Bool} {nt:Nat} {a b c:Own} {os:List Own} (h:TK mtok nt0 tok nt (c::a::b::os)):TK mtok nt0 tok nt (a::b::c::os) :=
 h.perm (((List.Perm.swap c b os).cons a).trans (List.Perm.swap c a (b::os))).symm
attribute [simp] intsOf convF
theorem clone_c (xs:List Int) (hx:xs.length≤1000000) (tok:Tks) (nt:Nat):DCall Tryz.prog 126 [.d (ints xs)] tok nt (.osl 1 (rI xs) (.tok nt)) (upd tok nt true) (nt+1):=by
 intro box nb;have main:ACalls Tryz.prog 126 [.d (ints xs)] ⟨box,nb,tok,nt⟩ fun v m=>(v=.osl 1 (rI xs) (.tok nt)∧m=⟨box,nb,upd tok nt true,nt+1⟩)∨(xs=[]∧v=.osl 0 [] .full∧m=⟨box,nb,tok,nt⟩):=by
  refine sI Tryz.func126 Tryz.ntmps126 fun hbox htok=>?_
  refine sR ?_;simp;refine sR ?_;simp;refine ⟨?_,fun h=>?_⟩
  ·refine sC ?_;simp;refine sR ?_;simp;refine ⟨by omega,?_⟩;refine sN ?_;refine AL.ret ?_;try simp only [AU]
   refine ⟨by simp,(Fin.own (by simp [resAs,resA]; rfl) hbox rfl (by simp) ?_).mono fun v m hq=>.inl hq⟩;simp [packA]
  ·refine sC ?_;simp;refine sR ?_;simp;refine sN ?_;refine AL.ret ?_;try simp only [AU]
   refine ⟨by simp,(Fin.own (by simp [resAs,resA]; rfl) hbox rfl (Nat.le_refl _) ?_).mono fun v m hq=>.inr ⟨h,hq.1,hq.2⟩⟩;simp [packA]
 refine main.conv fun v m h=>?_
 rcases h with ⟨rfl,rfl⟩|⟨rfl,rfl,rfl⟩
 ·exact ⟨_,_,Conv.refl _ _,rfl,rfl⟩
 ·exact ⟨_,_,Conv.newtok 0 1 box nb tok nt,rfl,rfl⟩
def indexI (xs:List Int) (v:Int):Int:=if v∈xs then (xs.idxOf v:Int) else -1
def st66 (xs:List Int) (v:Int) (nb:Nat) (box:Bxs) (tok:Tks) (nt:Nat) (i:Nat):AState:=⟨tl [(0,.d (ints xs)),(1,I v),(7,I xs.length),(8,I i)],lb nb box [],tok,nt⟩
theorem index_c (xs:List Int) (v:Int) (hx:xs.length≤1000000) (tok:Tks) (nt:Nat):DCall Tryz.prog 222 [.d (ints xs),I v] tok nt (I (indexI xs v)) tok nt:=by
 intro box nb;refine sI Tryz.func222 Tryz.ntmps222 fun hbox htok=>?_
 refine sR ?_;simp;refine sR ?_;simp;refine sN ?_;refine AL.loopT (st66 xs v nb box tok nt) (fun i=>i≤xs.length∧v∉xs.take i) (fun i=>xs.length - i) 0 ⟨Nat.zero_le _,by simp⟩ (Weaks.mk (Nat.le_refl _) rfl (by simp [ToL]) trivial) ?_;rintro i S ⟨hi,htk⟩ hS;simp only [st66] at hS;subst hS;have hw:=sW (i:=i) (by omega);refine sR ?_;simp;refine sC ?_;simp;refine ⟨fun hlt=>?_,fun hge=>?_⟩
 ·have hsp:xs=xs.take i++xs[i]::xs.drop (i+1):=by simp
  refine sR ?_;simp;refine sR ?_;simp [hlt];refine sC ?_;simp;refine ⟨fun he=>?_,fun hne=>?_⟩
  ·refine sR ?_;simp;have hmem:v∈xs:=by rw [he]; exact List.getElem_mem _
   have hid:xs.idxOf v=i:=by
    unfold List.idxOf;rw [List.findIdx_eq hlt];refine ⟨by simp [he],fun j hj=>?_⟩;have:xs[j]≠v:=fun e=>htk (by rw [←e,List.mem_take_iff_getElem]; exact ⟨j,by omega,rfl⟩)
    simpa using this
   refine sT (sH hbox htok ?_);simp [packA,indexI,hmem,hid]
  ·refine sR ?_;simp [hw];refine sE ?_;refine ⟨i+1,⟨hlt,?_⟩,by omega,Weaks.mk (Nat.le_refl _) rfl (by simp [ToL]) trivial⟩;rw [List.take_succ_eq_append_getElem hlt];simp only [List.mem_append,List.mem_singleton,not_or];exact ⟨htk,hne⟩
 ·refine sX ?_;simp only [AU, ↓reduceIte];refine sR ?_;simp;have hn:v∉xs:=by rwa [List.take_of_length_le hge] at htk
  refine sT (sH hbox htok ?_);simp [packA,indexI,hn]
theorem indexI_nonneg (xs:List Int) (v:Int):(0≤indexI xs v)↔v∈xs:=by
 unfold indexI;split <;> simp [*]
theorem contains_c (xs:List Int) (v:Int) (hx:xs.length≤1000000) (tok:Tks) (nt:Nat):DCall Tryz.prog 143 [.d (ints xs),I v] tok nt (B (decide (v∈xs))) tok nt:=by
 intro box nb;refine sI Tryz.func143 Tryz.ntmps143 fun hbox htok=>?_
 refine sR ?_;simp;refine sR ?_;simp;refine Stop.of_d (index_c xs v hx _ _) ?_;simp;refine sT (sH hbox htok ?_);simp [packA,indexI_nonneg]
def findI {α:Type} (p:α→Bool) (xs:List α):Int:=if xs.any p then (xs.findIdx p:Int) else -1
def anyB {α:Type} (p:α→Bool) (xs:List α):Bool:=xs.any p
theorem findI_nonneg {α:Type} (p:α→Bool) (xs:List α):(0≤findI p xs)↔xs.any p=true:=by
 unfold findI;split <;> simp [*]
theorem any_take {α:Type} {p:α→Bool} {xs:List α} {i:Nat} (h:i<xs.length) (h1:∀ x∈xs.take i,p x=false) (h2:p xs[i]=true):xs.any p=true∧xs.findIdx p=i:=by
 have hany:xs.any p=true:=List.any_eq_true.2 ⟨_,List.getElem_mem h,h2⟩
 refine ⟨hany,?_⟩;rw [List.findIdx_eq h];refine ⟨h2,fun j hj=>?_⟩;have:=h1 xs[j] (by
  rw [List.mem_take_iff_getElem];exact ⟨j,by omega,rfl⟩)
 simpa using this
def st96 (xs:List Int) (f:FuncId) (caps:List AV) (nb:Nat) (box:Bxs) (tok:Tks) (nt:Nat) (i:Nat):AState:=⟨tl [(0,.d (ints xs)),(1,.fn (.func f) caps),(7,I xs.length),(8,I i)],lb nb box [],tok,nt⟩
theorem indexFunc_c (xs:List Int) (f:FuncId) (caps:List AV) (p:Int→Bool) (hx:xs.length≤1000000) (box:Bxs) (nb:Nat) (tok:Tks) (nt:Nat) (hc:∀ c∈caps,OkIn (fun k=>box k≠none) (fun _=>True) c)
  (hf:∀ x∈xs,∀ box' nb',Ext box box'→ACalls Tryz.prog f (I x::caps) ⟨box',nb',tok,nt⟩ fun v m=>v=B (p x)∧m=⟨box',nb',tok,nt⟩) :
  ACalls Tryz.prog 163 [.d (ints xs),.fn (.func f) caps] ⟨box,nb,tok,nt⟩ fun v m=>v=I (findI p xs)∧m=⟨box,nb,tok,nt⟩:=by
 refine sI Tryz.func163 Tryz.ntmps163 fun hbox htok=>?_
 refine sR ?_;simp;refine sR ?_;simp;refine sN ?_;refine AL.loopT (st96 xs f caps nb box tok nt) (fun i=>i≤xs.length∧∀ x∈xs.take i,p x=false) (fun i=>xs.length - i) 0 ⟨Nat.zero_le _,by simp⟩ (Weaks.mk (Nat.le_refl _) rfl (by simp [ToL]; exact .same (okFn hc hbox [] (by simp) rfl _)) trivial) ?_;rintro i S ⟨hi,htk⟩ hS;simp only [st96] at hS;subst hS;have hw:=sW (i:=i) (by omega);refine sR ?_;simp;refine sC ?_;simp;refine ⟨fun hlt=>?_,fun hge=>?_⟩
 ·refine sR ?_;simp;refine sR ?_;simp [hlt];refine Stop.of_b (hf xs[i] (List.getElem_mem _) _ _ ((Ext.refl box).lb hbox [])) ?_;simp;refine sC ?_;simp;refine ⟨fun he=>?_,fun hne=>?_⟩
  ·refine sR ?_;simp;obtain ⟨h1,h2⟩:=any_take hlt htk he;refine sT (sH hbox htok ?_);simp [packA,findI,h1,h2]
  ·refine sR ?_;simp [hw];refine sE ?_;refine ⟨i+1,⟨hlt,?_⟩,by omega,Weaks.mk (Nat.le_refl _) rfl (by simp [ToL]; exact .same (okFn hc hbox [] (by simp) rfl _)) trivial⟩;rw [List.take_succ_eq_append_getElem hlt];intro x hx;rcases List.mem_append.1 hx with hx|hx
   ·exact htk x hx
   ·simp at hx; rw [hx]; exact hne
 ·refine sX ?_;simp only [AU, ↓reduceIte];refine sR ?_;simp;have hn:xs.any p=false:=by
   rw [List.take_of_length_le hge] at htk;simpa using htk
  refine sT (sH hbox htok ?_);simp [packA,findI,hn]
theorem containsFunc_c (xs:List Int) (f:FuncId) (caps:List AV) (p:Int→Bool) (hx:xs.length≤1000000) (box:Bxs) (nb:Nat) (tok:Tks) (nt:Nat) (hc:∀ c∈caps,OkIn (fun k=>box k≠none) (fun _=>True) c)
  (hf:∀ x∈xs,∀ box' nb',Ext box box'→ACalls Tryz.prog f (I x::caps) ⟨box',nb',tok,nt⟩ fun v m=>v=B (p x)∧m=⟨box',nb',tok,nt⟩) :
  ACalls Tryz.prog 96 [.d (ints xs),.fn (.func f) caps] ⟨box,nb,tok,nt⟩ fun v m=>v=B (anyB p xs)∧m=⟨box,nb,tok,nt⟩:=by
 refine sI Tryz.func96 Tryz.ntmps96 fun hbox htok=>?_
 refine sR ?_;simp;refine sR ?_;simp;refine Stop.of_b (indexFunc_c xs f caps p hx (lb nb box []) _ _ _ (fun c h=>(hc c h).mono (fun k hk=>by rw [hbox]; exact hk) fun _ h=>h) (fun x hx' box' nb' he=>hf x hx' box' nb' (by rw [hbox] at he; exact he))) ?_;simp;have hany:decide (∃ x,x∈xs∧p x=true)=anyB p xs:=by rw [Bool.eq_iff_iff]; simp [anyB]
 refine sT (sH hbox htok ?_);simp [packA,findI_nonneg,hany]
def st97 (xs:List E) (f:FuncId) (caps:List AV) (nb:Nat) (box:Bxs) (tok:Tks) (nt:Nat) (i:Nat):AState:=⟨tl [(0,.d (AM.edges xs)),(1,.fn (.func f) caps),(7,I xs.length),(8,I i)],lb nb box [],tok,nt⟩
theorem indexFuncE_c (xs:List E) (f:FuncId) (caps:List AV) (p:E→Bool) (hx:xs.length≤1000000) (box:Bxs) (nb:Nat) (tok:Tks) (nt:Nat) (hc:∀ c∈caps,OkIn (fun k=>box k≠none) (fun _=>True) c)
  (hf:∀ x∈xs,∀ box' nb',Ext box box'→ACalls Tryz.prog f (.agg [I x.ty,I x.fr,I x.to]::caps) ⟨box',nb',tok,nt⟩ fun v m=>v=B (p x)∧m=⟨box',nb',tok,nt⟩) :
  ACalls Tryz.prog 218 [.d (AM.edges xs),.fn (.func f) caps] ⟨box,nb,tok,nt⟩ fun v m=>v=I (findI p xs)∧m=⟨box,nb,tok,nt⟩:=by
 refine sI Tryz.func218 Tryz.ntmps218 fun hbox htok=>?_
 refine sR ?_;simp;refine sR ?_;simp;refine sN ?_;refine AL.loopT (st97 xs f caps nb box tok nt) (fun i=>i≤xs.length∧∀ x∈xs.take i,p x=false) (fun i=>xs.length - i) 0 ⟨Nat.zero_le _,by simp⟩ (Weaks.mk (Nat.le_refl _) rfl (by simp [ToL]; exact .same (okFn hc hbox [] (by simp) rfl _)) trivial) ?_;rintro i S ⟨hi,htk⟩ hS;simp only [st97] at hS;subst hS;have hw:=sW (i:=i) (by omega);refine sR ?_;simp;refine sC ?_;simp;refine ⟨fun hlt=>?_,fun hge=>?_⟩
 ·refine sR ?_;simp;refine sR ?_;simp [hlt];refine Stop.of_b (hf xs[i] (List.getElem_mem _) _ _ ((Ext.refl box).lb hbox [])) ?_;simp;refine sC ?_;simp;refine ⟨fun he=>?_,fun hne=>?_⟩
  ·refine sR ?_;simp;obtain ⟨h1,h2⟩:=any_take hlt htk he;refine sT (sH hbox htok ?_);simp [packA,findI,h1,h2]
  ·refine sR ?_;simp [hw];refine sE ?_;refine ⟨i+1,⟨hlt,?_⟩,by omega,Weaks.mk (Nat.le_refl _) rfl (by simp [ToL]; exact .same (okFn hc hbox [] (by simp) rfl _)) trivial⟩;rw [List.take_succ_eq_append_getElem hlt];intro x hx;rcases List.mem_append.1 hx with hx|hx
   ·exact htk x hx
   ·simp at hx; rw [hx]; exact hne
 ·refine sX ?_;simp only [AU, ↓reduceIte];refine sR ?_;simp;have hn:xs.any p=false:=by
   rw [List.take_of_length_le hge] at htk;simpa using htk
  refine sT (sH hbox htok ?_);simp [packA,findI,hn]
theorem containsFuncE_c (xs:List E) (f:FuncId) (caps:List AV) (p:E→Bool) (hx:xs.length≤1000000) (box:Bxs) (nb:Nat) (tok:Tks) (nt:Nat) (hc:∀ c∈caps,OkIn (fun k=>box k≠none) (fun _=>True) c)
  (hf:∀ x∈xs,∀ box' nb',Ext box box'→ACalls Tryz.prog f (.agg [I x.ty,I x.fr,I x.to]::caps) ⟨box',nb',tok,nt⟩ fun v m=>v=B (p x)∧m=⟨box',nb',tok,nt⟩) :
  ACalls Tryz.prog 135 [.d (AM.edges xs),.fn (.func f) caps] ⟨box,nb,tok,nt⟩ fun v m=>v=B (anyB p xs)∧m=⟨box,nb,tok,nt⟩:=by
 refine sI Tryz.func135 Tryz.ntmps135 fun hbox htok=>?_
 refine sR ?_;simp;refine sR ?_;simp;refine Stop.of_b (indexFuncE_c xs f caps p hx (lb nb box []) _ _ _ (fun c h=>(hc c h).mono (fun k hk=>by rw [hbox]; exact hk) fun _ h=>h) (fun x hx' box' nb' he=>hf x hx' box' nb' (by rw [hbox] at he; exact he))) ?_;simp;have hany:decide (∃ x,x∈xs∧p x=true)=anyB p xs:=by rw [Bool.eq_iff_iff]; simp [anyB]
 refine sT (sH hbox htok ?_);simp [packA,findI_nonneg,hany]
def validG (g:Gr):Int:=if 40<g.nodes.length∨80<g.edges.length then 3 else if anyB (fun n=>!withinB n 99) g.nodes then 6 else if anyB (fun e=>!fitsB e g.nodes.length) g.edges then 6 else 0
structure Gr.Fit (g:Gr):Prop where
 n:g.nodes.length≤1000000
 e:g.edges.length≤1000000
theorem graphValid_c (g:Gr) (hg:g.Fit) (tok:Tks) (nt:Nat):DCall Tryz.prog 122 [g.av] tok nt (I (validG g)) tok nt:=by
 intro box nb;have hn:=hg.n;have he:=hg.e;refine sI Tryz.func122 Tryz.ntmps122 fun hbox htok=>?_
 refine sR ?_;simp;refine sR ?_;simp;first|refine Gd.dt (fun h1=>?_) (fun h1=>?_)|refine Gd.df (fun h1=>?_) (fun h1=>?_)|refine Gd.t (fun h1=>?_) (fun h1=>?_)|refine Gd.f (fun h1=>?_) (fun h1=>?_)
 ·simp [h1];refine sC ?_;simp;refine sR ?_;simp;refine sT (sH hbox htok ?_);simp [packA,validG,show 40<g.nodes.length by omega]
 ·simp [h1];refine sC ?_;simp;refine ⟨fun h2=>?_,fun h2=>?_⟩
  ·refine sR ?_;simp;refine sT (sH hbox htok ?_);simp [packA,validG,show 80<g.edges.length by omega]
  ·have hn1:¬ 40<g.nodes.length:=by omega
   have hn2:¬ 80<g.edges.length:=by omega
   refine sR ?_;simp;refine Stop.of_b (containsFunc_c g.nodes 201 [] (fun n=>!withinB n 99) hn _ _ _ _ (by simp) (fun x _ box' nb' _=>valid1_c x _ _ box' nb')) ?_;simp;refine sC ?_;simp;refine ⟨fun h3=>?_,fun h3=>?_⟩
   ·refine sR ?_;simp;refine sT (sH hbox htok ?_);simp [packA,validG,hn1,hn2,h3]
   ·refine sR ?_;simp;refine Stop.of_b (containsFuncE_c g.edges 203 [.ptr (nb+1) 0 0] (fun e=>!fitsB e g.nodes.length) he _ _ _ _ (by simp [lb_at,lk]) (fun x _ box' nb' hx=>valid2_c x g hn _ _ box' nb' (nb+1) (hx _ _ (by simp [lb_at,lk])))) ?_;simp;refine sC ?_;simp;refine ⟨fun h4=>?_,fun h4=>?_⟩
    ·refine sR ?_;simp;refine sT (sH hbox htok ?_);simp [packA,validG,hn1,hn2,h3,h4]
    ·refine sR ?_;simp;refine sT (sH hbox htok ?_);simp [packA,validG,hn1,hn2,h3,h4]
structure Mo.Fit (m:Mo):Prop where
 n:m.nodes.length≤1000000
 e:m.edges.length≤1000000
def iota (n:Nat):List Int:=(List.range n).map fun (i:Nat)=>(i:Int)
@[simp] theorem iota_length (n:Nat):(iota n).length=n:=by simp [iota]
@[simp] theorem iota_zero:iota 0=[]:=rfl
structure Acc where
 i:Nat
 own:Own
 tok:Nat→Bool
 nt:Nat
def upto (n i:Nat):List Int:=iota i++List.replicate (n - i) 0
@[simp] theorem upto_length {n i:Nat} (h:i≤n):(upto n i).length=n:=by simp [upto]; omega
@[simp] theorem upto_zero (n:Nat):upto n 0=List.replicate n 0:=by simp [upto]
@[simp] theorem upto_all (n:Nat):upto n n=iota n:=by simp [upto]
variable {P:Program}
def AV.asD1:AV→AV
 | .osl sz es _=>.d (.sl sz es)
 | x=>x
def AV.asD:AV→AV
 | .osl sz es _=>.d (.sl sz es)
 | .agg cs=>.agg (cs.map AV.asD1)
 | x=>x
theorem RV.asD1 {G:Gh} {w:World} {x:AV} {v:Value} (h:RV G w x v):RV G w x.asD1 v:=by
 cases h with
 | osl h1 h2=>exact .d h1
 | bot=>exact .bot
 | d h1=>exact .d h1
 | ptr h1=>exact .ptr h1
 | here h1 h2=>exact .here h1 h2
 | buf h1 h2 h3 h4=>exact .buf h1 h2 h3 h4
 | cptr a u hc hr=>exact .cptr a u hc hr
 | msl h1 h2 h3=>exact .msl h1 h2 h3
 | fn hl h=>exact .fn hl h
 | agg hl h h1=>exact .agg hl h h1
 | tup hl h=>exact .tup hl h
 | ex h=>exact .ex h
 | stk h=>exact .stk h
 | que h1 h2=>exact .que h1 h2
 | mp h=>exact .mp h
 | mpd h=>exact .mpd h
theorem RV.asD {G:Gh} {w:World} {x:AV} {v:Value} (h:RV G w x v):RV G w x.asD v:=by
 cases h with
 | osl h1 h2=>exact .d h1
 | bot=>exact .bot
 | d h1=>exact .d h1
 | ptr h1=>exact .ptr h1
 | here h1 h2=>exact .here h1 h2
 | buf h1 h2 h3 h4=>exact .buf h1 h2 h3 h4
 | cptr a u hc hr=>exact .cptr a u hc hr
 | msl h1 h2 h3=>exact .msl h1 h2 h3
 | fn hl h=>exact .fn hl h
 | agg hl h h1=>exact .agg (by simp [hl]) (fun i g1 g2=>by simp only [List.getElem_map]; exact (h i (by simpa using g1) g2).asD1) h1
 | tup hl h=>exact .tup hl h
 | ex h=>exact .ex h
 | stk h=>exact .stk h
 | que h1 h2=>exact .que h1 h2
 | mp h=>exact .mp h
 | mpd h=>exact .mpd h
theorem RVs.asD {G:Gh} {w:World} {xs:List AV} {vs:List Value} (h:RVs G w xs vs):RVs G w (xs.map AV.asD) vs :=
 ⟨by simp [h.1],fun i g1 g2=>by simp only [List.getElem_map]; exact (h.2 i (by simpa using g1) g2).asD⟩
theorem ACalls.asD {f:FuncId} {args:List AV} {m:AMem} {Q:AV→AMem→Prop} (h:ACalls P f (args.map AV.asD) m Q):ACalls P f args m Q :=
 ⟨h.1,fun G w vals hm hr=>h.2 G w vals hm hr.asD⟩
theorem Stop.data {cx:Cx} {dr:Bool} {fid:FuncId} {args:List AV} {S:AState} {dst:Option Tmp} {K:AState→Prop} (h:Stop P cx dr fid (args.map AV.asD) S dst K):Stop P cx dr fid args S dst K:=by
 cases dr with
 | true =>
  obtain ⟨v,tok',nt',h1,h2⟩:=h;exact ⟨v,tok',nt',fun box nb he=>(h1 box nb he).asD,h2⟩
 | false=>exact ACalls.asD h
def Sub (x y:AV):Prop:=∀ G w v,RV G w x v→RV G w y v
theorem Sub.refl (x:AV):Sub x x:=fun _ _ _ h=>h
theorem Sub.data (sz:Nat) (es:List (List D)) (o:Own):Sub (.osl sz es o) (.d (.sl sz es)):=fun _ _ _ h=>h.asD
abbrev nilV:Value:=.slice none 0 0
theorem Sub.nilv:Sub (.osl 0 [] .full) (.d (.raw nilV)):=fun G w v h=>by
 cases h with
 | osl h ho =>
  obtain ⟨A,rfl,hA⟩:=ho;rw [hA rfl];exact .d (.raw rfl)
theorem Sub.nil (sz sz':Nat) (o:Own):Sub (.osl sz [] o) (.d (.sl sz' [])):=fun G w v h=>by
 cases h with
 | osl h ho =>
  cases h with
  | sl u hcap hmax hsz hA hc hr=>exact .d (.sl (es:=[]) (fun _ _=>default) hcap hmax (by simp) (by simp) (fun a _ i j hi _=>by simp at hi) (fun i j hi _=>by simp at hi))
def SubL:List AV→List AV→Prop
 | [],[]=>True
 | x::xs,y::ys=>Sub x y∧SubL xs ys
 | _,_=>False
theorem SubL.rvs {G:Gh} {w:World}:∀ {xs ys:List AV} {vs:List Value},SubL xs ys→RVs G w xs vs→RVs G w ys vs
 | [],[],vs,_,h=>h
 | x::xs,y::ys,[],_,h=>by have:=h.1; simp at this
 | x::xs,y::ys,v::vs,hs,h=>RVs.cons (hs.1 _ _ _ (h.2 0 (by simp) (by simp))) (hs.2.rvs ⟨by simpa using h.1,fun i h1 h2=>h.2 (i+1) (by simpa using h1) (by simpa using h2)⟩)
theorem ACalls.sub {f:FuncId} {args args':List AV} {m:AMem} {Q:AV→AMem→Prop} (hs:SubL args args') (h:ACalls P f args' m Q):ACalls P f args m Q :=
 ⟨h.1,fun G w vals hm hr=>h.2 G w vals hm (hs.rvs hr)⟩
theorem Stop.sub {cx:Cx} {dr:Bool} {fid:FuncId} {args args':List AV} {S:AState} {dst:Option Tmp} {K:AState→Prop} (hs:SubL args args') (h:Stop P cx dr fid args' S dst K):Stop P cx dr fid args S dst K:=by
 cases dr with
 | true =>
  obtain ⟨v,tok',nt',h1,h2⟩:=h;exact ⟨v,tok',nt',fun box nb he=>(h1 box nb he).sub hs,h2⟩
 | false=>exact ACalls.sub hs h
theorem Stop.of_a {cx:Cx} {fid:FuncId} {args:List AV} {S:AState} {dst:Option Tmp} {K:AState→Prop} {Q:AV→AMem→Prop} (h:ACalls P fid args ⟨S.box,cx.nb,S.tok,S.nt⟩ Q)
  (hk:∀ v m',Q v m'→K ⟨putT S.tmps dst v,m'.box,m'.tok,m'.nt⟩):Stop P cx false fid args S dst K:=h.mono hk
theorem rI_snoc (es:List Int) (v:Int):rI es++[[D.raw (.int .i64 v)]]=rI (es++[v]):=by simp [rI]
theorem upd_upd {α:Type} (f:Nat→α) (k:Nat) (x y:α):upd (upd f k x) k y=upd f k y:=by
 funext j
 simp only [upd];split <;> rfl
theorem beqD (x y:Int):(x==y)=decide (x=y):=by by_cases h:x=y <;> simp [h]
theorem Conv.sub {v v':AV} {m:AMem} (h:Sub v v'):Conv v m v' m:=⟨rfl,rfl,fun G w u h1 h2=>⟨G,h1,h _ _ _ h2,Le.refl G w,fun _ h=>h⟩⟩
theorem Sub.tup {xs ys:List AV} (h:SubL xs ys):Sub (.tup xs) (.tup ys):=fun G w v r=>by
 cases r with
 | tup hl hh=>have:=h.rvs ⟨hl,hh⟩; exact .tup this.1 this.2
theorem validG_edges {g:Gr} (h:validG g=0):∀ e∈g.edges,0≤e.fr∧e.fr<g.nodes.length∧0≤e.to∧e.to<g.nodes.length:=by
 intro e he;unfold validG at h;split at h
 ·cases h
 ·split at h
  ·cases h
  ·split at h
   ·cases h
   ·rename_i h3;have:=List.any_eq_false.1 (Bool.not_eq_true _ ▸ h3) e he
    simp [fitsB,withinB] at this;omega
def PartL (l:List Int):Prop:=∀ i (h:i<l.length),0≤l[i]∧l[i]≤i∧l.getD l[i].toNat 0=l[i]
def st105 (l:List Int) (nb:Nat) (box:Bxs) (tok:Tks) (nt:Nat) (i:Nat):AState:=⟨tl [(0,.d (ints l)),(5,.d (ints l)),(6,I l.length),(7,I i)],lb nb box [],tok,nt⟩
theorem right105_c (l:List Int) (hl:l.length≤1000000) (hp:PartL l) (tok:Tks) (nt:Nat):DCall Tryz.prog 278 [.d (ints l)] tok nt (B true) tok nt:=by
 intro box nb;refine sI Tryz.func278 Tryz.ntmps278 fun hbox htok=>?_
 refine sR ?_;simp;refine sR ?_;simp;refine sN ?_;refine AL.loopT (st105 l nb box tok nt) (fun i=>i≤l.length) (fun i=>l.length - i) 0 (Nat.zero_le _) (Weaks.mk (Nat.le_refl _) rfl (by simp [ToL]) trivial) ?_;rintro i S hi hS;simp only [st105] at hS;subst hS;have hw:=sW (i:=i) (by omega);refine sR ?_;simp;refine sC ?_;simp;refine ⟨fun hlt=>?_,fun hge=>?_⟩
 ·obtain ⟨h1,h2,h3⟩:=hp i hlt;have h4:l[i].toNat<l.length:=by omega
  have h5:l[l[i].toNat]=l[i]:=by simpa [h4] using h3
  have k1:¬ l[i]<0:=by omega
  have k2:¬ (i:Int)<l[i]:=by omega
  refine sR ?_;simp [hlt];refine sR ?_;simp [k1,k2,h1,h4,h5];refine ⟨by omega,?_⟩;refine sC ?_;simp;refine sR ?_;simp [hw];refine sE ?_;refine ⟨i+1,hlt,by omega,Weaks.mk (Nat.le_refl _) rfl (by simp [ToL]) trivial⟩
 ·refine sX ?_;simp only [AU, ↓reduceIte];refine sR ?_;simp;refine sT (sH hbox htok ?_);simp [packA]
theorem one98_c (l:List Int) (hl:l.length≤80) (hp:PartL l) (tok:Tks) (nt:Nat):DCall Tryz.prog 237 [.d (ints l)] tok nt (I 0) tok nt:=by
 intro box nb;refine sI Tryz.func237 Tryz.ntmps237 fun hbox htok=>?_
 refine sR ?_;simp;refine sR ?_;simp;have h80:¬ 80<(l.length:Int):=by omega
 refine sC ?_;simp [h80];refine sR ?_;simp;refine Stop.of_d (right105_c l (by omega) hp _ _) ?_;simp;refine sC ?_;simp;refine sR ?_;simp;refine sT (sH hbox htok ?_);simp [packA]
def numN (l:List Int):Nat→List Int × Int
 | 0=>([],0)
 | i+1=>if l.getD i 0=i then ((numN l i).1++[(numN l i).2],(numN l i).2+1) else ((numN l i).1++[(numN l i).1.getD (l.getD i 0).toNat 0],(numN l i).2)
theorem numN_len (l:List Int):∀ i,(numN l i).1.length=i∧0≤(numN l i).2∧(numN l i).2≤i
 | 0=>by simp [numN]
 | i+1=>by
  have:=numN_len l i
  simp only [numN];split <;> simp <;> omega
def st86 (l:List Int) (nb:Nat) (box:Bxs) (x:Acc):AState :=
 ⟨tl [(6,.osl 1 (rI (numN l x.i).1) x.own),(7,I (numN l x.i).2),(15,.d (ints l)),(16,I l.length),(17,I x.i)],lb nb box [],x.tok,x.nt⟩
theorem quotient86_c (l:List Int) (hl:l.length≤80) (hp:PartL l) (tok:Tks) (nt:Nat):DCall Tryz.prog 175 [.d (ints l)] tok nt (.tup [.d (ints (numN l l.length).1),I (numN l l.length).2,I 0]) tok nt:=by
 intro box nb;refine sI Tryz.func175 Tryz.ntmps175 fun hbox htok=>?_
 refine sR ?_;simp;refine sR ?_;simp;refine Stop.of_d (one98_c l hl hp _ _) ?_;simp;refine sR ?_;simp;refine sC ?_;simp;refine sR ?_;simp;refine sR ?_;simp;refine sR ?_;simp;refine sN ?_;refine AL.loopT (st86 l nb box) (fun x=>x.i≤l.length∧TK tok nt x.tok x.nt [x.own]) (fun x=>l.length - x.i) ⟨0,.full,tok,nt⟩ ⟨Nat.zero_le _,(TK.start htok).full⟩ (Weaks.mk (Nat.le_refl _) rfl (by simp [ToL,numN]) trivial) ?_;rintro ⟨i,own,tok',nt'⟩ S ⟨hi,htk⟩ hS;simp only [st86] at hS hi htk;subst hS;have hw:=sW (i:=i) (by omega);obtain ⟨hn1,hn2,hn3⟩:=numN_len l i;refine sR ?_;simp;refine sC ?_;simp;refine ⟨fun hlt=>?_,fun hge=>?_⟩
 ·obtain ⟨h1,h2,h3⟩:=hp i hlt;have hwn:IntKind.i64.wrap ((numN l i).2+1)=(numN l i).2+1:=wrap_in (by omega) (by omega)
  refine sR ?_;simp [hlt];refine sR ?_;simp;refine sC ?_;simp;refine ⟨fun he=>?_,fun hne=>?_⟩
  ·refine sR ?_;simp;refine ⟨⟨by omega,htk.live⟩,?_⟩;refine sR ?_;simp [hwn];refine sR ?_;simp [hw];refine sE ?_;refine ⟨⟨i+1,_,_,_⟩,⟨hlt,htk.app⟩,by simp; omega,Weaks.mk htk.app.le rfl (by simp [ToL,numN,hlt,he]) trivial⟩
  ·have h4:l[i].toNat<(numN l i).1.length:=by omega
   have h5:l[i]<((numN l i).1.length:Int):=by omega
   refine sR ?_;simp [h1,h4,h5];refine ⟨⟨by omega,htk.live⟩,?_⟩;refine sR ?_;simp [hw];refine sE ?_;refine ⟨⟨i+1,_,_,_⟩,⟨hlt,htk.app⟩,by simp; omega,Weaks.mk htk.app.le rfl (by simp [ToL,numN,hlt,hne,h4]) trivial⟩
 ·refine sX ?_;simp only [AU, ↓reduceIte];have:i=l.length:=by omega
  subst this;refine sR ?_;simp;refine sT (sG hbox htok htk.old htk.le ?_);simp [packA, ]
abbrev rL (L:List (List Int)):List (List D):=L.map fun l=>[ints l]
abbrev lists (L:List (List Int)):D:=.sl 1 (rL L)
def nextsK (l:List Int) (k:Nat):List (List Int):=((List.range k).filter fun x=>decide (x=l.length)||decide (l.getD x 0=x)).map fun (x:Nat)=>l++[(x:Int)]
def partsN:Nat→List (List Int)
 | 0=>[[]]
 | n+1=>(partsN n).flatMap fun l=>nextsK l (n+1)
theorem nextsK_succ (l:List Int) (k:Nat):nextsK l (k+1)=nextsK l k++(if k=l.length∨l.getD k 0=k then [l++[(k:Int)]] else []):=by
 unfold nextsK;rw [List.range_succ,List.filter_append,List.map_append];congr 1
 by_cases h:k=l.length∨l.getD k 0=k <;> simp [h] <;> simp at h <;> simp [h]
theorem partsN_len:∀ n,∀ l∈partsN n,l.length=n
 | 0=>by simp [partsN]
 | n+1=>by
  intro l hl;simp only [partsN,List.mem_flatMap] at hl;obtain ⟨p,hp,hl⟩:=hl;have:=partsN_len n p hp
  simp only [nextsK,List.mem_map] at hl;obtain ⟨x,_,rfl⟩:=hl;simp [this]
theorem partsN_partL:∀ n,∀ l∈partsN n,PartL l
 | 0=>by intro l hl; simp [partsN] at hl; subst hl; intro i h; simp at h
 | n+1=>by
  intro l hl;simp only [partsN,List.mem_flatMap] at hl;obtain ⟨p,hp,hl⟩:=hl;have hlen:=partsN_len n p hp;have ih:=partsN_partL n p hp;simp only [nextsK,List.mem_map,List.mem_filter,List.mem_range,Bool.or_eq_true,decide_eq_true_eq] at hl;obtain ⟨x,⟨hx,hx2⟩,rfl⟩:=hl;intro i h;simp only [List.length_append,List.length_cons,List.length_nil] at h;by_cases hi:i<p.length
  ·rw [List.getElem_append_left hi];obtain ⟨h1,h2,h3⟩:=ih i hi;refine ⟨h1,h2,?_⟩;have:p[i].toNat<p.length:=by omega
   rw [List.getD_eq_getElem?_getD,List.getElem?_append_left this,←List.getD_eq_getElem?_getD];exact h3
  ·have hi2:i=p.length:=by omega
   subst hi2;simp only [List.getElem_concat_length];refine ⟨by omega,by omega,?_⟩;rcases hx2 with rfl|hx2
   ·simp
   ·by_cases hxl:x<p.length
    ·simp only [Int.toNat_natCast];rw [List.getD_eq_getElem?_getD,List.getElem?_append_left hxl,←List.getD_eq_getElem?_getD];exact hx2
    ·have:x=p.length:=by omega
     subst this;simp
theorem nextsK_length (l:List Int) (k:Nat):(nextsK l k).length≤k:=by
 unfold nextsK;simp only [List.length_map];exact Nat.le_trans (List.length_filter_le _ _) (by simp)
theorem flatMap_le {α β:Type} (f:α→List β) (k:Nat) (h:∀ x,(f x).length≤k):∀ l:List α,(l.flatMap f).length≤l.length * k
 | []=>by simp
 | x::l=>by
  have:=flatMap_le f k h l
  have:=h x
  simp only [List.flatMap_cons,List.length_append,List.length_cons,Nat.succ_mul];omega
theorem partsN_few:∀ n,n≤7→(partsN n).length≤5040:=by
 have h:∀ n,(partsN (n+1)).length≤(partsN n).length * (n+1):=fun n=>flatMap_le _ _ (fun l=>nextsK_length l _) _
 intro n hn;have h0:(partsN 0).length=1:=rfl
 have h1:(partsN 1).length≤(partsN 0).length * 1:=by simpa using h 0
 have h2:(partsN 2).length≤(partsN 1).length * 2:=by simpa using h 1
 have h3:(partsN 3).length≤(partsN 2).length * 3:=by simpa using h 2
 have h4:(partsN 4).length≤(partsN 3).length * 4:=by simpa using h 3
 have h5:(partsN 5).length≤(partsN 4).length * 5:=by simpa using h 4
 have h6:(partsN 6).length≤(partsN 5).length * 6:=by simpa using h 5
 have h7:(partsN 7).length≤(partsN 6).length * 7:=by simpa using h 6
 have:n=0∨n=1∨n=2∨n=3∨n=4∨n=5∨n=6∨n=7:=by omega
 rcases this with rfl|rfl|rfl|rfl|rfl|rfl|rfl|rfl <;> omega
def st45a (n:Nat) (nb:Nat) (box:Bxs) (tok:Tks) (nt:Nat) (i:Nat):AState :=
 ⟨tl [(4,.d (lists (partsN i))),(15,I n),(16,I i)],lb nb box [],tok,nt⟩
def gone (i j:Nat):List (List Int):=((partsN i).take j).flatMap fun l=>nextsK l (i+1)
theorem gone_all (i:Nat):gone i (partsN i).length=partsN (i+1):=by simp [gone,partsN]
theorem gone_succ (i j:Nat) (h:j<(partsN i).length):gone i (j+1)=gone i j++nextsK (partsN i)[j] (i+1):=by
 simp only [gone];rw [List.take_succ_eq_append_getElem h,List.flatMap_append];simp
theorem gone_le (i j:Nat) (hi:i≤6):(gone i j).length≤40000:=by
 have h1:=flatMap_le (fun l=>nextsK l (i+1)) (i+1) (fun l=>nextsK_length l _) ((partsN i).take j);have h2:=partsN_few i (by omega);have h3:((partsN i).take j).length≤5040:=by simp; omega
 have h4:((partsN i).take j).length * (i+1)≤5040 * 7:=Nat.mul_le_mul h3 (by omega)
 unfold gone;omega
structure AccJ where
 i:Nat
 own:Own
 tok:Nat→Bool
 nt:Nat
def st45b (n:Nat) (nb:Nat) (box:Bxs) (i:Nat) (x:AccJ):AState :=
 ⟨tl [(5,I i),(6,.osl 1 (rL (gone i x.i)) x.own),(15,I n),(16,I i),(19,.d (lists (partsN i))),(20,I (partsN i).length),(21,I x.i)],lb nb box [],x.tok,x.nt⟩
def st45c (n:Nat) (nb:Nat) (box:Bxs) (i j:Nat) (l:List Int) (x:AccJ):AState :=
 ⟨tl [(5,I i),(6,.osl 1 (rL (gone i j++nextsK l x.i)) x.own),(15,I n),(16,I i),(19,.d (lists (partsN i))),(20,I (partsN i).length),(21,I j),(8,.d (ints l)),(26,I (i+1)),(27,I x.i)],lb nb box [],x.tok,x.nt⟩
structure AccL where
 i:Nat
 out:List (List Int)
 own:Own
 tok:Nat→Bool
 nt:Nat
theorem all45_c (n:Nat) (hn:n≤7) (tok:Tks) (nt:Nat):DCall Tryz.prog 174 [I n] tok nt (.tup [.d (lists (partsN n)),I 0]) tok nt:=by
 intro box nb;refine sI Tryz.func174 Tryz.ntmps174 fun hbox htok=>?_
 refine sR ?_;simp;refine sR ?_;simp;have k1:¬ 7<(n:Int):=by omega
 have k2:¬ (n:Int)<0:=by omega
 refine sC ?_;simp [k1];refine sR ?_;simp;refine sC ?_;simp [k2];refine sR ?_;simp;refine sR ?_;simp;refine sN ?_;refine AL.loopT (fun x:AccL=>st45a n nb box x.tok x.nt x.i) (fun x=>x.i≤n∧TK tok nt x.tok x.nt []) (fun x=>n - x.i) ⟨0,[],.full,tok,nt⟩ ⟨Nat.zero_le _,TK.start htok⟩ (Weaks.mk (Nat.le_refl _) rfl (by simp [ToL,st45a,partsN]; exact to_emp3 _ _ _) trivial) ?_;rintro ⟨i,_,_,tok',nt'⟩ S ⟨hi,htk⟩ hS;simp only [st45a] at hS hi htk;subst hS;have hw:=sW (i:=i) (by omega);refine sR ?_;simp;refine sC ?_;simp;refine ⟨fun hlt=>?_,fun hge=>?_⟩
 ·refine sR ?_;simp;refine sR ?_;simp;refine sR ?_;simp;refine sN ?_;refine AL.loopT (st45b n nb box i) (fun x=>x.i≤(partsN i).length∧TK tok nt x.tok x.nt [x.own]) (fun x=>(partsN i).length - x.i) ⟨0,.full,tok',nt'⟩ ⟨Nat.zero_le _,htk.full⟩ (Weaks.mk htk.le rfl (by simp [ToL,gone]) trivial) ?_;rintro ⟨j,own,tok2,nt2⟩ S ⟨hj,htk⟩ hS;simp only [st45b] at hS hj htk;subst hS;have hfew:=partsN_few i (by omega);have hw2:=sW (i:=j) (by omega);have hwi:IntKind.i64.wrap (↑i+1)=(i:Int)+1:=by rw [wrap_in (by omega) (by omega)]
  refine sR ?_;simp;refine sC ?_;simp;refine ⟨fun hlt2=>?_,fun hge2=>?_⟩
  ·have hlen:=partsN_len i _ (List.getElem_mem hlt2);refine sR ?_;simp [hlt2];refine sR ?_;simp [hwi];refine sN ?_;have hgle:=gone_le i j (by omega);generalize hl:(partsN i)[j]=l at *;refine AL.loopT (st45c n nb box i j l) (fun x=>x.i≤i+1∧TK tok nt x.tok x.nt [x.own]) (fun x=>i+1 - x.i) ⟨0,own,tok2,nt2⟩ ⟨Nat.zero_le _,htk⟩ (Weaks.mk htk.le rfl (by simp [ToL,nextsK]) trivial) ?_;rintro ⟨x,own,tok3,nt3⟩ S ⟨hx,htk⟩ hS;simp only [st45c] at hS hx htk;subst hS;have hw3:=sW (i:=x) (by omega);have hnl:=nextsK_length l x;refine sR ?_;simp;refine sC ?_;simp;refine ⟨fun hlt3=>?_,fun hge3=>?_⟩
   ·refine sR ?_;simp;refine sR ?_;simp;by_cases hxi:x=i
    ·subst hxi;simp;have hstep:nextsK l (x+1)=nextsK l x++[l++[(x:Int)]]:=by
      rw [nextsK_succ,if_pos (.inl hlen.symm)]
     have hsn:D.sl 1 (rI l++[[D.raw (.int .i64 x)]])=ints (l++[(x:Int)]):=by rw [rI_snoc]
     have htk1:=htk.full.app;have htk2:=htk1.app;have htk3:=htk2.tail.app;refine sC ?_;simp;refine sR ?_;simp;refine Stop.of_d (clone_c l (by omega) _ _) ?_;simp;refine ⟨⟨by omega,by simp [upd_same]⟩,⟨by omega,htk2.tail.live⟩,?_⟩;refine sR ?_;simp [hw3];refine sE ?_;refine ⟨⟨x+1,_,_,_⟩,⟨by simp <;> omega,htk3⟩,by simp <;> omega,Weaks.mk htk3.le rfl (by simp [ToL,hstep,hsn]) trivial⟩
    ·have hxl:x<l.length:=by omega
     have hb:((x:Int)==(i:Int))=false:=by simp; omega
     simp only [hb];simp [hxl];by_cases hpx:l[x]=(x:Int)
     ·simp [hpx];have hstep:nextsK l (x+1)=nextsK l x++[l++[(x:Int)]]:=by
       rw [nextsK_succ,if_pos (.inr (by simp [hxl,hpx]))]
      have hsn:D.sl 1 (rI l++[[D.raw (.int .i64 x)]])=ints (l++[(x:Int)]):=by rw [rI_snoc]
      have htk1:=htk.full.app;have htk2:=htk1.app;have htk3:=htk2.tail.app;refine sC ?_;simp;refine sR ?_;simp;refine Stop.of_d (clone_c l (by omega) _ _) ?_;simp;refine ⟨⟨by omega,by simp [upd_same]⟩,⟨by omega,htk2.tail.live⟩,?_⟩;refine sR ?_;simp [hw3];refine sE ?_;refine ⟨⟨x+1,_,_,_⟩,⟨by simp <;> omega,htk3⟩,by simp <;> omega,Weaks.mk htk3.le rfl (by simp [ToL,hstep,hsn]) trivial⟩
     ·have hb2:(l[x]==(x:Int))=false:=by simp [hpx]
      simp only [hb2];refine sC ?_;simp;refine sR ?_;simp [hw3];refine sE ?_;refine ⟨⟨x+1,own,tok3,nt3⟩,⟨by simp; omega,htk⟩,by simp; omega,Weaks.mk htk.le rfl ?_ trivial⟩;have hstep:nextsK l (x+1)=nextsK l x:=by
       rw [nextsK_succ,if_neg]
       ·simp
       ·simp [hxl,hpx]; omega
      simp [ToL,hstep]
   ·refine sX ?_;simp only [AU, ↓reduceIte];have:x=i+1:=by omega
    subst this;refine sR ?_;simp [hw2];refine sE ?_;refine ⟨⟨j+1,own,tok3,nt3⟩,⟨hlt2,htk⟩,by simp; omega,Weaks.mk htk.le rfl (by simp [ToL,gone_succ i j hlt2,hl]) trivial⟩
  ·refine sX ?_;simp only [AU, ↓reduceIte];have:j=(partsN i).length:=by omega
   subst this;refine sR ?_;simp;refine sR ?_;simp [hw];refine sE ?_;refine ⟨⟨i+1,[],own,tok2,nt2⟩,⟨hlt,htk.tail⟩,by simp; omega,Weaks.mk htk.le rfl (by simp [ToL,st45a,gone_all]) trivial⟩
 ·refine sX ?_;simp only [AU, ↓reduceIte];have:i=n:=by omega
  subst this;refine sR ?_;simp;refine sT (sG hbox htok htk.old htk.le ?_);simp [packA, ]
theorem numN_range {l:List Int} (hp:PartL l):∀ i,i≤l.length→∀ j (h:j<(numN l i).1.length),0≤(numN l i).1[j]∧(numN l i).1[j]<(numN l i).2
 | 0,_=>by intro j h; simp [numN] at h
 | i+1,hi=>by
  intro j h;have ih:=numN_range hp i (by omega);have hlen:=numN_len l i;have hil:i<l.length:=by omega
  have hg:l.getD i 0=l[i]:=by simp [hil]
  obtain ⟨p1,p2,p3⟩:=hp i hil;simp only [numN,hg] at h ⊢;split
  ·rename_i he;simp only [he, ↓reduceIte] at h;by_cases hj:j<(numN l i).1.length
   ·rw [List.getElem_append_left hj];have:=ih j hj
    exact ⟨this.1,by omega⟩
   ·have hj2:j=(numN l i).1.length:=by simp at h; omega
    subst hj2;rw [List.getElem_concat_length (by simp)];exact ⟨hlen.2.1,by omega⟩
  ·rename_i he;simp only [he, ↓reduceIte] at h;by_cases hj:j<(numN l i).1.length
   ·rw [List.getElem_append_left hj];exact ih j hj
   ·have hj2:j=(numN l i).1.length:=by simp at h; omega
    subst hj2;rw [List.getElem_concat_length (by simp)];have h4:l[i].toNat<(numN l i).1.length:=by omega
    rw [List.getD_eq_getElem?_getD,List.getElem?_eq_getElem h4];exact ih _ h4
section
variable {α:Type}
end
theorem Sub.agg {xs ys:List AV} (h:SubL xs ys):Sub (.agg xs) (.agg ys):=fun G w v r=>by
 cases r with
 | agg hl hh h1=>have:=h.rvs ⟨hl,hh⟩; exact .agg this.1 this.2 h1
end Go.AM
