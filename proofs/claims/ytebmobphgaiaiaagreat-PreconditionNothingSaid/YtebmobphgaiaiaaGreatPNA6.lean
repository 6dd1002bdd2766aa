/-
 Parts of the proof, as merged from many texts: a machine over data, what the functions compute, plain laws.
-/
import Derived.Test.YtebmobphgaiaiaaGreatPNA5
import Derived.Test.YtebmobphgaiaiaaGreatRows
set_option linter.unusedSimpArgs false
set_option linter.unusedVariables false
namespace Go.AM
open Go Go.Proofs
open Go.Proofs.Tryz
theorem follows_Tryz:prog.follows .mixedOrders=true:=by kernel_rfl
@[simp] theorem tb10_6:(szOf prog 2=some 1)/\(aggT prog 2=some false)/\(strT prog 2=false)/\(boolT prog 2=false)/\(elemT prog 2=none)/\(rowT prog 2=none)/\(kindT prog 2=some .i64)/\(zeroT prog 2=some [.int .i64 0])/\(szOf prog 3=some 1)/\(aggT prog 3=some false)/\(strT prog 3=false)/\(boolT prog 3=false):=by
 and_intros<;>kernel_rfl
@[simp] theorem tb11_6:(elemT prog 3=none)/\(rowT prog 3=none)/\(kindT prog 3=some .i64)/\(zeroT prog 3=some [.int .i64 0])/\(szOf prog 4=some 1)/\(aggT prog 4=some false)/\(strT prog 4=false)/\(boolT prog 4=true)/\(elemT prog 4=none)/\(rowT prog 4=none)/\(zeroT prog 4=some [.bool false])/\(szOf prog 5=some 1):=by
 and_intros<;>kernel_rfl
@[simp] theorem tb12_6:(aggT prog 5=some false)/\(strT prog 5=false)/\(boolT prog 5=false)/\(elemT prog 5=none)/\(rowT prog 5=none)/\(kindT prog 5=some .u8)/\(zeroT prog 5=some [.int .u8 0])/\(szOf prog 9=some 1)/\(aggT prog 9=some false)/\(strT prog 9=true)/\(boolT prog 9=false)/\(elemT prog 9=none):=by
 and_intros<;>kernel_rfl
@[simp] theorem tb13_6:(rowT prog 9=none)/\(zeroT prog 9=some [.string ⟨#[]⟩])/\(szOf prog 21=some 1)/\(aggT prog 21=some false)/\(strT prog 21=false)/\(boolT prog 21=false)/\(elemT prog 21=none)/\(rowT prog 21=none)/\(kindT prog 21=some .i32)/\(zeroT prog 21=some [.int .i32 0])/\(szOf prog 22=some 1)/\(aggT prog 22=some false):=by
 and_intros<;>kernel_rfl
@[simp] theorem tb14_6:(strT prog 22=false)/\(boolT prog 22=false)/\(elemT prog 22=some 143)/\(rowT prog 22=some (143,4,56))/\(makeT prog 22=some (4,56,[.string ⟨#[]⟩,.int .i64 0,.bool false,.slice none 0 0]))/\(zeroT prog 22=some [.slice none 0 0])/\(szOf prog 23=some 1)/\(aggT prog 23=some false)/\(strT prog 23=false)/\(boolT prog 23=false)/\(elemT prog 23=some 145)/\(rowT prog 23=some (145,7,64)):=by
 and_intros<;>kernel_rfl
@[simp] theorem tb15_6:(makeT prog 23=some (7,64,[.string ⟨#[]⟩,.int .i64 0,.int .i64 0,.int .i64 0,.int .i64 0,.int .i64 0,.int .i64 0]))/\(zeroT prog 23=some [.slice none 0 0])/\(szOf prog 25=some 2)/\(aggT prog 25=some true)/\(strT prog 25=false)/\(boolT prog 25=false)/\(elemT prog 25=none)/\(rowT prog 25=none)/\(structT prog 25=some [(0,1),(1,1)])/\(fieldT prog 25 0=some (22,0))/\(fieldT prog 25 1=some (23,1))/\(zeroT prog 25=some [.slice none 0 0,.slice none 0 0]):=by
 and_intros<;>kernel_rfl
@[simp] theorem tb16_6:(szOf prog 26=some 1)/\(aggT prog 26=some false)/\(strT prog 26=false)/\(boolT prog 26=false)/\(elemT prog 26=some 3)/\(rowT prog 26=some (3,1,8))/\(makeT prog 26=some (1,8,[.int .i64 0]))/\(zeroT prog 26=some [.slice none 0 0])/\(szOf prog 27=some 1)/\(aggT prog 27=some false)/\(strT prog 27=false)/\(boolT prog 27=false):=by
 and_intros<;>kernel_rfl
@[simp] theorem tb17_6:(elemT prog 27=some 88)/\(rowT prog 27=some (88,3,24))/\(makeT prog 27=some (3,24,[.int .i64 0,.int .i64 0,.int .i64 0]))/\(zeroT prog 27=some [.slice none 0 0])/\(szOf prog 29=some 2)/\(aggT prog 29=some true)/\(strT prog 29=false)/\(boolT prog 29=false)/\(elemT prog 29=none)/\(rowT prog 29=none)/\(structT prog 29=some [(0,1),(1,1)])/\(fieldT prog 29 0=some (26,0)):=by
 and_intros<;>kernel_rfl
@[simp] theorem tb18_6:(fieldT prog 29 1=some (27,1))/\(zeroT prog 29=some [.slice none 0 0,.slice none 0 0])/\(szOf prog 30=some 1)/\(aggT prog 30=some false)/\(strT prog 30=false)/\(boolT prog 30=false)/\(elemT prog 30=some 105)/\(rowT prog 30=some (105,4,32))/\(makeT prog 30=some (4,32,[.int .i64 0,.int .i64 0,.int .i64 0,.int .i64 0]))/\(zeroT prog 30=some [.slice none 0 0])/\(szOf prog 31=some 1)/\(aggT prog 31=some false):=by
 and_intros<;>kernel_rfl
@[simp] theorem tb19_6:(strT prog 31=false)/\(boolT prog 31=false)/\(elemT prog 31=some 107)/\(rowT prog 31=some (107,5,40))/\(makeT prog 31=some (5,40,[.int .i64 0,.int .i64 0,.int .i64 0,.int .i64 0,.int .i64 0]))/\(zeroT prog 31=some [.slice none 0 0])/\(szOf prog 33=some 5)/\(aggT prog 33=some true)/\(strT prog 33=false)/\(boolT prog 33=false)/\(elemT prog 33=none)/\(rowT prog 33=none):=by
 and_intros<;>kernel_rfl
@[simp] theorem tb20_6:(structT prog 33=some [(0,2),(2,1),(3,1),(4,1)])/\(fieldT prog 33 0=some (29,0))/\(fieldT prog 33 1=some (30,2))/\(fieldT prog 33 2=some (3,3))/\(fieldT prog 33 3=some (31,4))/\(zeroT prog 33=some [.slice none 0 0,.slice none 0 0,.slice none 0 0,.int .i64 0,.slice none 0 0])/\(szOf prog 35=some 2)/\(aggT prog 35=some true)/\(strT prog 35=false)/\(boolT prog 35=false)/\(elemT prog 35=none)/\(rowT prog 35=none):=by
 and_intros<;>kernel_rfl
@[simp] theorem tb21_6:(structT prog 35=some [(0,1),(1,1)])/\(fieldT prog 35 0=some (26,0))/\(fieldT prog 35 1=some (26,1))/\(zeroT prog 35=some [.slice none 0 0,.slice none 0 0])/\(szOf prog 36=some 2)/\(aggT prog 36=some true)/\(strT prog 36=false)/\(boolT prog 36=false)/\(elemT prog 36=none)/\(rowT prog 36=none)/\(structT prog 36=some [(0,1),(1,1)])/\(fieldT prog 36 0=some (26,0)):=by
 and_intros<;>kernel_rfl
@[simp] theorem tb22_6:(fieldT prog 36 1=some (26,1))/\(zeroT prog 36=some [.slice none 0 0,.slice none 0 0])/\(szOf prog 37=some 1)/\(aggT prog 37=some false)/\(strT prog 37=false)/\(boolT prog 37=false)/\(elemT prog 37=some 39)/\(rowT prog 37=some (39,9,184))/\(makeT prog 37=some (9,184,[.int .i64 0,.slice none 0 0,.slice none 0 0,.slice none 0 0,.slice none 0 0,.slice none 0 0,.slice none 0 0,.int .i64 0,.slice none 0 0]))/\(zeroT prog 37=some [.slice none 0 0])/\(szOf prog 39=some 9)/\(aggT prog 39=some true):=by
 and_intros<;>kernel_rfl
@[simp] theorem tb23_6:(strT prog 39=false)/\(boolT prog 39=false)/\(elemT prog 39=none)/\(rowT prog 39=none)/\(structT prog 39=some [(0,1),(1,1),(2,2),(4,5)])/\(fieldT prog 39 0=some (3,0))/\(fieldT prog 39 1=some (37,1))/\(fieldT prog 39 2=some (36,2))/\(fieldT prog 39 3=some (33,4))/\(zeroT prog 39=some [.int .i64 0,.slice none 0 0,.slice none 0 0,.slice none 0 0,.slice none 0 0,.slice none 0 0,.slice none 0 0,.int .i64 0,.slice none 0 0])/\(szOf prog 41=some 25)/\(aggT prog 41=some true):=by
 and_intros<;>kernel_rfl
@[simp] theorem tb24_6:(strT prog 41=false)/\(boolT prog 41=false)/\(elemT prog 41=none)/\(rowT prog 41=none)/\(structT prog 41=some [(0,1),(1,5),(6,5),(11,2),(13,2),(15,1),(16,9)])/\(fieldT prog 41 0=some (9,0))/\(fieldT prog 41 1=some (33,1))/\(fieldT prog 41 2=some (33,6))/\(fieldT prog 41 3=some (35,11))/\(fieldT prog 41 4=some (36,13))/\(fieldT prog 41 5=some (4,15))/\(fieldT prog 41 6=some (39,16)):=by
 and_intros<;>kernel_rfl
@[simp] theorem tb25_6:(zeroT prog 41=some [.string ⟨#[]⟩,.slice none 0 0,.slice none 0 0,.slice none 0 0,.int .i64 0,.slice none 0 0,.slice none 0 0,.slice none 0 0,.slice none 0 0,.int .i64 0,.slice none 0 0,.slice none 0 0,.slice none 0 0,.slice none 0 0,.slice none 0 0,.bool false,.int .i64 0,.slice none 0 0,.slice none 0 0,.slice none 0 0,.slice none 0 0,.slice none 0 0,.slice none 0 0,.int .i64 0,.slice none 0 0])/\(szOf prog 42=some 1)/\(aggT prog 42=some false)/\(strT prog 42=false)/\(boolT prog 42=false)/\(elemT prog 42=some 148)/\(rowT prog 42=some (148,4,96))/\(makeT prog 42=some (4,96,[.slice none 0 0,.slice none 0 0,.slice none 0 0,.slice none 0 0]))/\(zeroT prog 42=some [.slice none 0 0])/\(szOf prog 44=some 5)/\(aggT prog 44=some true)/\(strT prog 44=false):=by
 and_intros<;>kernel_rfl
@[simp] theorem tb26_6:(boolT prog 44=false)/\(elemT prog 44=none)/\(rowT prog 44=none)/\(structT prog 44=some [(0,1),(1,1),(2,2),(4,1)])/\(fieldT prog 44 0=some (9,0))/\(fieldT prog 44 1=some (3,1))/\(fieldT prog 44 2=some (29,2))/\(fieldT prog 44 3=some (42,4))/\(zeroT prog 44=some [.string ⟨#[]⟩,.int .i64 0,.slice none 0 0,.slice none 0 0,.slice none 0 0])/\(szOf prog 47=some 1)/\(aggT prog 47=some false)/\(strT prog 47=false):=by
 and_intros<;>kernel_rfl
@[simp] theorem tb27_6:(boolT prog 47=false)/\(elemT prog 47=none)/\(rowT prog 47=none)/\(kindT prog 47=some .i64)/\(zeroT prog 47=some [.int .i64 0])/\(szOf prog 50=some 1)/\(aggT prog 50=some false)/\(strT prog 50=false)/\(boolT prog 50=false)/\(elemT prog 50=some 92)/\(rowT prog 50=some (92,6,144))/\(makeT prog 50=some (6,144,[.slice none 0 0,.slice none 0 0,.slice none 0 0,.slice none 0 0,.slice none 0 0,.slice none 0 0])):=by
 and_intros<;>kernel_rfl
@[simp] theorem tb28_6:(zeroT prog 50=some [.slice none 0 0])/\(szOf prog 55=some 1)/\(aggT prog 55=some false)/\(strT prog 55=false)/\(boolT prog 55=false)/\(elemT prog 55=some 168)/\(rowT prog 55=some (168,2,2))/\(makeT prog 55=some (2,2,[.int .u8 0,.int .u8 0]))/\(zeroT prog 55=some [.slice none 0 0])/\(szOf prog 56=some 1)/\(aggT prog 56=some false)/\(strT prog 56=false):=by
 and_intros<;>kernel_rfl
@[simp] theorem tb29_6:(boolT prog 56=false)/\(elemT prog 56=some 5)/\(rowT prog 56=some (5,1,1))/\(makeT prog 56=some (1,1,[.int .u8 0]))/\(zeroT prog 56=some [.slice none 0 0])/\(szOf prog 57=some 1)/\(aggT prog 57=some false)/\(strT prog 57=false)/\(boolT prog 57=false)/\(elemT prog 57=some 170)/\(rowT prog 57=some (170,3,3))/\(makeT prog 57=some (3,3,[.int .u8 0,.int .u8 0,.int .u8 0])):=by
 and_intros<;>kernel_rfl
@[simp] theorem tb30_6:(zeroT prog 57=some [.slice none 0 0])/\(szOf prog 58=some 1)/\(aggT prog 58=some false)/\(strT prog 58=false)/\(boolT prog 58=false)/\(elemT prog 58=none)/\(rowT prog 58=none)/\(kindT prog 58=some .u64)/\(zeroT prog 58=some [.int .u64 0])/\(szOf prog 59=some 1)/\(aggT prog 59=some false)/\(strT prog 59=false):=by
 and_intros<;>kernel_rfl
@[simp] theorem tb31_6:(boolT prog 59=false)/\(elemT prog 59=some 56)/\(rowT prog 59=some (56,1,24))/\(makeT prog 59=some (1,24,[.slice none 0 0]))/\(zeroT prog 59=some [.slice none 0 0])/\(szOf prog 61=some 3)/\(aggT prog 61=some true)/\(strT prog 61=false)/\(boolT prog 61=false)/\(elemT prog 61=none)/\(rowT prog 61=none)/\(structT prog 61=some [(0,1),(1,1),(2,1)]):=by
 and_intros<;>kernel_rfl
@[simp] theorem tb32_6:(fieldT prog 61 0=some (56,0))/\(fieldT prog 61 1=some (57,1))/\(fieldT prog 61 2=some (59,2))/\(zeroT prog 61=some [.slice none 0 0,.slice none 0 0,.slice none 0 0])/\(szOf prog 63=some 11):=by
 and_intros<;>kernel_rfl
@[simp] theorem aggT_63:aggT prog 63=some true:=by kernel_rfl
@[simp] theorem tb34_6:(strT prog 63=false)/\(boolT prog 63=false)/\(elemT prog 63=none)/\(rowT prog 63=none)/\(structT prog 63=some [(0,1),(1,1),(2,1),(3,1),(4,1),(5,1),(6,3),(9,1),(10,1)])/\(fieldT prog 63 0=some (55,0))/\(fieldT prog 63 1=some (55,1))/\(fieldT prog 63 2=some (56,2))/\(fieldT prog 63 3=some (57,3))/\(fieldT prog 63 4=some (58,4))/\(fieldT prog 63 5=some (56,5))/\(fieldT prog 63 6=some (61,6)):=by
 and_intros<;>kernel_rfl
@[simp] theorem tb35_6:(fieldT prog 63 7=some (56,9))/\(fieldT prog 63 8=some (57,10))/\(zeroT prog 63=some [.slice none 0 0,.slice none 0 0,.slice none 0 0,.slice none 0 0,.int .u64 0,.slice none 0 0,.slice none 0 0,.slice none 0 0,.slice none 0 0,.slice none 0 0,.slice none 0 0])/\(szOf prog 65=some 34)/\(aggT prog 65=some true)/\(strT prog 65=false)/\(boolT prog 65=false)/\(elemT prog 65=none)/\(rowT prog 65=none)/\(structT prog 65=some [(0,2),(2,25),(27,5),(32,2)])/\(fieldT prog 65 0=some (25,0))/\(fieldT prog 65 1=some (41,2)):=by
 and_intros<;>kernel_rfl
@[simp] theorem tb36_6:(fieldT prog 65 2=some (44,27))/\(fieldT prog 65 3=some (29,32))/\(zeroT prog 65=some [.slice none 0 0,.slice none 0 0,.string ⟨#[]⟩,.slice none 0 0,.slice none 0 0,.slice none 0 0,.int .i64 0,.slice none 0 0,.slice none 0 0,.slice none 0 0,.slice none 0 0,.int .i64 0,.slice none 0 0,.slice none 0 0,.slice none 0 0,.slice none 0 0,.slice none 0 0,.bool false,.int .i64 0,.slice none 0 0,.slice none 0 0,.slice none 0 0,.slice none 0 0,.slice none 0 0,.slice none 0 0,.int .i64 0,.slice none 0 0,.string ⟨#[]⟩,.int .i64 0,.slice none 0 0,.slice none 0 0,.slice none 0 0,.slice none 0 0,.slice none 0 0])/\(szOf prog 75=some 1)/\(aggT prog 75=some false)/\(strT prog 75=false)/\(boolT prog 75=false)/\(elemT prog 75=some 36)/\(rowT prog 75=some (36,2,48))/\(makeT prog 75=some (2,48,[.slice none 0 0,.slice none 0 0]))/\(zeroT prog 75=some [.slice none 0 0])/\(szOf prog 88=some 3):=by
 and_intros<;>kernel_rfl
@[simp] theorem tb37_6:(aggT prog 88=some true)/\(strT prog 88=false)/\(boolT prog 88=false)/\(elemT prog 88=none)/\(rowT prog 88=none)/\(eqT prog 88=some 3)/\(structT prog 88=some [(0,1),(1,1),(2,1)])/\(fieldT prog 88 0=some (3,0))/\(fieldT prog 88 1=some (3,1))/\(fieldT prog 88 2=some (3,2))/\(zeroT prog 88=some [.int .i64 0,.int .i64 0,.int .i64 0])/\(szOf prog 92=some 6):=by
 and_intros<;>kernel_rfl
@[simp] theorem tb38_6:(aggT prog 92=some true)/\(strT prog 92=false)/\(boolT prog 92=false)/\(elemT prog 92=none)/\(rowT prog 92=none)/\(structT prog 92=some [(0,2),(2,2),(4,2)])/\(fieldT prog 92 0=some (29,0))/\(fieldT prog 92 1=some (36,2))/\(fieldT prog 92 2=some (36,4))/\(zeroT prog 92=some [.slice none 0 0,.slice none 0 0,.slice none 0 0,.slice none 0 0,.slice none 0 0,.slice none 0 0])/\(szOf prog 103=some 2)/\(aggT prog 103=some true):=by
 and_intros<;>kernel_rfl
@[simp] theorem tb39_6:(strT prog 103=false)/\(boolT prog 103=false)/\(elemT prog 103=none)/\(rowT prog 103=none)/\(eqT prog 103=some 2)/\(structT prog 103=some [(0,1),(1,1)])/\(fieldT prog 103 0=some (3,0))/\(fieldT prog 103 1=some (3,1))/\(zeroT prog 103=some [.int .i64 0,.int .i64 0])/\(szOf prog 105=some 4)/\(aggT prog 105=some true)/\(strT prog 105=false):=by
 and_intros<;>kernel_rfl
@[simp] theorem tb40_6:(boolT prog 105=false)/\(elemT prog 105=none)/\(rowT prog 105=none)/\(structT prog 105=some [(0,1),(1,1),(2,2)])/\(fieldT prog 105 0=some (3,0))/\(fieldT prog 105 1=some (3,1))/\(fieldT prog 105 2=some (103,2))/\(zeroT prog 105=some [.int .i64 0,.int .i64 0,.int .i64 0,.int .i64 0])/\(szOf prog 107=some 5)/\(aggT prog 107=some true)/\(strT prog 107=false)/\(boolT prog 107=false):=by
 and_intros<;>kernel_rfl
@[simp] theorem tb41_6:(elemT prog 107=none)/\(rowT prog 107=none)/\(structT prog 107=some [(0,1),(1,2),(3,2)])/\(fieldT prog 107 0=some (3,0))/\(fieldT prog 107 1=some (103,1))/\(fieldT prog 107 2=some (103,3))/\(zeroT prog 107=some [.int .i64 0,.int .i64 0,.int .i64 0,.int .i64 0,.int .i64 0])/\(szOf prog 132=some 10)/\(aggT prog 132=some true)/\(strT prog 132=false)/\(boolT prog 132=false)/\(elemT prog 132=none):=by
 and_intros<;>kernel_rfl
@[simp] theorem tb42_6:(rowT prog 132=none)/\(structT prog 132=some [(0,2),(2,2),(4,2),(6,2),(8,2)])/\(fieldT prog 132 0=some (29,0))/\(fieldT prog 132 1=some (29,2))/\(fieldT prog 132 2=some (29,4))/\(fieldT prog 132 3=some (36,6))/\(fieldT prog 132 4=some (36,8))/\(zeroT prog 132=some [.slice none 0 0,.slice none 0 0,.slice none 0 0,.slice none 0 0,.slice none 0 0,.slice none 0 0,.slice none 0 0,.slice none 0 0,.slice none 0 0,.slice none 0 0])/\(szOf prog 138=some 1)/\(aggT prog 138=some false)/\(strT prog 138=false)/\(boolT prog 138=false):=by
 and_intros<;>kernel_rfl
@[simp] theorem tb43_6:(elemT prog 138=some 9)/\(rowT prog 138=some (9,1,16))/\(makeT prog 138=some (1,16,[.string ⟨#[]⟩]))/\(zeroT prog 138=some [.slice none 0 0])/\(szOf prog 140=some 4)/\(aggT prog 140=some true)/\(strT prog 140=false)/\(boolT prog 140=false)/\(elemT prog 140=none)/\(rowT prog 140=none)/\(structT prog 140=some [(0,1),(1,1),(2,1),(3,1)])/\(fieldT prog 140 0=some (9,0)):=by
 and_intros<;>kernel_rfl
@[simp] theorem tb44_6:(fieldT prog 140 1=some (3,1))/\(fieldT prog 140 2=some (3,2))/\(fieldT prog 140 3=some (138,3))/\(zeroT prog 140=some [.string ⟨#[]⟩,.int .i64 0,.int .i64 0,.slice none 0 0])/\(szOf prog 141=some 1)/\(aggT prog 141=some false)/\(strT prog 141=false)/\(boolT prog 141=false)/\(elemT prog 141=some 140)/\(rowT prog 141=some (140,4,56))/\(makeT prog 141=some (4,56,[.string ⟨#[]⟩,.int .i64 0,.int .i64 0,.slice none 0 0]))/\(zeroT prog 141=some [.slice none 0 0]):=by
 and_intros<;>kernel_rfl
@[simp] theorem tb45_6:(szOf prog 143=some 4)/\(aggT prog 143=some true)/\(strT prog 143=false)/\(boolT prog 143=false)/\(elemT prog 143=none)/\(rowT prog 143=none)/\(structT prog 143=some [(0,1),(1,1),(2,1),(3,1)])/\(fieldT prog 143 0=some (9,0))/\(fieldT prog 143 1=some (3,1))/\(fieldT prog 143 2=some (4,2))/\(fieldT prog 143 3=some (141,3))/\(zeroT prog 143=some [.string ⟨#[]⟩,.int .i64 0,.bool false,.slice none 0 0]):=by
 and_intros<;>kernel_rfl
@[simp] theorem tb46_6:(szOf prog 145=some 7)/\(aggT prog 145=some true)/\(strT prog 145=false)/\(boolT prog 145=false)/\(elemT prog 145=none)/\(rowT prog 145=none)/\(structT prog 145=some [(0,1),(1,1),(2,1),(3,1),(4,1),(5,1),(6,1)])/\(fieldT prog 145 0=some (9,0))/\(fieldT prog 145 1=some (3,1))/\(fieldT prog 145 2=some (3,2))/\(fieldT prog 145 3=some (3,3))/\(fieldT prog 145 4=some (3,4)):=by
 and_intros<;>kernel_rfl
@[simp] theorem tb47_6:(fieldT prog 145 5=some (3,5))/\(fieldT prog 145 6=some (3,6))/\(zeroT prog 145=some [.string ⟨#[]⟩,.int .i64 0,.int .i64 0,.int .i64 0,.int .i64 0,.int .i64 0,.int .i64 0])/\(szOf prog 148=some 4)/\(aggT prog 148=some true)/\(strT prog 148=false)/\(boolT prog 148=false)/\(elemT prog 148=none)/\(rowT prog 148=none)/\(structT prog 148=some [(0,2),(2,2)])/\(fieldT prog 148 0=some (36,0))/\(fieldT prog 148 1=some (29,2)):=by
 and_intros<;>kernel_rfl
@[simp] theorem tb48_6:(zeroT prog 148=some [.slice none 0 0,.slice none 0 0,.slice none 0 0,.slice none 0 0])/\(szOf prog 151=some 8)/\(aggT prog 151=some true)/\(strT prog 151=false)/\(boolT prog 151=false)/\(elemT prog 151=none)/\(rowT prog 151=none)/\(structT prog 151=some [(0,2),(2,2),(4,2),(6,2)])/\(fieldT prog 151 0=some (29,0))/\(fieldT prog 151 1=some (29,2))/\(fieldT prog 151 2=some (35,4))/\(fieldT prog 151 3=some (36,6)):=by
 and_intros<;>kernel_rfl
@[simp] theorem tb49_6:(zeroT prog 151=some [.slice none 0 0,.slice none 0 0,.slice none 0 0,.slice none 0 0,.slice none 0 0,.slice none 0 0,.slice none 0 0,.slice none 0 0])/\(szOf prog 157=some 1)/\(aggT prog 157=some false)/\(strT prog 157=false)/\(boolT prog 157=false)/\(elemT prog 157=some 29)/\(rowT prog 157=some (29,2,48))/\(makeT prog 157=some (2,48,[.slice none 0 0,.slice none 0 0]))/\(zeroT prog 157=some [.slice none 0 0])/\(szOf prog 159=some 1)/\(aggT prog 159=some false)/\(strT prog 159=false):=by
 and_intros<;>kernel_rfl
@[simp] theorem tb50_6:(boolT prog 159=false)/\(elemT prog 159=none)/\(rowT prog 159=none)/\(zeroT prog 159=some [.pointer none])/\(szOf prog 161=some 5)/\(aggT prog 161=some true)/\(strT prog 161=false)/\(boolT prog 161=false)/\(elemT prog 161=none)/\(rowT prog 161=none)/\(structT prog 161=some [(0,2),(2,2),(4,1)])/\(fieldT prog 161 0=some (29,0)):=by
 and_intros<;>kernel_rfl
@[simp] theorem tb51_6:(fieldT prog 161 1=some (29,2))/\(fieldT prog 161 2=some (50,4))/\(zeroT prog 161=some [.slice none 0 0,.slice none 0 0,.slice none 0 0,.slice none 0 0,.slice none 0 0])/\(szOf prog 164=some 1)/\(aggT prog 164=some false)/\(strT prog 164=false)/\(boolT prog 164=false)/\(elemT prog 164=none)/\(rowT prog 164=none)/\(zeroT prog 164=some [.pointer none])/\(szOf prog 166=some 5)/\(aggT prog 166=some true):=by
 and_intros<;>kernel_rfl
@[simp] theorem tb52_6:(strT prog 166=false)/\(boolT prog 166=false)/\(elemT prog 166=none)/\(rowT prog 166=none)/\(structT prog 166=some [(0,2),(2,2),(4,1)])/\(fieldT prog 166 0=some (29,0))/\(fieldT prog 166 1=some (29,2))/\(fieldT prog 166 2=some (50,4))/\(zeroT prog 166=some [.slice none 0 0,.slice none 0 0,.slice none 0 0,.slice none 0 0,.slice none 0 0])/\(szOf prog 168=some 2)/\(aggT prog 168=some true)/\(strT prog 168=false):=by
 and_intros<;>kernel_rfl
@[simp] theorem tb53_6:(boolT prog 168=false)/\(elemT prog 168=none)/\(rowT prog 168=none)/\(arrT prog 168=some (2,5))/\(structT prog 168=none)/\(zeroT prog 168=some [.int .u8 0,.int .u8 0])/\(szOf prog 170=some 3)/\(aggT prog 170=some true)/\(strT prog 170=false)/\(boolT prog 170=false)/\(elemT prog 170=none)/\(rowT prog 170=none):=by
 and_intros<;>kernel_rfl
@[simp] theorem tb54_6:(arrT prog 170=some (3,5))/\(structT prog 170=none)/\(zeroT prog 170=some [.int .u8 0,.int .u8 0,.int .u8 0])/\(szOf prog 172=some 1)/\(aggT prog 172=some false)/\(strT prog 172=false)/\(boolT prog 172=false)/\(elemT prog 172=some 4)/\(rowT prog 172=some (4,1,1))/\(makeT prog 172=some (1,1,[.bool false]))/\(zeroT prog 172=some [.slice none 0 0])/\(szOf prog 183=some 1):=by
 and_intros<;>kernel_rfl
@[simp] theorem tb55_6:(aggT prog 183=some false)/\(strT prog 183=false)/\(boolT prog 183=false)/\(elemT prog 183=some 33)/\(rowT prog 183=some (33,5,104))/\(makeT prog 183=some (5,104,[.slice none 0 0,.slice none 0 0,.slice none 0 0,.int .i64 0,.slice none 0 0]))/\(zeroT prog 183=some [.slice none 0 0])/\(szOf prog 193=some 1)/\(aggT prog 193=some false)/\(strT prog 193=false)/\(boolT prog 193=false)/\(elemT prog 193=some 248):=by
 and_intros<;>kernel_rfl
@[simp] theorem tb56_6:(rowT prog 193=some (248,2,16))/\(makeT prog 193=some (2,16,[.int .i64 0,.int .i64 0]))/\(zeroT prog 193=some [.slice none 0 0])/\(szOf prog 207=some 1)/\(aggT prog 207=some false)/\(strT prog 207=false)/\(boolT prog 207=false)/\(elemT prog 207=none)/\(rowT prog 207=none)/\(zeroT prog 207=some [.pointer none])/\(szOf prog 211=some 7)/\(aggT prog 211=some true):=by
 and_intros<;>kernel_rfl
@[simp] theorem tb57_6:(strT prog 211=false)/\(boolT prog 211=false)/\(elemT prog 211=none)/\(rowT prog 211=none)/\(structT prog 211=some [(0,2),(2,2),(4,1),(5,1),(6,1)])/\(fieldT prog 211 0=some (29,0))/\(fieldT prog 211 1=some (29,2))/\(fieldT prog 211 2=some (26,4))/\(fieldT prog 211 3=some (26,5))/\(fieldT prog 211 4=some (209,6))/\(zeroT prog 211=some [.slice none 0 0,.slice none 0 0,.slice none 0 0,.slice none 0 0,.slice none 0 0,.slice none 0 0,.nilFunc])/\(szOf prog 212=some 1):=by
 and_intros<;>kernel_rfl
@[simp] theorem tb58_6:(aggT prog 212=some false)/\(zeroT prog 212=some [.nilFunc])/\(szOf prog 238=some 1)/\(aggT prog 238=some false)/\(strT prog 238=false)/\(boolT prog 238=false)/\(elemT prog 238=none)/\(rowT prog 238=none)/\(zeroT prog 238=some [.pointer none])/\(szOf prog 240=some 2)/\(aggT prog 240=some true)/\(strT prog 240=false):=by
 and_intros<;>kernel_rfl
@[simp] theorem tb59_6:(boolT prog 240=false)/\(elemT prog 240=none)/\(rowT prog 240=none)/\(eqT prog 240=some 2)/\(structT prog 240=some [(0,1),(1,1)])/\(fieldT prog 240 0=some (3,0))/\(fieldT prog 240 1=some (47,1))/\(zeroT prog 240=some [.int .i64 0,.int .i64 0])/\(szOf prog 242=some 1)/\(aggT prog 242=some false)/\(strT prog 242=false)/\(boolT prog 242=false):=by
 and_intros<;>kernel_rfl
@[simp] theorem tb60_6:(elemT prog 242=none)/\(rowT prog 242=none)/\(zeroT prog 242=some [.pointer none])/\(szOf prog 244=some 2)/\(aggT prog 244=some true)/\(strT prog 244=false)/\(boolT prog 244=false)/\(elemT prog 244=none)/\(rowT prog 244=none)/\(eqT prog 244=some 2)/\(structT prog 244=some [(0,1),(1,1)])/\(fieldT prog 244 0=some (3,0)):=by
 and_intros<;>kernel_rfl
@[simp] theorem tb61_6:(fieldT prog 244 1=some (47,1))/\(zeroT prog 244=some [.int .i64 0,.int .i64 0])/\(szOf prog 248=some 2)/\(aggT prog 248=some true)/\(strT prog 248=false)/\(boolT prog 248=false)/\(elemT prog 248=none)/\(rowT prog 248=none)/\(eqT prog 248=some 2)/\(structT prog 248=some [(0,1),(1,1)])/\(fieldT prog 248 0=some (3,0))/\(fieldT prog 248 1=some (3,1)):=by
 and_intros<;>kernel_rfl
@[simp] theorem tb62_6:(zeroT prog 248=some [.int .i64 0,.int .i64 0])/\(szOf prog 252=some 1)/\(aggT prog 252=some false)/\(strT prog 252=false)/\(boolT prog 252=false)/\(elemT prog 252=none)/\(rowT prog 252=none)/\(zeroT prog 252=some [.pointer none])/\(szOf prog 254=some 11)/\(aggT prog 254=some true)/\(strT prog 254=false)/\(boolT prog 254=false):=by
 and_intros<;>kernel_rfl
@[simp] theorem tb63_6:(elemT prog 254=none)/\(rowT prog 254=none)/\(structT prog 254=some [(0,2),(2,2),(4,2),(6,2),(8,1),(9,1),(10,1)])/\(fieldT prog 254 0=some (25,0))/\(fieldT prog 254 1=some (29,2))/\(fieldT prog 254 2=some (29,4))/\(fieldT prog 254 3=some (36,6))/\(fieldT prog 254 4=some (4,8))/\(fieldT prog 254 5=some (3,9))/\(fieldT prog 254 6=some (75,10))/\(zeroT prog 254=some [.slice none 0 0,.slice none 0 0,.slice none 0 0,.slice none 0 0,.slice none 0 0,.slice none 0 0,.slice none 0 0,.slice none 0 0,.bool false,.int .i64 0,.slice none 0 0])/\(szOf prog 258=some 3):=by
 and_intros<;>kernel_rfl
@[simp] theorem tb64_6:(aggT prog 258=some true)/\(strT prog 258=false)/\(boolT prog 258=false)/\(elemT prog 258=none)/\(rowT prog 258=none)/\(structT prog 258=some [(0,1),(1,1),(2,1)])/\(fieldT prog 258 0=some (3,0))/\(fieldT prog 258 1=some (9,1))/\(fieldT prog 258 2=some (3,2))/\(zeroT prog 258=some [.int .i64 0,.string ⟨#[]⟩,.int .i64 0])/\(elemT prog 273=none)/\(kindT prog 273=some .u64):=by
 and_intros<;>kernel_rfl
@[simp] theorem tb65_6:(szOf prog 300=some 1)/\(aggT prog 300=some false)/\(strT prog 300=false)/\(boolT prog 300=false)/\(elemT prog 300=none)/\(rowT prog 300=none)/\(kindT prog 300=some .u32)/\(zeroT prog 300=some [.int .u32 0])/\(szOf prog 305=some 1)/\(aggT prog 305=some false)/\(zeroT prog 305=some [.nilFunc])/\(szOf prog 310=some 8):=by
 and_intros<;>kernel_rfl
@[simp] theorem tb66_6:(aggT prog 310=some true)/\(strT prog 310=false)/\(boolT prog 310=false)/\(elemT prog 310=none)/\(rowT prog 310=none)/\(structT prog 310=some [(0,2),(2,2),(4,2),(6,2)])/\(fieldT prog 310 0=some (29,0))/\(fieldT prog 310 1=some (29,2))/\(fieldT prog 310 2=some (35,4))/\(fieldT prog 310 3=some (36,6))/\(zeroT prog 310=some [.slice none 0 0,.slice none 0 0,.slice none 0 0,.slice none 0 0,.slice none 0 0,.slice none 0 0,.slice none 0 0,.slice none 0 0])/\(szOf prog 337=some 1):=by
 and_intros<;>kernel_rfl
@[simp] theorem tb67_6:(aggT prog 337=some false)/\(strT prog 337=false)/\(boolT prog 337=false)/\(elemT prog 337=none)/\(rowT prog 337=none)/\(zeroT prog 337=some [.pointer none])/\(szOf prog 342=some 1)/\(aggT prog 342=some false)/\(strT prog 342=false)/\(boolT prog 342=false)/\(elemT prog 342=some 26)/\(rowT prog 342=some (26,1,24)):=by
 and_intros<;>kernel_rfl
@[simp] theorem tb68_6:(makeT prog 342=some (1,24,[.slice none 0 0]))/\(zeroT prog 342=some [.slice none 0 0]):=by
 and_intros<;>kernel_rfl
variable {P:Program}
attribute [simp] buildT zrow strA stkA Own.live nilCmp FReg preF FOne FSkip Gd.tt Gd.tf Gd.ft Gd.ff fN fR fW fA AS.ev putT_tl putT_none tlArgs tl_cons tl_nil ofVal ofVal1 lenF idxF sliceF boundF rawOf rawsOf binF unF loadD loadA lb_at lk_cons lk_nil upd_lb yieldA AV.cells? AV.elems? toDs AV.toD rowsOf fillA setCells FCond copySrc
@[simp] theorem FOps_nil{cx:Cx}{ops:Array Oper}{dr:Bool}{K:AS->Prop}{t:Nat->AV}{b:Bxs}{k:Nat->Bool}{n:Nat}:FOps P cx ops dr [] K ⟨t,b,k,n⟩=K ⟨t,b,k,n⟩:=by simp only[FOps]
@[simp] theorem FOps_cons{cx:Cx}{ops:Array Oper}{dr:Bool}{o:Oper}{r:List Oper}{K:AS->Prop}{t:Nat->AV}{b:Bxs}{k:Nat->Bool}{n:Nat}:FOps P cx ops dr (o::r) K ⟨t,b,k,n⟩=match o.guard with
  | none=>FOne P cx dr o (FOps P cx ops dr r K) ⟨t,b,k,n⟩
  | some (j,want)=>match yieldA ops ⟨t,b,k,n⟩ j with
   | some (some c)=>Gd c want (FOne P cx dr o (FOps P cx ops dr r K)) (FSkip o.dst (FOps P cx ops dr r K)) ⟨t,b,k,n⟩
   | some none=>FSkip o.dst (FOps P cx ops dr r K) ⟨t,b,k,n⟩
   | none=>False:=by
 simp only[FOps];all_goals rfl
@[simp] theorem live_full{tok:Nat->Bool}:Own.full.liveP tok=True:=rfl
@[simp] theorem kill_full{tok:Nat->Bool}:Own.full.kill tok=tok:=rfl
@[simp] theorem live_tok{tok:Nat->Bool}{t:Nat}:(Own.tok t).liveP tok=(tok t=true):=rfl
@[simp] theorem kill_tok{tok:Nat->Bool}{t:Nat}:(Own.tok t).kill tok=upd tok t false:=rfl
def ToL(p q:Nat->Prop)(fz:Option (Nat × Nat × List (List D)))(l:List (Nat × AV)):List (Nat × AV)->Prop
 | []=>True
 | (i,v)::r=>To p q fz (tl l i) v/\ToL p q fz l r
theorem ToL.all{p q:Nat->Prop}{fz:Option (Nat × Nat × List (List D))}{l:List (Nat × AV)}:∀{l':List (Nat × AV)},ToL p q fz l l'->∀t,To p q fz (tl l t) (tl l' t)
 | [],_,t=>.bot
 | (i,v)::r,h,t=>by
  rw[tl_cons];split
  .rename_i e;subst e;exact h.1
  .exact ToL.all h.2 t
def BoxL(p q:Nat->Prop)(fz:Option (Nat × Nat × List (List D)))(loc:List (Nat × List (List AV))):List (Nat × List (List AV))->Prop
 | []=>True
 | (s,rows')::r=>(∃rows,lk loc s=some rows/\RowsTo p q fz rows rows')/\BoxL p q fz loc r
theorem BoxL.all{p q:Nat->Prop}{fz:Option (Nat × Nat × List (List D))}{loc:List (Nat × List (List AV))}:∀{loc':List (Nat × List (List AV))},BoxL p q fz loc loc'->∀s rows',lk loc' s=some rows'->∃rows,lk loc s=some rows/\RowsTo p q fz rows rows'
 | [],_,s,rows',h=>by simp[lk] at h
 | (i,v)::r,h,s,rows',hs=>by
  rw[lk_cons] at hs;split at hs
  .rename_i e;subst e;cases hs;exact h.1
  .exact BoxL.all h.2 s rows' hs
theorem Weaks.mk'{cx:Cx}{nt0 nt:Nat}{l l':List (Nat × AV)}{out:Bxs}{loc loc':List (Nat × List (List AV))}{tok:Nat->Bool}(hnt:nt0<=nt)(hl:ToL (fun k=>lb cx.base out loc' k≠none) (fun _=>True) none l l')(hb:BoxL (fun k=>lb cx.base out loc' k≠none) (fun _=>True) none loc loc')(ho:∀k rows,k<cx.base->out k=some rows->cx.B0 k=some rows∨∀r∈rows,∀x∈r,OkIn (fun k=>lb cx.base out loc' k≠none) (fun _=>True) x):
  Weaks cx nt0 ⟨tl l,lb cx.base out loc,tok,nt⟩ ⟨tl l',lb cx.base out loc',tok,nt⟩:=by
 refine⟨out,loc,loc',none,rfl,rfl,nr _,hnt,fun t h=>⟨h,.inl rfl⟩,?_,?_,(fun _ _ _ h=>by cases h),?_⟩
 .simp only[true_or,Option.map_none];exact hl.all
 .simp only[true_or,Option.map_none];exact hb.all
 .simp only[true_or];exact ho
theorem wM{cx:Cx}{nt0 nt:Nat}{l l':List (Nat × AV)}{out:Bxs}{loc loc':List (Nat × List (List AV))}{tok:Nat->Bool}(hnt:nt0<=nt)(ho:out=cx.B0)(hl:ToL (fun k=>lb cx.base out loc' k≠none) (fun _=>True) none l l')(hb:BoxL (fun k=>lb cx.base out loc' k≠none) (fun _=>True) none loc loc'):
  Weaks cx nt0 ⟨tl l,lb cx.base out loc,tok,nt⟩ ⟨tl l',lb cx.base out loc',tok,nt⟩ :=
 Weaks.mk' hnt hl hb fun k rows _ h=>.inl (by rw[<-ho];exact h)
theorem Fin.data{cx:Cx}{nt0 nt:Nat}{rs:List ResultVar}{l:List (Nat × AV)}{out:Bxs}{loc:List (Nat × List (List AV))}{tok mtok:Nat->Bool}{vs:List AV}{av:AV}(hres:resAs P ⟨tl l,lb cx.base out loc,tok,nt⟩ rs=some vs)(Hb:lb cx.base out []=out)(ho:out=cx.B0)(hm:∀t,mtok t=true->t<nt0)(Ht:∀t,mtok t=true->tok t=true)(hnt:nt0<=nt)(hto:To (fun k=>lb cx.base out [] k≠none) (fun t=>nt0=nt∨t<nt0) none (packA vs) av):Fin P cx nt0 rs (fun v' m'=>v'=av/\m'=⟨out,cx.base,mtok,nt0⟩) ⟨tl l,lb cx.base out loc,tok,nt⟩ :=
 ⟨vs,out,loc,none,av,⟨out,cx.base,mtok,nt0⟩,hres,⟨rfl,rfl,hnt,nr _,fun t h=>⟨Ht t h,.inr (hm t h)⟩,fun _=>.bot,fun s rows' h=>by simp[lk] at h,(fun _ _ _ h=>by cases h),
  fun k rows _ h=>.inl (by rw[<-ho];exact h)⟩,Hb.symm,rfl,by simpa using hto,rfl,rfl⟩
section
variable {p q:Nat->Prop} {fz:Option (Nat × Nat × List (List D))}
@[simp] theorem to_bot(x:AV):To p q fz x .bot:=.bot
@[simp] theorem to_d(x:D):To p q fz (.d x) (.d x):=.same .d
@[simp] theorem to_data(sz:Nat)(es:List (List D))(o:Own):To p q fz (.osl sz es o) (.d (.sl sz es)):=.data
@[simp] theorem to_osl(sz:Nat)(es:List (List D))(o:Own):To p (fun _=>True) fz (.osl sz es o) (.osl sz es o):=.same (.osl fun _ _=>trivial)
theorem to_snoc{sz:Nat}{es:List (List D)}{r r':List D}(h:DS1 r r')(o:Own):To p (fun _=>True) fz (.osl sz (es++[r]) o) (.osl sz (es++[r']) o):=.otok ((DSs.snoc h).sub sz) fun _ _=>trivial
theorem dsub_one{sz:Nat}{r r':List D}(h:DS1 r r'):DSub (.sl sz [r]) (.sl sz [r']):=(DSs.one h).sub sz
@[simp] theorem to_full(sz:Nat)(es:List (List D)):To p q fz (.osl sz es .full) (.osl sz es .full):=.same (.osl fun _ h=>by cases h)
@[simp] theorem to_nil0(sz sz':Nat)(h:sz'=0->sz=0):To p q fz (.osl sz [] .full) (.osl sz' [] .full):=.nil h rfl
@[simp] theorem to_emp0(sz sz':Nat)(o:Own):To p q fz (.osl sz [] o) (.d (.sl sz' [])):=.odsub .emp
@[simp] theorem to_emp1(sz sz':Nat):To p q fz (.d (.sl sz [])) (.d (.sl sz' [])):=.dsub .emp
@[simp] theorem to_emp2(sz sz':Nat):To p q fz (.osl 1 [[.sl sz []]] .full) (.osl 1 [[.sl sz' []]] .full) :=
 .osub (fun e=>by cases e) (.sl rfl (fun i h1 h2=>by simp at h1;subst h1;rfl) (fun i h1 h2 j g1 g2=>by simp at h1;subst h1;simp at g1;subst g1;exact .emp))
@[simp] theorem to_emp3(sz sz':Nat)(o:Own):To p q fz (.osl 1 [[.sl sz []]] o) (.d (.sl 1 [[.sl sz' []]])) :=
 .odsub (.sl rfl (fun i h1 h2=>by simp at h1;subst h1;rfl) (fun i h1 h2 j g1 g2=>by simp at h1;subst h1;simp at g1;subst g1;exact .emp))
@[simp] theorem to_cptr(cs:List D)(off:Nat):To p q fz (.cptr cs off) (.cptr cs off):=.same .cptr
theorem to_ptr{k i off:Nat}(h:p k):To p q fz (.ptr k i off) (.ptr k i off):=.same (.ptr h)
@[simp] theorem to_ptr_lb{base s i off:Nat}{out:Bxs}{loc:List (Nat × List (List AV))}:To (fun k=>lb base out loc k≠none) q fz (.ptr (base+s) i off) (.ptr (base+s) i off)↔lk loc s≠none:=by
 constructor
 .intro h;cases h with
  | same h=>cases h with|ptr h=>rw[lb_at] at h;exact h
 .intro h;exact to_ptr (by rw[lb_at];exact h)
@[simp] theorem to_buf(E:TypeId)(t:Nat)(es:List (List D)):To p (fun _=>True) fz (.buf E t es) (.buf E t es):=.same (.buf trivial)
@[simp] theorem to_here_lb{base s:Nat}{T:TypeId}{out:Bxs}{loc:List (Nat × List (List AV))}:To (fun k=>lb base out loc k≠none) q fz (.here (base+s) T) (.here (base+s) T)↔lk loc s≠none:=by
 constructor
 .intro h;cases h with
  | same h=>cases h with|here h=>rw[lb_at] at h;exact h
 .intro h;exact .same (.here (by rw[lb_at];exact h))
@[simp] theorem to_msl_lb{base s off n sz:Nat}{out:Bxs}{loc:List (Nat × List (List AV))}:To (fun k=>lb base out loc k≠none) q fz (.msl (base+s) off n sz) (.msl (base+s) off n sz)↔lk loc s≠none:=by
 constructor
 .intro h;cases h with
  | same h=>cases h with|msl h=>rw[lb_at] at h;exact h
 .intro h;exact .same (.msl (by rw[lb_at];exact h))
@[simp] theorem okIn_d(x:D):OkIn p q (.d x):=.d
@[simp] theorem okIn_bot:OkIn p q .bot:=.bot
@[simp] theorem okIn_osl(sz:Nat)(es:List (List D))(o:Own):OkIn p (fun _=>True) (.osl sz es o):=.osl fun _ _=>trivial
@[simp] theorem okIn_ptr{k i off:Nat}:OkIn p q (.ptr k i off)↔p k:=⟨fun h=>by cases h;assumption,.ptr⟩
@[simp] theorem okIn_agg{cs:List AV}:OkIn p q (.agg cs)↔∀c∈cs,OkIn p q c:=⟨fun h=>by cases h;assumption,.agg⟩
@[simp] theorem okIn_fn{f:Fn}{cs:List AV}:OkIn p q (.fn f cs)↔∀c∈cs,OkIn p q c:=⟨fun h=>by cases h;assumption,.fn⟩
@[simp] theorem to_tup_nil:To p q fz (.tup []) (.tup []):=.tup rfl fun i h=>by simp at h
theorem to_cons_agg{a b:AV}{as1 bs:List AV}(h:To p q fz a b)(k:To p q fz (.agg as1) (.agg bs)):To p q fz (.agg (a::as1)) (.agg (b::bs)):=by
 cases k with
 | same k =>
  refine .agg rfl fun i h1 h2=>?_
  cases i with
  | zero=>exact h
  | succ i=>exact .same ((okIn_agg.1 k) _ (List.getElem_mem _))
 | agg hl k =>
  refine .agg (by simp[hl]) fun i h1 h2=>?_
  cases i with
  | zero=>exact h
  | succ i=>exact k i (by simpa using h1) (by simpa using h2)
theorem to_cons_tup{a b:AV}{as1 bs:List AV}(h:To p q fz a b)(k:To p q fz (.tup as1) (.tup bs)):To p q fz (.tup (a::as1)) (.tup (b::bs)):=by
 cases k with
 | same k =>
  refine .tup rfl fun i h1 h2=>?_
  cases i with
  | zero=>exact h
  | succ i=>cases k with|tup k=>exact .same (k _ (List.getElem_mem _))
 | tup hl k =>
  refine .tup (by simp[hl]) fun i h1 h2=>?_
  cases i with
  | zero=>exact h
  | succ i=>exact k i (by simpa using h1) (by simpa using h2)
@[simp] theorem to_cons_agg_iff{a b:AV}{as1 bs:List AV}:To p q fz (.agg (a::as1)) (.agg (b::bs))↔To p q fz a b/\To p q fz (.agg as1) (.agg bs):=by
 constructor
 .intro h;cases h with
  | same h=>have:=okIn_agg.1 h;exact⟨.same (this _ (by simp)),.same (okIn_agg.2 fun c hc=>this c (by simp[hc]))⟩
  | agg hl h=>exact⟨h 0 (by simp) (by simp),.agg (by simpa using hl) fun i h1 h2=>h (i+1) (by simpa using h1) (by simpa using h2)⟩
 .exact fun ⟨h,k⟩=>to_cons_agg h k
@[simp] theorem to_cons_tup_iff{a b:AV}{as1 bs:List AV}:To p q fz (.tup (a::as1)) (.tup (b::bs))↔To p q fz a b/\To p q fz (.tup as1) (.tup bs):=by
 constructor
 .intro h;cases h with
  | same h =>
   cases h with
   | tup this=>exact⟨.same (this _ (by simp)),.same (.tup fun c hc=>this c (by simp[hc]))⟩
  | tup hl h=>exact⟨h 0 (by simp) (by simp),.tup (by simpa using hl) fun i h1 h2=>h (i+1) (by simpa using h1) (by simpa using h2)⟩
 .exact fun ⟨h,k⟩=>to_cons_tup h k
@[simp] theorem to_nil_agg:To p q fz (.agg []) (.agg []):=.agg rfl fun i h=>by simp at h
end
def SideD(t:List (Nat × AV)):List Oper->Prop
 | []=>True
 | o::r=>(match o.dst with|some d=>NP (tl t d)|none=>True)/\SideD t r
theorem SideD.all{t:List (Nat × AV)}{l:List Oper}(h:SideD t l):∀o∈l,∀d,o.dst=some d->NP (tl t d):=by
 induction l with
 | nil=>intro o ho;simp at ho
 | cons o r ih =>
  intro x hx d hd;unfold SideD at h;rcases List.mem_cons.1 hx with e|hx
  .subst e;have:=h.1
   rw[hd] at this;exact this
  .exact ih h.2 x hx d hd
theorem Side.of{ops:Array Oper}{l:List (Nat × AV)}{b:Bxs}{k:Nat->Bool}{n:Nat}(h:SideD l ops.toList):Side ops ⟨tl l,b,k,n⟩ :=
 fun o ho d hd=>h.all o ho d hd
attribute [simp] SideD NP NK ptrs Far Far1
theorem sL{cx:Cx}{nt0:Nat}{K:Exit->AS->Prop}{r:List CI}{S:AS}{c:Code}{α:Type}(T:α->AS)(inv:α->Prop)(μ:α->Nat)(a0:α)(h0:inv a0)(hw:Weaks cx nt0 S (T a0))(hstep:∀a S,inv a->S=T a->AL P cx nt0 (fun e S'=>match e with
   | .normal=>∃a',inv a'/\μ a'<μ a/\Weaks cx nt0 S' (T a')
   | e=>AU P cx nt0 K r e S') [.c c] S):AL P cx nt0 K (.c (.loop c)::r) S:=by
 refine AL.loop (fun n S=>∃a,inv a/\n=μ a/\S=T a) ⟨_,_,hw,a0,h0,rfl,rfl⟩ ?_;rintro n S ⟨a,ha,rfl,hS⟩;have:=AL.start (hstep a S ha hS)
 simp only[AL];refine this.mono fun e S' h=>?_
 cases e with
 | normal =>
  obtain⟨a',h1,h2,h3⟩:=h;exact⟨μ a',T a',h2,h3,a',h1,rfl,rfl⟩
 | _=>simpa only[AU] using h
structure TK (mtok:Tks) (nt0:Nat) (tok:Tks) (nt:Nat) (os:List Own):Prop where
 old:∀t,mtok t=true->tok t=true
 lt:∀t,mtok t=true->t<nt0
 le:nt0<=nt
 own:∀o∈os,∀t,o=.tok t->tok t=true/\nt0<=t/\t<nt
 ne:os.Pairwise fun a b=>∀t,a=.tok t->b≠.tok t
theorem TK.start{mtok:Nat->Bool}{nt0:Nat}(h:∀t,mtok t=true->t<nt0):TK mtok nt0 mtok nt0 []:=⟨fun _ h=>h,h,nr _,by simp,.nil⟩
theorem TK.full{mtok:Nat->Bool}{nt0:Nat}{tok:Nat->Bool}{nt:Nat}{os:List Own}(h:TK mtok nt0 tok nt os):TK mtok nt0 tok nt (.full::os) :=
 ⟨h.old,h.lt,h.le,fun o ho t e=>by
  rcases List.mem_cons.1 ho with rfl|ho
  .cases e
  .exact h.own o ho t e,.cons (fun b _ t e=>by cases e) h.ne⟩
theorem TK.live{mtok:Nat->Bool}{nt0:Nat}{tok:Nat->Bool}{nt:Nat}{o:Own}{os:List Own}(h:TK mtok nt0 tok nt (o::os)):o.liveP tok:=by
 cases o with
 | full=>trivial
 | tok t=>exact(h.own _ (by simp) t rfl).1
theorem TK.tail{mtok:Nat->Bool}{nt0:Nat}{tok:Nat->Bool}{nt:Nat}{o:Own}{os:List Own}(h:TK mtok nt0 tok nt (o::os)):TK mtok nt0 tok nt os :=
 ⟨h.old,h.lt,h.le,fun o' ho=>h.own o' (by simp[ho]),(List.pairwise_cons.1 h.ne).2⟩
theorem TK.swap{mtok:Nat->Bool}{nt0:Nat}{tok:Nat->Bool}{nt:Nat}{a b:Own}{os:List Own}(h:TK mtok nt0 tok nt (a::b::os)):TK mtok nt0 tok nt (b::a::os):=by
 have h1:=List.pairwise_cons.1 h.ne;have h2:=List.pairwise_cons.1 h1.2;refine⟨h.old,h.lt,h.le,fun o' ho=>h.own o' (by simp at ho ⊢;rcases ho with h|h|h<;>simp[h]),?_⟩;refine List.pairwise_cons.2 ⟨fun c hc t e=>?_,List.pairwise_cons.2 ⟨fun c hc=>h1.1 c (by simp[hc]),h2.2⟩⟩;rcases List.mem_cons.1 hc with rfl|hc
 .intro e';exact h1.1 b (by simp) t e' e
 .exact h2.1 c hc t e
theorem TK.app{mtok:Nat->Bool}{nt0:Nat}{tok:Nat->Bool}{nt:Nat}{o:Own}{os:List Own}(h:TK mtok nt0 tok nt (o::os)):TK mtok nt0 (upd (o.kill tok) nt true) (nt+1) (.tok nt::os):=by
 have hp:=List.pairwise_cons.1 h.ne;have key:∀t,t<nt->(∀t',o=.tok t'->t≠t')->(upd (o.kill tok) nt true) t=tok t:=by
  intro t ht hne;rw[uO _ _ (by omega)];cases o with
  | full=>rfl
  | tok t'=>simp only[Own.kill];rw[uO _ _ (hne t' rfl)]
 have hle:=h.le;refine⟨fun t ht=>?_,h.lt,by omega,fun o' ho t e=>?_,?_⟩
 .have hlt:=h.lt t ht;rw[key t (by omega) (fun t' e=>by have:=(h.own o (by simp) t' e).2.1;omega)];exact h.old t ht
 .rcases List.mem_cons.1 ho with rfl|ho
  .cases e;exact⟨by rw[uS],hle,by omega⟩
  .obtain⟨h1,h2,h3⟩:=h.own o' (by simp[ho]) t e;refine⟨?_,h2,by omega⟩;rw[key t h3 (fun t' e'=>fun e2=>by subst e2;exact hp.1 o' ho t e' e)];exact h1
 .refine List.pairwise_cons.2 ⟨fun b hb t e e'=>?_,hp.2⟩;cases e;have:=(h.own b (by simp[hb]) _ e').2.2
  omega
theorem Stop.of_b{cx:Cx}{fid:FuncId}{args:List AV}{S:AS}{dst:Option Tmp}{K:AS->Prop}{v:AV}{tok':Nat->Bool}{nt':Nat}(h:ACalls P fid args ⟨S.box,cx.nb,S.tok,S.nt⟩ fun v' m'=>v'=v/\m'=⟨S.box,cx.nb,tok',nt'⟩)(hk:K ⟨putT S.tmps dst v,S.box,tok',nt'⟩):Stop P cx false fid args S dst K:=by
 refine h.mono ?_;rintro v' m' ⟨rfl,rfl⟩;exact hk
theorem key_lt{nb k:Nat}{box:Bxs}{r:List (List AV)}(Hb:lb nb box []=box)(h:box k=some r):k<nb:=by
 rcases Nat.lt_or_ge k nb with h1|h1
 .exact h1
 .rw[<-Hb] at h;have:¬k<nb:=by omega
  simp[lb,lk,this] at h
abbrev ints(xs:List Int):D:=.sl 1 (xs.map fun n=>[D.raw (.int .i64 n)])
abbrev I(n:Int):AV:=.d (.raw (.int .i64 n))
abbrev B(b:Bool):AV:=.d (.raw (.bool b))
structure E where
 ty:Int
 fr:Int
 to:Int
 deriving DecidableEq,Inhabited
abbrev E.cells(e:E):List D:=[.raw (.int .i64 e.ty),.raw (.int .i64 e.fr),.raw (.int .i64 e.to)]
abbrev edges(es:List E):D:=.sl 3 (es.map E.cells)
structure Gr where
 nodes:List Int
 edges:List E
 deriving DecidableEq,Inhabited
structure Mo where
 nodes:List Int
 edges:List Int
 deriving DecidableEq,Inhabited
abbrev Gr.av(g:Gr):AV:=.agg [.d (ints g.nodes),.d (AM.edges g.edges)]
abbrev Mo.av(m:Mo):AV:=.agg [.d (ints m.nodes),.d (ints m.edges)]
@[simp] theorem map_at{α β:Type}(f:α->β)(l:List α)(i:Nat)(d:β)(h:i<l.length):((l.map f)[i]?).getD d=f l[i]:=by simp[h]
class Nrm (l:List CI) (l':outParam (List CI)):Prop where
 h:∀{P:Program} {cx:Cx} {nt0:Nat} {K:Exit->AS->Prop} {S:AS},AL P cx nt0 K l' S->AL P cx nt0 K l S
instance (priority:=low) Nrm.base {l:List CI}:Nrm l l:=⟨id⟩
instance Nrm.seq {a b:Code} {r l':List CI} [h:Nrm (.c a::.c b::r) l']:Nrm (.c (.seq a b)::r) l':=⟨fun x=>AL.seq (h.h x)⟩
instance Nrm.block {id:Nat} {c:Code} {r l':List CI} [h:Nrm (.c c::.blk id::r) l']:Nrm (.c (.block id c)::r) l':=⟨fun x=>AL.block (h.h x)⟩
instance Nrm.skip {r l':List CI} [h:Nrm r l']:Nrm (.c .skip::r) l':=⟨fun x=>AL.skip (h.h x)⟩
instance Nrm.blk {id:Nat} {r l':List CI} [h:Nrm r l']:Nrm (.blk id::r) l':=⟨fun x=>AL.blk (h.h x)⟩
section
variable {P:Program} {cx:Cx} {nt0:Nat} {K:Exit->AS->Prop} {S:AS} {l l' r:List CI}
abbrev DC(f:FuncId)(a:List AV)(v:AV):Prop:=∀(tok:Tks) (nt:Nat),DCall prog f a tok nt v tok nt
theorem sN[h:Nrm l l'](k:AL P cx nt0 K l' S):AL P cx nt0 K l S:=h.h k
theorem sR{id:Nat}{ops:Array Oper}{draw:Bool}[h:Nrm l (.c (.region id ops draw)::r)](k:FReg prog cx ops draw (AL prog cx nt0 K r) S)(hnb:cx.base+cx.n<=cx.nb:=by exact nr _)(hok:regionOk cx.n ops draw=true:=by kernel_rfl):AL prog cx nt0 K l S :=
 h.h (AL.region follows_Tryz hnb hok k)
theorem sC{x:Operand}{a b:Code}[h:Nrm l (.c (.cond x a b)::r)](k:FCond P cx nt0 K r a b S (S.ev x)):AL P cx nt0 K l S:=h.h (AL.cond k)
theorem sT[h:Nrm l (.c .ret::r)](k:K .ret S):AL P cx nt0 K l S:=h.h (AL.ret k)
theorem sE[h:Nrm l []](k:K .normal S):AL P cx nt0 K l S:=h.h (AL.nil k)
theorem sX{id:Nat}[h:Nrm l (.c (.exit id)::r)](k:AU P cx nt0 K r (.exit id) S):AL P cx nt0 K l S:=h.h (AL.exit k)
theorem sF{nt:Nat}{rs:List ResultVar}{l:List (Nat × AV)}{out:Bxs}{loc:List (Nat × List (List AV))}{tok mtok:Nat->Bool}{vs:List AV}{av:AV}(Hb:lb cx.base out []=out)(hm:∀t,mtok t=true->t<nt0)(Ht:∀t,mtok t=true->tok t=true)(hnt:nt0<=nt)(hto:To (fun k=>lb cx.base out [] k≠none) (fun t=>nt0=nt∨t<nt0) none (packA vs) av)(hres:resAs P ⟨tl l,lb cx.base out loc,tok,nt⟩ rs=some vs:=by (simp[resAs,resA];rfl))(ho:out=cx.B0:=by rfl):Fin P cx nt0 rs (fun v' m'=>v'=av/\m'=⟨out,cx.base,mtok,nt0⟩) ⟨tl l,lb cx.base out loc,tok,nt⟩ :=
 Fin.data hres Hb ho hm Ht hnt hto
end
theorem sW{i:Nat}(h:i<9223372036854775807):IntKind.i64.wrap (↑i+1)=((i+1:Nat):Int):=by rw[wrap_in (by omega) (by omega)];rfl
theorem sB{f:FuncId}{fn:Func}{c:Code}{args:List AV}{m:AMem}{Q:AV->AMem->Prop}{k:Nat}(hfn:prog.funcs[f]?=some fn)(hk:fn.ntmps=k)(h:lb m.nb m.box []=m.box->(∀t,m.tok t=true->t<m.nt)->AT prog ⟨m.nb,m.nb+fn.ntmps,fn.ntmps,m.box⟩ m.nt c ⟨tl (tlArgs 0 args),lb m.nb m.box [],m.tok,m.nt⟩
   fun e S=>(e=.normal∨e=.ret)/\Fin prog ⟨m.nb,m.nb+fn.ntmps,fn.ntmps,m.box⟩ m.nt fn.results.toList Q S)(hb:fn.body=some c:=by rfl)(hname:(fn.name == "runtime.NumGoroutine")=false:=by kernel_rfl)(hl:args.length<=k:=by simp):ACalls prog f args m Q :=
 ACalls.of_body hfn hb hname follows_Tryz rfl (hk ▸ hl) h
theorem sI{f:FuncId}{fn:Func}{c:Code}{args:List AV}{box:Nat->Option (List (List AV))}{nb:Nat}{tok:Nat->Bool}{nt:Nat}{Q:AV->AMem->Prop}{k:Nat}(hfn:prog.funcs[f]?=some fn)(hk:fn.ntmps=k)(h:lb nb box []=box->(∀t,tok t=true->t<nt)->AL prog ⟨nb,nb+k,k,box⟩ nt (fun e S=>(e=.normal∨e=.ret)/\Fin prog ⟨nb,nb+k,k,box⟩ nt fn.results.toList Q S) [.c c] ⟨tl (tlArgs 0 args),lb nb box [],tok,nt⟩)(hb:fn.body=some c:=by rfl)(hname:(fn.name == "runtime.NumGoroutine")=false:=by kernel_rfl)(hl:args.length<=k:=by simp):ACalls prog f args ⟨box,nb,tok,nt⟩ Q:=by
 subst hk;exact sB (m:=⟨box,nb,tok,nt⟩) hfn rfl (fun h1 h2=>AL.start (h h1 h2)) hb hname hl
theorem sG{P:Program}{cx:Cx}{nt0:Nat}{rs:List ResultVar}{l:List (Nat × AV)}{out:Nat->Option (List (List AV))}{loc:List (Nat × List (List AV))}{tok mtok:Nat->Bool}{vs:List AV}{av:AV}{nt:Nat}(Hb:lb cx.base out []=out)(hm:∀t,mtok t=true->t<nt0)(Ht:∀t,mtok t=true->tok t=true)(hnt:nt0<=nt)(hto:To (fun k=>lb cx.base out [] k≠none) (fun t=>nt0=nt∨t<nt0) none (packA vs) av)(hres:resAs P ⟨tl l,lb cx.base out loc,tok,nt⟩ rs=some vs:=by (simp[resAs,resA];rfl))(ho:out=cx.B0:=by rfl):
 (Exit.ret=Exit.normal∨Exit.ret=Exit.ret)/\Fin P cx nt0 rs (fun v' m'=>v'=av/\m'=⟨out,cx.base,mtok,nt0⟩) ⟨tl l,lb cx.base out loc,tok,nt⟩:=⟨.inr rfl,sF Hb hm Ht hnt hto hres ho⟩
theorem sH{P:Program}{cx:Cx}{nt0:Nat}{rs:List ResultVar}{l:List (Nat × AV)}{out:Nat->Option (List (List AV))}{loc:List (Nat × List (List AV))}{tok:Nat->Bool}{vs:List AV}{av:AV}(Hb:lb cx.base out []=out)(hm:∀t,tok t=true->t<nt0)(hto:To (fun k=>lb cx.base out [] k≠none) (fun t=>nt0=nt0∨t<nt0) none (packA vs) av)(hres:resAs P ⟨tl l,lb cx.base out loc,tok,nt0⟩ rs=some vs:=by (simp[resAs,resA];rfl))(ho:out=cx.B0:=by rfl):
 (Exit.ret=Exit.normal∨Exit.ret=Exit.ret)/\Fin P cx nt0 rs (fun v' m'=>v'=av/\m'=⟨out,cx.base,tok,nt0⟩) ⟨tl l,lb cx.base out loc,tok,nt0⟩:=sG Hb hm (fun _ h=>h) (nr _) hto hres ho
theorem wkA{cx:Cx}{nt0 nt:Nat}{l l':List (Nat × AV)}{out:Nat->Option (List (List AV))}{loc loc':List (Nat × List (List AV))}{tok:Nat->Bool}(hl:ToL (fun k=>lb cx.base out loc' k≠none) (fun _=>True) none l l':=by simp[ToL,lk,lb_at])(hb:BoxL (fun k=>lb cx.base out loc' k≠none) (fun _=>True) none loc loc':=by simp[BoxL,lk])(hnt:nt0<=nt:=by exact nr _)(ho:out=cx.B0:=by rfl):Weaks cx nt0 ⟨tl l,lb cx.base out loc,tok,nt⟩ ⟨tl l',lb cx.base out loc',tok,nt⟩:=wM hnt ho hl hb
def withinB(n most:Int):Bool:=decide (0<=n)&&decide (n<=most)
def fitsB(e:E)(nodes:Int):Bool:=withinB e.ty 99&&(withinB e.fr (nodes-1)&&withinB e.to (nodes-1))
theorem within_c(n most:Int):DC 172 [I n,I most] (B (withinB n most)):=by
 intro tok nt box nb;refine sI func172 ntmps172 fun Hb Ht=>?_
 refine sR ?_;simp;refine sR ?_;simp;first|refine Gd.dt (fun h=>?_) (fun h=>?_)|refine Gd.df (fun h=>?_) (fun h=>?_)|refine Gd.t (fun h=>?_) (fun h=>?_)|refine Gd.f (fun h=>?_) (fun h=>?_)
 .simp[h];refine sT (sH Hb Ht ?_);simp[withinB,h]
 .simp[h];refine sT (sH Hb Ht ?_);simp[withinB,h]
theorem fits_c(e:E)(nodes:Int)(h0:0<=nodes)(h1:nodes<=1000000):DC 174 [.agg [I e.ty,I e.fr,I e.to],I nodes] (B (fitsB e nodes)):=by
 intro tok nt box nb;have hw:IntKind.i64.wrap (nodes-1)=nodes-1:=wrap_in (by omega) (by omega)
 refine sI func174 ntmps174 fun Hb Ht=>?_
 refine sR ?_;simp;refine sR ?_;simp[hw];refine sD (within_c _ _ _ _) ?_;simp[hw];first|refine Gd.dt (fun h2=>?_) (fun h2=>?_)|refine Gd.df (fun h2=>?_) (fun h2=>?_)|refine Gd.t (fun h2=>?_) (fun h2=>?_)|refine Gd.f (fun h2=>?_) (fun h2=>?_)
 .simp[hw,h2];refine sD (within_c _ _ _ _) ?_;simp[hw,h2];first|refine Gd.dt (fun h3=>?_) (fun h3=>?_)|refine Gd.df (fun h3=>?_) (fun h3=>?_)|refine Gd.t (fun h3=>?_) (fun h3=>?_)|refine Gd.f (fun h3=>?_) (fun h3=>?_)
  .simp[hw,h3];refine sD (within_c _ _ _ _) ?_;simp[hw,h2,h3];refine sT (sH Hb Ht ?_);simp[fitsB,h2,h3]
  .simp[h3];refine sT (sH Hb Ht ?_);simp[fitsB,h2,h3]
 .simp[h2];refine sT (sH Hb Ht ?_);simp[fitsB,h2]
theorem valid1_c(n:Int):DC 171 [I n] (B (!withinB n 99)):=by
 intro tok nt box nb;refine sI func171 ntmps171 fun Hb Ht=>?_
 refine sR ?_;simp;refine sR ?_;simp;refine sD (within_c _ _ _ _) ?_;simp;refine sT (sH Hb Ht ?_);simp
theorem valid2_c(e:E)(g:Gr)(hg:g.nodes.length<=1000000)(tok:Tks)(nt:Nat)(box:Bxs)(nb k:Nat)(hk:box k=some [[.d (ints g.nodes),.d (AM.edges g.edges)]]):
  ACalls prog 173 [.agg [I e.ty,I e.fr,I e.to],.ptr k 0 0] ⟨box,nb,tok,nt⟩ fun v m=>v=B (!fitsB e g.nodes.length)/\m=⟨box,nb,tok,nt⟩:=by
 refine sI func173 ntmps173 fun Hb Ht=>?_
 have hkn:=key_lt Hb hk;refine sR ?_;simp;refine sR ?_;simp[lO hkn,hk];refine sD (fits_c e g.nodes.length (by omega) (by omega) _ _) ?_;simp;refine sT (sH Hb Ht ?_);simp
variable {P:Program}
def RowTo(p q:Nat->Prop)(fz:Option (Nat × Nat × List (List D)))(r r':List AV):Prop :=
 r.length=r'.length/\∀j (g1:j<r.length) (g2:j<r'.length),To p q fz r[j] r'[j]
section
variable {p q:Nat->Prop} {fz:Option (Nat × Nat × List (List D))}
@[simp] theorem rowTo_nil:RowTo p q fz [] []:=⟨rfl,fun j h=>by simp at h⟩
@[simp] theorem rowTo_cons{x y:AV}{xs ys:List AV}:RowTo p q fz (x::xs) (y::ys)↔To p q fz x y/\RowTo p q fz xs ys:=by
 constructor
 .rintro⟨h1,h2⟩;refine⟨h2 0 (by simp) (by simp),by simpa using h1,fun j g1 g2=>?_⟩;exact h2 (j+1) (by simpa using g1) (by simpa using g2)
 .rintro⟨h1,h2,h3⟩;refine⟨by simp[h2],fun j g1 g2=>?_⟩;cases j with
  | zero=>exact h1
  | succ j=>exact h3 j (by simpa using g1) (by simpa using g2)
@[simp] theorem rowsTo_nil:RowsTo p q fz [] []:=⟨rfl,fun j h=>by simp at h⟩
@[simp] theorem rowsTo_cons{x y:List AV}{xs ys:List (List AV)}:RowsTo p q fz (x::xs) (y::ys)↔RowTo p q fz x y/\RowsTo p q fz xs ys:=by
 constructor
 .rintro⟨h1,h2⟩;refine⟨h2 0 (by simp) (by simp),by simpa using h1,fun j g1 g2=>?_⟩;exact h2 (j+1) (by simpa using g1) (by simpa using g2)
 .rintro⟨h1,h2,h3⟩;refine⟨by simp[h2],fun j g1 g2=>?_⟩;cases j with
  | zero=>exact h1
  | succ j=>exact h3 j (by simpa using g1) (by simpa using g2)
theorem rowsTo_same{rows:List (List AV)}(h:∀r∈rows,∀x∈r,OkIn p q x):RowsTo p q fz rows rows :=
 ⟨rfl,fun i h1 h2=>⟨rfl,fun j g1 g2=>.same (h _ (List.getElem_mem _) _ (List.getElem_mem _))⟩⟩
end
def rowsD(es:List (List D)):List (List AV):=es.map fun e=>e.map AV.d
@[simp] theorem rowsD_length(es:List (List D)):(rowsD es).length=es.length:=by simp[rowsD]
@[simp] theorem rowsD_get{es:List (List D)}{i:Nat}(h:i<es.length):(rowsD es)[i]?=some ((es[i]).map AV.d):=by simp[rowsD,h]
@[simp] theorem rowsTo_D{p q:Nat->Prop}{fz:Option (Nat × Nat × List (List D))}(es:List (List D)):RowsTo p q fz (rowsD es) (rowsD es):=by
 refine rowsTo_same fun r hr x hx=>?_
 obtain⟨e,_,rfl⟩:=List.mem_map.1 hr;obtain⟨d,_,rfl⟩:=List.mem_map.1 hx;exact .d
abbrev rI(xs:List Int):List (List D):=xs.map fun n=>[D.raw (.int .i64 n)]
abbrev rE(es:List E):List (List D):=es.map E.cells
def rowsI(xs:List Int):List (List AV):=xs.map fun n=>[AV.d (.raw (.int .i64 n))]
def rowsE(xs:List E):List (List AV):=xs.map fun e=>[AV.d (.raw (.int .i64 e.ty)),AV.d (.raw (.int .i64 e.fr)),AV.d (.raw (.int .i64 e.to))]
theorem rowsI_eq(xs:List Int):rowsI xs=rowsD (rI xs):=by simp[rowsI,rowsD,rI]
theorem rowsE_eq(xs:List E):rowsE xs=rowsD (rE xs):=by simp[rowsE,rowsD,rE,E.cells]
@[simp] theorem rep_rI(n:Nat):List.replicate n [AV.d (.raw (.int .i64 0))]=rowsI (List.replicate n 0):=by simp[rowsI]
@[simp] theorem rep_rE(n:Nat):List.replicate n [AV.d (.raw (.int .i64 0)),AV.d (.raw (.int .i64 0)),AV.d (.raw (.int .i64 0))]=rowsE (List.replicate n ⟨0,0,0⟩):=by simp[rowsE]
@[simp] theorem set_rI(xs:List Int)(i:Nat)(v:Int):(rowsI xs).set i [AV.d (.raw (.int .i64 v))]=rowsI (xs.set i v):=by simp[rowsI,List.map_set]
@[simp] theorem set_rE(xs:List E)(i:Nat)(a b c:Int):(rowsE xs).set i [AV.d (.raw (.int .i64 a)),AV.d (.raw (.int .i64 b)),AV.d (.raw (.int .i64 c))]=rowsE (xs.set i ⟨a,b,c⟩):=by simp[rowsE,List.map_set]
@[simp] theorem rowsI_length(xs:List Int):(rowsI xs).length=xs.length:=by simp[rowsI]
@[simp] theorem rowsE_length(xs:List E):(rowsE xs).length=xs.length:=by simp[rowsE]
@[simp high] theorem rowsI_get{xs:List Int}{i:Nat}(h:i<xs.length):(rowsI xs)[i]?=some [AV.d (.raw (.int .i64 xs[i]))]:=by simp[rowsI,h]
@[simp high] theorem rowsE_get{xs:List E}{i:Nat}(h:i<xs.length):(rowsE xs)[i]?=some [AV.d (.raw (.int .i64 xs[i].ty)),AV.d (.raw (.int .i64 xs[i].fr)),AV.d (.raw (.int .i64 xs[i].to))]:=by simp[rowsE,h]
@[simp] theorem rowsTo_I{p q:Nat->Prop}{fz:Option (Nat × Nat × List (List D))}(xs:List Int):RowsTo p q fz (rowsI xs) (rowsI xs):=by rw[rowsI_eq];simp
@[simp] theorem rowsTo_E{p q:Nat->Prop}{fz:Option (Nat × Nat × List (List D))}(xs:List E):RowsTo p q fz (rowsE xs) (rowsE xs):=by rw[rowsE_eq];simp
theorem toDs_map:∀(e:List D),toDs (e.map AV.d)=some e
 | []=>rfl
 | d::e=>by simp[toDs,AV.toD,toDs_map e]
theorem Weaks.frz{cx:Cx}{nt0 nt:Nat}{l l':List (Nat × AV)}{out:Bxs}{loc loc':List (Nat × List (List AV))}{tok:Nat->Bool}(s sz:Nat)(es:List (List D))(hnt:nt0<=nt)(ho:out=cx.B0)(hs:lk loc s=some (rowsD es))(hs':lk loc' s=none)(hsz:∀e∈es,e.length=sz)(hl:ToL (fun k=>lb cx.base out loc' k≠none) (fun _=>True) (some (cx.base+s,sz,es)) l l')(hb:BoxL (fun k=>lb cx.base out loc' k≠none) (fun _=>True) (some (cx.base+s,sz,es)) loc loc'):
  Weaks cx nt0 ⟨tl l,lb cx.base out loc,tok,nt⟩ ⟨tl l',lb cx.base out loc',tok,nt⟩:=by
 refine⟨out,loc,loc',some (s,sz,es),rfl,rfl,nr _,hnt,fun t h=>⟨h,.inl rfl⟩,?_,?_,?_,?_⟩
 .simp only[true_or,Option.map_some];exact hl.all
 .simp only[true_or,Option.map_some];exact hb.all
 .rintro s' sz' es' h;cases h;refine⟨hs',rowsD es,hs,by simp,?_,?_⟩
  .intro r hr;obtain⟨e,he,rfl⟩:=List.mem_map.1 hr;simpa using hsz e he
  .intro i h1 h2;have:(rowsD es)[i]=(es[i]).map AV.d:=by simp[rowsD]
   rw[this];exact toDs_map _
 .intro k rows _ h;exact .inl (by rw[<-ho];exact h)
@[simp] theorem to_frz{p q:Nat->Prop}{k n sz:Nat}{es:List (List D)}(h:n=es.length):To p q (some (k,sz,es)) (.msl k 0 n sz) (.d (.sl sz es)):=by
 subst h;exact .frz rfl
theorem Fin.gen{cx:Cx}{nt0 nt nt':Nat}{rs:List ResultVar}{l:List (Nat × AV)}{out:Bxs}{loc:List (Nat × List (List AV))}{tok tok':Nat->Bool}{vs:List AV}{av:AV}(hres:resAs P ⟨tl l,lb cx.base out loc,tok,nt⟩ rs=some vs)(Hb:lb cx.base out []=out)(h0:nt0<=nt')(hnt:nt'<=nt)(Ht:∀t,tok' t=true->tok t=true/\(nt'=nt∨t<nt'))(ho:∀k rows,k<cx.base->out k=some rows->cx.B0 k=some rows∨∀r∈rows,∀x∈r,OkIn (fun k=>lb cx.base out [] k≠none) (fun t=>nt'=nt∨t<nt') x)(hto:To (fun k=>lb cx.base out [] k≠none) (fun t=>nt'=nt∨t<nt') none (packA vs) av):Fin P cx nt0 rs (fun v' m'=>v'=av/\m'=⟨out,cx.base,tok',nt'⟩) ⟨tl l,lb cx.base out loc,tok,nt⟩ :=
 ⟨vs,out,loc,none,av,⟨out,cx.base,tok',nt'⟩,hres,⟨rfl,rfl,hnt,h0,Ht,fun _=>.bot,fun s rows' h=>by simp[lk] at h,(fun _ _ _ h=>by cases h),
  ho⟩,Hb.symm,rfl,by simpa using hto,rfl,rfl⟩
theorem Fin.own{cx:Cx}{nt0 nt:Nat}{rs:List ResultVar}{l:List (Nat × AV)}{out:Bxs}{loc:List (Nat × List (List AV))}{tok:Nat->Bool}{vs:List AV}{av:AV}(hres:resAs P ⟨tl l,lb cx.base out loc,tok,nt⟩ rs=some vs)(Hb:lb cx.base out []=out)(ho:out=cx.B0)(hnt:nt0<=nt)(hto:To (fun k=>lb cx.base out [] k≠none) (fun _=>True) none (packA vs) av):Fin P cx nt0 rs (fun v' m'=>v'=av/\m'=⟨out,cx.base,tok,nt⟩) ⟨tl l,lb cx.base out loc,tok,nt⟩ :=
 Fin.gen hres Hb hnt (nr _) (fun t h=>⟨h,.inl rfl⟩) (fun k rows _ h=>.inl (by rw[<-ho];exact h)) (by simpa using hto)
theorem Ext.lb{box box':Bxs}{nb:Nat}(h:Ext box box')(hb:lb nb box' []=box')(loc:List (Nat × List (List AV))):Ext box (AM.lb nb box' loc):=fun k r hk=>by
 have h1:=h k r hk;rw[lO (key_lt hb h1)];exact h1
theorem OkIn.mono{p p' q q':Nat->Prop}(hp:∀k,p k->p' k)(hq:∀k,q k->q' k){x:AV}(h:OkIn p q x):OkIn p' q' x:=by
 induction h with
 | bot=>exact .bot
 | d=>exact .d
 | osl h=>exact .osl fun t e=>hq _ (h t e)
 | cptr=>exact .cptr
 | ptr h=>exact .ptr (hp _ h)
 | here h=>exact .here (hp _ h)
 | buf h=>exact .buf (hq _ h)
 | msl h=>exact .msl (hp _ h)
 | fn h ih=>exact .fn ih
 | agg h ih=>exact .agg ih
 | tup h ih=>exact .tup ih
 | ex h=>exact .ex (hq _ h)
 | stk h=>exact .stk (hq _ h)
 | que h=>exact .que (hq _ h)
 | mp h hs=>exact .mp (hq _ h) fun e he t ht=>hq _ (hs e he t ht)
 | mpd=>exact .mpd
theorem okFn{box:Bxs}{nb:Nat}{caps:List AV}(h:∀c∈caps,OkIn (fun k=>box k≠none) (fun _=>True) c)(hb:lb nb box []=box)(loc:List (Nat × List (List AV))){p q:Nat->Prop}(hp:p=fun k=>lb nb box loc k≠none)(hq:q=fun _=>True)(f:Fn):OkIn p q (.fn f caps):=by
 subst hp;subst hq;refine .fn fun c hc=>(h c hc).mono (fun k hk=>?_) fun _ h=>h
 obtain⟨r,hr⟩:=Option.ne_none_iff_exists'.1 hk;rw[lO (key_lt hb hr),hr];simp
theorem Fin.mono{cx:Cx}{nt0:Nat}{rs:List ResultVar}{Q Q':AV->AMem->Prop}{S:AS}(h:Fin P cx nt0 rs Q S)(hq:∀v m,Q v m->Q' v m):Fin P cx nt0 rs Q' S:=by
 obtain⟨vs,out,loc,fz,av,m',h1,h2,h3,h4,h5,h6⟩:=h;exact⟨vs,out,loc,fz,av,m',h1,h2,h3,h4,h5,hq _ _ h6⟩
def Conv(v:AV)(m:AMem)(v':AV)(m':AMem):Prop:=m'.nb=m.nb/\m'.box=m.box/\∀G w u,RelM G m w->RV G w v u->∃G',RelM G' m' w/\RV G' w v' u/\Le G w G' w/\∀k,G.bx k=none->G'.bx k=none
theorem Conv.refl(v:AV)(m:AMem):Conv v m v m:=⟨rfl,rfl,fun G w u h1 h2=>⟨G,h1,h2,Le.refl G w,fun _ h=>h⟩⟩
theorem Conv.newtok(sz sz':Nat)(box:Bxs)(nb:Nat)(tok:Tks)(nt:Nat):Conv (.osl sz [] .full) ⟨box,nb,tok,nt⟩ (.osl sz' [] (.tok nt)) ⟨box,nb,upd tok nt true,nt+1⟩:=by
 refine⟨rfl,rfl,fun G w u hm hv=>⟨G.newtok none,hm.newtok none (fun g h=>by cases h),?_,Le.newtok none,fun k h=>h⟩⟩;have hnt:G.nt=nt:=hm.nt
 cases hv with
 | osl h ho =>
  cases h with
  | sl u hcap hmax hsz hA hc hr =>
   refine .osl (.sl (fun _ _=>default) hcap hmax (by simp) (by simp) (fun a _ i j hi _=>by simp at hi) (fun i j hi _=>by simp at hi)) ⟨by simp[Gh.newtok,hnt],fun x hx=>?_⟩;simp only[Gh.newtok,hnt,uS,Option.some.injEq] at hx;subst hx;exact ho.imp fun _ h=>h.1
theorem ACalls.conv{f:FuncId}{args:List AV}{m:AMem}{Q Q':AV->AMem->Prop}(h:ACalls P f args m Q)(hq:∀v m1,Q v m1->∃v' m',Conv v m1 v' m'/\Q' v' m'):ACalls P f args m Q' :=
 ⟨h.1,fun G w vals hm hr=>(h.2 G w vals hm hr).mono fun e w' ⟨v,av,m1,G1,h1,h2,h3,h4,h5,h6,h7⟩=>by
  obtain⟨v',m',⟨c1,c2,c3⟩,hq'⟩:=hq _ _ h2;obtain⟨G2,k1,k2,k3,k4⟩:=c3 G1 w' v h4 h5;exact⟨v,v',m',G2,h1,hq',c1.trans h3,k1,k2,h6.trans k3,fun k hk=>⟨k4 k (h7 k hk).1,by rw[c2];exact(h7 k hk).2⟩⟩⟩
theorem TK.perm{mtok:Nat->Bool}{nt0:Nat}{tok:Nat->Bool}{nt:Nat}{os os':List Own}(h:TK mtok nt0 tok nt os)(hp:os.Perm os'):TK mtok nt0 tok nt os' :=
 ⟨h.old,h.lt,h.le,fun o ho=>h.own o (hp.mem_iff.2 ho),(List.Perm.pairwise_iff (fun {a b} hab t e e'=>hab t e' e) hp).1 h.ne⟩
theorem TK.pick3{mtok:Nat->Bool}{nt0:Nat}{tok:Nat->Bool}{nt:Nat}{a b c:Own}{os:List Own}(h:TK mtok nt0 tok nt (a::b::c::os)):TK mtok nt0 tok nt (c::a::b::os) :=
 h.perm (((List.Perm.swap c b os).cons a).trans (List.Perm.swap c a (b::os)))
theorem TK.put3{mtok:Nat->Bool}{nt0:Nat}{tok:Nat->Bool}{nt:Nat}{a b c:Own}{os:List Own}(h:TK mtok nt0 tok nt (c::a::b::os)):TK mtok nt0 tok nt (a::b::c::os) :=
 h.perm (((List.Perm.swap c b os).cons a).trans (List.Perm.swap c a (b::os))).symm
attribute [simp] intsOf convF
theorem clone_c(xs:List Int)(hx:xs.length<=1000000)(tok:Tks)(nt:Nat):DCall prog 120 [.d (ints xs)] tok nt (.osl 1 (rI xs) (.tok nt)) (upd tok nt true) (nt+1):=by
 intro box nb;have main:ACalls prog 120 [.d (ints xs)] ⟨box,nb,tok,nt⟩ fun v m=>(v=.osl 1 (rI xs) (.tok nt)/\m=⟨box,nb,upd tok nt true,nt+1⟩)∨(xs=[]/\v=.osl 0 [] .full/\m=⟨box,nb,tok,nt⟩):=by
  refine sI func120 ntmps120 fun Hb Ht=>?_
  refine sR ?_;simp;refine sR ?_;simp;refine⟨?_,fun h=>?_⟩
  .refine sC ?_;simp;refine sR ?_;simp;refine⟨by omega,?_⟩;refine sN ?_;refine AL.ret ?_;try simp only[AU]
   refine⟨by simp,(Fin.own (by simp[resAs,resA];rfl) Hb rfl (by simp) ?_).mono fun v m hq=>.inl hq⟩;simp
  .refine sC ?_;simp;refine sR ?_;simp;refine sN ?_;refine AL.ret ?_;try simp only[AU]
   refine⟨by simp,(Fin.own (by simp[resAs,resA];rfl) Hb rfl (nr _) ?_).mono fun v m hq=>.inr ⟨h,hq.1,hq.2⟩⟩;simp
 refine main.conv fun v m h=>?_
 rcases h with ⟨rfl,rfl⟩|⟨rfl,rfl,rfl⟩
 .exact⟨_,_,Conv.refl _ _,rfl,rfl⟩
 .exact⟨_,_,Conv.newtok 0 1 box nb tok nt,rfl,rfl⟩
theorem cloneE_c(xs:List E)(hx:xs.length<=1000000)(tok:Tks)(nt:Nat):DCall prog 192 [.d (AM.edges xs)] tok nt (.osl 3 (rE xs) (.tok nt)) (upd tok nt true) (nt+1):=by
 intro box nb;have main:ACalls prog 192 [.d (AM.edges xs)] ⟨box,nb,tok,nt⟩ fun v m=>(v=.osl 3 (rE xs) (.tok nt)/\m=⟨box,nb,upd tok nt true,nt+1⟩)∨(xs=[]/\v=.osl 0 [] .full/\m=⟨box,nb,tok,nt⟩):=by
  refine sI func192 ntmps192 fun Hb Ht=>?_
  refine sR ?_;simp;refine sR ?_;simp;refine⟨?_,fun h=>?_⟩
  .refine sC ?_;simp;refine sR ?_;simp;refine⟨by omega,?_⟩;refine sN ?_;refine AL.ret ?_;try simp only[AU]
   refine⟨by simp,(Fin.own (by simp[resAs,resA];rfl) Hb rfl (by simp) ?_).mono fun v m hq=>.inl hq⟩;simp
  .refine sC ?_;simp;refine sR ?_;simp;refine sN ?_;refine AL.ret ?_;try simp only[AU]
   refine⟨by simp,(Fin.own (by simp[resAs,resA];rfl) Hb rfl (nr _) ?_).mono fun v m hq=>.inr ⟨h,hq.1,hq.2⟩⟩;simp
 refine main.conv fun v m h=>?_
 rcases h with ⟨rfl,rfl⟩|⟨rfl,rfl,rfl⟩
 .exact⟨_,_,Conv.refl _ _,rfl,rfl⟩
 .exact⟨_,_,Conv.newtok 0 3 box nb tok nt,rfl,rfl⟩
def indexI(xs:List Int)(v:Int):Int:=if v∈xs then (xs.idxOf v:Int) else -1
def st66(xs:List Int)(v:Int)(nb:Nat)(box:Bxs)(tok:Tks)(nt:Nat)(i:Nat):AS:=⟨tl [(0,.d (ints xs)),(1,I v),(7,I xs.length),(8,I i)],lb nb box [],tok,nt⟩
theorem index_c(xs:List Int)(v:Int)(hx:xs.length<=1000000):DC 74 [.d (ints xs),I v] (I (indexI xs v)):=by
 intro tok nt box nb;refine sI func74 ntmps74 fun Hb Ht=>?_
 refine sR ?_;simp;refine sR ?_;simp;refine sN ?_;refine sL (st66 xs v nb box tok nt) (fun i=>i<=xs.length/\v∉xs.take i) (fun i=>xs.length-i) 0 ⟨Nat.zero_le _,by simp⟩ (wM (nr _) rfl (by simp[ToL]) trivial) ?_;rintro i S ⟨hi,htk⟩ hS;simp only[st66] at hS;subst hS;have hw:=sW (i:=i) (by omega);refine sR ?_;simp;refine sC ?_;simp;refine⟨fun hlt=>?_,fun hge=>?_⟩
 .have hsp:xs=xs.take i++xs[i]::xs.drop (i+1):=by simp
  refine sR ?_;simp;refine sR ?_;simp[hlt];refine sC ?_;simp;refine⟨fun he=>?_,fun hne=>?_⟩
  .refine sR ?_;simp;have hmem:v∈xs:=by rw[he];exact List.getElem_mem _
   have hid:xs.idxOf v=i:=by
    unfold List.idxOf;rw[List.findIdx_eq hlt];refine⟨by simp[he],fun j hj=>?_⟩;have:xs[j]≠v:=fun e=>htk (by rw[<-e,List.mem_take_iff_getElem];exact⟨j,by omega,rfl⟩)
    simpa using this
   refine sT (sH Hb Ht ?_);simp[indexI,hmem,hid]
  .refine sR ?_;simp[hw];refine sE ?_;refine⟨i+1,⟨hlt,?_⟩,by omega,wM (nr _) rfl (by simp[ToL]) trivial⟩;rw[List.take_succ_eq_append_getElem hlt];simp only[List.mem_append,List.mem_singleton,not_or];exact⟨htk,hne⟩
 .refine sX ?_;simp only[AU,↓reduceIte];refine sR ?_;simp;have hn:v∉xs:=by rwa [List.take_of_length_le hge] at htk
  refine sT (sH Hb Ht ?_);simp[indexI,hn]
theorem indexI_nonneg(xs:List Int)(v:Int):(0<=indexI xs v)↔v∈xs:=by
 unfold indexI;split<;>simp[*]
theorem contains_c(xs:List Int)(v:Int)(hx:xs.length<=1000000):DC 29 [.d (ints xs),I v] (B (decide (v∈xs))):=by
 intro tok nt box nb;refine sI func29 ntmps29 fun Hb Ht=>?_
 refine sR ?_;simp;refine sR ?_;simp;refine sD (index_c xs v hx _ _) ?_;simp;refine sT (sH Hb Ht ?_);simp[indexI_nonneg]
def findI{α:Type}(p:α->Bool)(xs:List α):Int:=if xs.any p then (xs.findIdx p:Int) else -1
def anyB{α:Type}(p:α->Bool)(xs:List α):Bool:=xs.any p
theorem findI_nonneg{α:Type}(p:α->Bool)(xs:List α):(0<=findI p xs)↔xs.any p=true:=by
 unfold findI;split<;>simp[*]
theorem any_take{α:Type}{p:α->Bool}{xs:List α}{i:Nat}(h:i<xs.length)(h1:∀x∈xs.take i,p x=false)(h2:p xs[i]=true):xs.any p=true/\xs.findIdx p=i:=by
 have hany:xs.any p=true:=List.any_eq_true.2 ⟨_,List.getElem_mem h,h2⟩
 refine⟨hany,?_⟩;rw[List.findIdx_eq h];refine⟨h2,fun j hj=>?_⟩;have:=h1 xs[j] (by
  rw[List.mem_take_iff_getElem];exact⟨j,by omega,rfl⟩)
 simpa using this
def st96(xs:List Int)(f:FuncId)(caps:List AV)(nb:Nat)(box:Bxs)(tok:Tks)(nt:Nat)(i:Nat):AS:=⟨tl [(0,.d (ints xs)),(1,.fn (.func f) caps),(7,I xs.length),(8,I i)],lb nb box [],tok,nt⟩
theorem indexFunc_c(xs:List Int)(f:FuncId)(caps:List AV)(p:Int->Bool)(hx:xs.length<=1000000)(box:Bxs)(nb:Nat)(tok:Tks)(nt:Nat)(hc:∀c∈caps,OkIn (fun k=>box k≠none) (fun _=>True) c)(hf:∀x∈xs,∀box' nb',Ext box box'->ACalls prog f (I x::caps) ⟨box',nb',tok,nt⟩ fun v m=>v=B (p x)/\m=⟨box',nb',tok,nt⟩):
  ACalls prog 235 [.d (ints xs),.fn (.func f) caps] ⟨box,nb,tok,nt⟩ fun v m=>v=I (findI p xs)/\m=⟨box,nb,tok,nt⟩:=by
 refine sI func235 ntmps235 fun Hb Ht=>?_
 refine sR ?_;simp;refine sR ?_;simp;refine sN ?_;refine sL (st96 xs f caps nb box tok nt) (fun i=>i<=xs.length/\∀x∈xs.take i,p x=false) (fun i=>xs.length-i) 0 ⟨Nat.zero_le _,by simp⟩ (wM (nr _) rfl (by simp[ToL];exact .same (okFn hc Hb [] (by simp) rfl _)) trivial) ?_;rintro i S ⟨hi,htk⟩ hS;simp only[st96] at hS;subst hS;have hw:=sW (i:=i) (by omega);refine sR ?_;simp;refine sC ?_;simp;refine⟨fun hlt=>?_,fun hge=>?_⟩
 .refine sR ?_;simp;refine sR ?_;simp[hlt];refine Stop.of_b (hf xs[i] (List.getElem_mem _) _ _ ((Ext.refl box).lb Hb [])) ?_;simp;refine sC ?_;simp;refine⟨fun he=>?_,fun hne=>?_⟩
  .refine sR ?_;simp;obtain⟨h1,h2⟩:=any_take hlt htk he;refine sT (sH Hb Ht ?_);simp[findI,h1,h2]
  .refine sR ?_;simp[hw];refine sE ?_;refine⟨i+1,⟨hlt,?_⟩,by omega,wM (nr _) rfl (by simp[ToL];exact .same (okFn hc Hb [] (by simp) rfl _)) trivial⟩;rw[List.take_succ_eq_append_getElem hlt];intro x hx;rcases List.mem_append.1 hx with hx|hx
   .exact htk x hx
   .simp at hx;rw[hx];exact hne
 .refine sX ?_;simp only[AU,↓reduceIte];refine sR ?_;simp;have hn:xs.any p=false:=by
   rw[List.take_of_length_le hge] at htk;simpa using htk
  refine sT (sH Hb Ht ?_);simp[findI,hn]
theorem containsFunc_c(xs:List Int)(f:FuncId)(caps:List AV)(p:Int->Bool)(hx:xs.length<=1000000)(box:Bxs)(nb:Nat)(tok:Tks)(nt:Nat)(hc:∀c∈caps,OkIn (fun k=>box k≠none) (fun _=>True) c)(hf:∀x∈xs,∀box' nb',Ext box box'->ACalls prog f (I x::caps) ⟨box',nb',tok,nt⟩ fun v m=>v=B (p x)/\m=⟨box',nb',tok,nt⟩):
  ACalls prog 170 [.d (ints xs),.fn (.func f) caps] ⟨box,nb,tok,nt⟩ fun v m=>v=B (anyB p xs)/\m=⟨box,nb,tok,nt⟩:=by
 refine sI func170 ntmps170 fun Hb Ht=>?_
 refine sR ?_;simp;refine sR ?_;simp;refine Stop.of_b (indexFunc_c xs f caps p hx (lb nb box []) _ _ _ (fun c h=>(hc c h).mono (fun k hk=>by rw[Hb];exact hk) fun _ h=>h) (fun x hx' box' nb' he=>hf x hx' box' nb' (by rw[Hb] at he;exact he))) ?_;simp;have hany:decide (∃x,x∈xs/\p x=true)=anyB p xs:=by rw[Bool.eq_iff_iff];simp[anyB]
 refine sT (sH Hb Ht ?_);simp[findI_nonneg,hany]
def st97(xs:List E)(f:FuncId)(caps:List AV)(nb:Nat)(box:Bxs)(tok:Tks)(nt:Nat)(i:Nat):AS:=⟨tl [(0,.d (AM.edges xs)),(1,.fn (.func f) caps),(7,I xs.length),(8,I i)],lb nb box [],tok,nt⟩
theorem indexFuncE_c(xs:List E)(f:FuncId)(caps:List AV)(p:E->Bool)(hx:xs.length<=1000000)(box:Bxs)(nb:Nat)(tok:Tks)(nt:Nat)(hc:∀c∈caps,OkIn (fun k=>box k≠none) (fun _=>True) c)(hf:∀x∈xs,∀box' nb',Ext box box'->ACalls prog f (.agg [I x.ty,I x.fr,I x.to]::caps) ⟨box',nb',tok,nt⟩ fun v m=>v=B (p x)/\m=⟨box',nb',tok,nt⟩):
  ACalls prog 231 [.d (AM.edges xs),.fn (.func f) caps] ⟨box,nb,tok,nt⟩ fun v m=>v=I (findI p xs)/\m=⟨box,nb,tok,nt⟩:=by
 refine sI func231 ntmps231 fun Hb Ht=>?_
 refine sR ?_;simp;refine sR ?_;simp;refine sN ?_;refine sL (st97 xs f caps nb box tok nt) (fun i=>i<=xs.length/\∀x∈xs.take i,p x=false) (fun i=>xs.length-i) 0 ⟨Nat.zero_le _,by simp⟩ (wM (nr _) rfl (by simp[ToL];exact .same (okFn hc Hb [] (by simp) rfl _)) trivial) ?_;rintro i S ⟨hi,htk⟩ hS;simp only[st97] at hS;subst hS;have hw:=sW (i:=i) (by omega);refine sR ?_;simp;refine sC ?_;simp;refine⟨fun hlt=>?_,fun hge=>?_⟩
 .refine sR ?_;simp;refine sR ?_;simp[hlt];refine Stop.of_b (hf xs[i] (List.getElem_mem _) _ _ ((Ext.refl box).lb Hb [])) ?_;simp;refine sC ?_;simp;refine⟨fun he=>?_,fun hne=>?_⟩
  .refine sR ?_;simp;obtain⟨h1,h2⟩:=any_take hlt htk he;refine sT (sH Hb Ht ?_);simp[findI,h1,h2]
  .refine sR ?_;simp[hw];refine sE ?_;refine⟨i+1,⟨hlt,?_⟩,by omega,wM (nr _) rfl (by simp[ToL];exact .same (okFn hc Hb [] (by simp) rfl _)) trivial⟩;rw[List.take_succ_eq_append_getElem hlt];intro x hx;rcases List.mem_append.1 hx with hx|hx
   .exact htk x hx
   .simp at hx;rw[hx];exact hne
 .refine sX ?_;simp only[AU,↓reduceIte];refine sR ?_;simp;have hn:xs.any p=false:=by
   rw[List.take_of_length_le hge] at htk;simpa using htk
  refine sT (sH Hb Ht ?_);simp[findI,hn]
theorem containsFuncE_c(xs:List E)(f:FuncId)(caps:List AV)(p:E->Bool)(hx:xs.length<=1000000)(box:Bxs)(nb:Nat)(tok:Tks)(nt:Nat)(hc:∀c∈caps,OkIn (fun k=>box k≠none) (fun _=>True) c)(hf:∀x∈xs,∀box' nb',Ext box box'->ACalls prog f (.agg [I x.ty,I x.fr,I x.to]::caps) ⟨box',nb',tok,nt⟩ fun v m=>v=B (p x)/\m=⟨box',nb',tok,nt⟩):
  ACalls prog 164 [.d (AM.edges xs),.fn (.func f) caps] ⟨box,nb,tok,nt⟩ fun v m=>v=B (anyB p xs)/\m=⟨box,nb,tok,nt⟩:=by
 refine sI func164 ntmps164 fun Hb Ht=>?_
 refine sR ?_;simp;refine sR ?_;simp;refine Stop.of_b (indexFuncE_c xs f caps p hx (lb nb box []) _ _ _ (fun c h=>(hc c h).mono (fun k hk=>by rw[Hb];exact hk) fun _ h=>h) (fun x hx' box' nb' he=>hf x hx' box' nb' (by rw[Hb] at he;exact he))) ?_;simp;have hany:decide (∃x,x∈xs/\p x=true)=anyB p xs:=by rw[Bool.eq_iff_iff];simp[anyB]
 refine sT (sH Hb Ht ?_);simp[findI_nonneg,hany]
def vG(g:Gr):Int:=if 40<g.nodes.length∨80<g.edges.length then 3 else if anyB (fun n=>!withinB n 99) g.nodes then 6 else if anyB (fun e=>!fitsB e g.nodes.length) g.edges then 6 else 0
structure Gr.Fit (g:Gr):Prop where
 n:g.nodes.length<=1000000
 e:g.edges.length<=1000000
theorem graphValid_c(g:Gr)(hg:g.Fit):DC 91 [g.av] (I (vG g)):=by
 intro tok nt box nb;have hn:=hg.n;have he:=hg.e;refine sI func91 ntmps91 fun Hb Ht=>?_
 refine sR ?_;simp;refine sR ?_;simp;first|refine Gd.dt (fun h1=>?_) (fun h1=>?_)|refine Gd.df (fun h1=>?_) (fun h1=>?_)|refine Gd.t (fun h1=>?_) (fun h1=>?_)|refine Gd.f (fun h1=>?_) (fun h1=>?_)
 .simp[h1];refine sC ?_;simp;refine sR ?_;simp;refine sT (sH Hb Ht ?_);simp[vG,show 40<g.nodes.length by omega]
 .simp[h1];refine sC ?_;simp;refine⟨fun h2=>?_,fun h2=>?_⟩
  .refine sR ?_;simp;refine sT (sH Hb Ht ?_);simp[vG,show 80<g.edges.length by omega]
  .have hn1:¬40<g.nodes.length:=by omega
   have hn2:¬80<g.edges.length:=by omega
   refine sR ?_;simp;refine Stop.of_b (containsFunc_c g.nodes 171 [] (fun n=>!withinB n 99) hn _ _ _ _ (by simp) (fun x _ box' nb' _=>valid1_c x _ _ box' nb')) ?_;simp;refine sC ?_;simp;refine⟨fun h3=>?_,fun h3=>?_⟩
   .refine sR ?_;simp;refine sT (sH Hb Ht ?_);simp[vG,hn1,hn2,h3]
   .refine sR ?_;simp;refine Stop.of_b (containsFuncE_c g.edges 173 [.ptr (nb+1) 0 0] (fun e=>!fitsB e g.nodes.length) he _ _ _ _ (by simp[lb_at,lk]) (fun x _ box' nb' hx=>valid2_c x g hn _ _ box' nb' (nb+1) (hx _ _ (by simp[lb_at,lk])))) ?_;simp;refine sC ?_;simp;refine⟨fun h4=>?_,fun h4=>?_⟩
    .refine sR ?_;simp;refine sT (sH Hb Ht ?_);simp[vG,hn1,hn2,h3,h4]
    .refine sR ?_;simp;refine sT (sH Hb Ht ?_);simp[vG,hn1,hn2,h3,h4]
theorem kind_c(n:Int):DC 178 [I n] (B (withinB n 99)):=by
 intro tok nt box nb;refine sI func178 ntmps178 fun Hb Ht=>?_
 refine sR ?_;simp;refine sR ?_;simp;first|refine Gd.dt (fun h=>?_) (fun h=>?_)|refine Gd.df (fun h=>?_) (fun h=>?_)|refine Gd.t (fun h=>?_) (fun h=>?_)|refine Gd.f (fun h=>?_) (fun h=>?_)
 .simp[h];refine sT (sH Hb Ht ?_);simp[withinB,h]
 .simp[h];refine sT (sH Hb Ht ?_);simp[withinB,h]
theorem right_c(e:E)(nodes:Int):DC 179 [.agg [I e.ty,I e.fr,I e.to],I nodes] (B (fitsB e nodes)):=by
 intro tok nt box nb;refine sI func179 ntmps179 fun Hb Ht=>?_
 refine sR ?_;simp;refine sR ?_;simp;refine sD (kind_c _ _ _) ?_;simp;first|refine Gd.dt (fun h1=>?_) (fun h1=>?_)|refine Gd.df (fun h1=>?_) (fun h1=>?_)|refine Gd.t (fun h1=>?_) (fun h1=>?_)|refine Gd.f (fun h1=>?_) (fun h1=>?_)
 .simp[h1];first|refine Gd.dt (fun h2=>?_) (fun h2=>?_)|refine Gd.df (fun h2=>?_) (fun h2=>?_)|refine Gd.t (fun h2=>?_) (fun h2=>?_)|refine Gd.f (fun h2=>?_) (fun h2=>?_)
  .simp[h1,h2];first|refine Gd.dt (fun h3=>?_) (fun h3=>?_)|refine Gd.df (fun h3=>?_) (fun h3=>?_)|refine Gd.t (fun h3=>?_) (fun h3=>?_)|refine Gd.f (fun h3=>?_) (fun h3=>?_)
   .simp[h1,h2,h3];first|refine Gd.dt (fun h4=>?_) (fun h4=>?_)|refine Gd.df (fun h4=>?_) (fun h4=>?_)|refine Gd.t (fun h4=>?_) (fun h4=>?_)|refine Gd.f (fun h4=>?_) (fun h4=>?_)
    .simp[h1,h2,h3,h4];have k1:e.fr<=nodes-1:=by omega
     have k2:(e.to<nodes)↔(e.to<=nodes-1):=by omega
     refine sT (sH Hb Ht ?_);simp[fitsB,h1,h2,h3,h4,withinB,k1,k2];simp[withinB] at h1;simp[h1]
    .simp[h1,h2,h3,h4];refine sT (sH Hb Ht ?_);simp[fitsB,h1,h2,h3,h4,withinB]
   .simp[h1,h2,h3];have k1:¬e.fr<=nodes-1:=by omega
    refine sT (sH Hb Ht ?_);simp[fitsB,h1,h2,h3,withinB,k1]
  .simp[h1,h2];refine sT (sH Hb Ht ?_);simp[fitsB,h1,h2,withinB]
 .simp[h1];refine sT (sH Hb Ht ?_);simp[fitsB,h1]
def st41a(g:Gr)(nb:Nat)(box:Bxs)(tok:Tks)(nt:Nat)(i:Nat):AS:=⟨tl [(1,.ptr (nb+1) 0 0),(3,I i)],lb nb box [(1,[[.d (ints g.nodes),.d (AM.edges g.edges)]])],tok,nt⟩
def st41b(g:Gr)(nb:Nat)(box:Bxs)(tok:Tks)(nt:Nat)(i:Nat):AS:=⟨tl [(1,.ptr (nb+1) 0 0),(4,I i)],lb nb box [(1,[[.d (ints g.nodes),.d (AM.edges g.edges)]])],tok,nt⟩
theorem anyB_take{α:Type}{p:α->Bool}{xs:List α}{i:Nat}(h:i<xs.length)(h2:p xs[i]=true):anyB p xs=true:=List.any_eq_true.2 ⟨_,List.getElem_mem h,h2⟩
theorem anyB_all{α:Type}{p:α->Bool}{xs:List α}{i:Nat}(h:xs.length<=i)(h2:∀x∈xs.take i,p x=false):anyB p xs=false:=by
 rw[List.take_of_length_le h] at h2;exact List.any_eq_false.2 fun x hx=>by simp[h2 x hx]
theorem anyB_step{α:Type}{p:α->Bool}{xs:List α}{i:Nat}(h:i<xs.length)(h1:∀x∈xs.take i,p x=false)(h2:p xs[i]=false):∀x∈xs.take (i+1),p x=false:=by
 intro x hx;rw[List.take_succ_eq_append_getElem h] at hx;rcases List.mem_append.1 hx with hx|hx
 .exact h1 x hx
 .simp at hx;rw[hx];exact h2
theorem valid05_c(g:Gr)(hg:g.Fit):DC 96 [g.av] (I (vG g)):=by
 intro tok nt box nb;have hn:=hg.n;have he:=hg.e;refine sI func96 ntmps96 fun Hb Ht=>?_
 refine sR ?_;simp;refine sR ?_;simp;first|refine Gd.dt (fun h1=>?_) (fun h1=>?_)|refine Gd.df (fun h1=>?_) (fun h1=>?_)|refine Gd.t (fun h1=>?_) (fun h1=>?_)|refine Gd.f (fun h1=>?_) (fun h1=>?_)
 .simp[h1];refine sC ?_;simp;refine sR ?_;simp;refine sT (sH Hb Ht ?_);simp[vG,show 40<g.nodes.length by omega]
 .simp[h1];refine sC ?_;simp;refine⟨fun h2=>?_,fun h2=>?_⟩
  .refine sR ?_;simp;refine sT (sH Hb Ht ?_);simp[vG,show 80<g.edges.length by omega]
  .have hn1:¬40<g.nodes.length:=by omega
   have hn2:¬80<g.edges.length:=by omega
   refine sR ?_;simp;refine sN ?_;refine sL (st41a g nb box tok nt) (fun i=>i<=g.nodes.length/\∀x∈g.nodes.take i,(!withinB x 99)=false) (fun i=>g.nodes.length-i) 0 ⟨Nat.zero_le _,by simp⟩ wkA ?_;rintro i S ⟨hi,htk⟩ hS;simp only[st41a] at hS;subst hS;have hw:=sW (i:=i) (by omega);refine sR ?_;simp;refine sC ?_;simp;refine⟨fun hlt=>?_,fun hge=>?_⟩
   .refine sR ?_;simp[hlt];refine sD (kind_c _ _ _) ?_;simp;refine sC ?_;simp;refine⟨fun hb=>?_,fun hb=>?_⟩
    .refine sR ?_;simp;have h3:anyB (fun n=>!withinB n 99) g.nodes=true:=anyB_take hlt (by simp[hb])
     refine sT (sH Hb Ht ?_);simp[vG,hn1,hn2,h3]
    .refine sR ?_;simp[hw];refine sE ?_;refine⟨i+1,⟨hlt,?_⟩,by omega,wkA⟩;have:=anyB_step (p:=fun n=>!withinB n 99) hlt (by simpa using htk) (by simp[hb])
     simpa using this
   .refine sX ?_;simp only[AU,↓reduceIte];have h3:anyB (fun n=>!withinB n 99) g.nodes=false:=anyB_all hge (by simpa using htk)
    refine sR ?_;simp;refine sN ?_;refine sL (st41b g nb box tok nt) (fun i=>i<=g.edges.length/\∀x∈g.edges.take i,(!fitsB x g.nodes.length)=false) (fun i=>g.edges.length-i) 0 ⟨Nat.zero_le _,by simp⟩ wkA ?_;rintro i S ⟨hi,htk⟩ hS;simp only[st41b] at hS;subst hS;have hw:=sW (i:=i) (by omega);refine sR ?_;simp;refine sC ?_;simp;refine⟨fun hlt=>?_,fun hge=>?_⟩
    .refine sR ?_;simp[hlt];refine sD (right_c g.edges[i] _ _ _) ?_;simp;refine sC ?_;simp;refine⟨fun hb=>?_,fun hb=>?_⟩
     .refine sR ?_;simp;have h4:anyB (fun e=>!fitsB e g.nodes.length) g.edges=true:=anyB_take hlt (by simp[hb])
      refine sT (sH Hb Ht ?_);simp[vG,hn1,hn2,h3,h4]
     .refine sR ?_;simp[hw];refine sE ?_;refine⟨i+1,⟨hlt,?_⟩,by omega,wkA⟩;have:=anyB_step (p:=fun e=>!fitsB e g.nodes.length) hlt (by simpa using htk) (by simp[hb])
      simpa using this
    .refine sX ?_;simp only[AU,↓reduceIte];have h4:anyB (fun e=>!fitsB e g.nodes.length) g.edges=false:=anyB_all hge (by simpa using htk)
     refine sR ?_;simp;refine sT (sH Hb Ht ?_);simp[vG,hn1,hn2,h3,h4]
def fewG(g:Gr):Bool:=decide ((g.nodes.length:Int)<=45)&&decide ((g.edges.length:Int)<=90)
theorem few05_c(g:Gr):DC 107 [g.av] (B (fewG g)):=by
 intro tok nt box nb;refine sI func107 ntmps107 fun Hb Ht=>?_
 refine sR ?_;simp;refine sR ?_;simp;first|refine Gd.dt (fun h1=>?_) (fun h1=>?_)|refine Gd.df (fun h1=>?_) (fun h1=>?_)|refine Gd.t (fun h1=>?_) (fun h1=>?_)|refine Gd.f (fun h1=>?_) (fun h1=>?_)
 .simp[h1];refine sT (sH Hb Ht ?_);simp[fewG,h1]
 .simp[h1];refine sT (sH Hb Ht ?_);simp[fewG,h1]
theorem fewG_fit{g:Gr}(h:fewG g=true):g.Fit:=by
 simp[fewG] at h;exact⟨by omega,by omega⟩
structure Ov where
 g:Gr
 l:Mo
 r:Mo
 deriving DecidableEq,Inhabited
structure Qu where
 g:Gr
 o:Mo
 deriving DecidableEq,Inhabited
abbrev Ov.cells(o:Ov):List D:=[ints o.g.nodes,AM.edges o.g.edges,ints o.l.nodes,ints o.l.edges,ints o.r.nodes,ints o.r.edges]
abbrev Ov.av(o:Ov):AV:=.agg [.d (ints o.g.nodes),.d (AM.edges o.g.edges),.d (ints o.l.nodes),.d (ints o.l.edges),.d (ints o.r.nodes),.d (ints o.r.edges)]
abbrev ovs(l:List Ov):D:=.sl 6 (l.map Ov.cells)
abbrev Qu.cells(o:Qu):List D:=[ints o.g.nodes,AM.edges o.g.edges,ints o.o.nodes,ints o.o.edges]
abbrev Qu.av(o:Qu):AV:=.agg [.d (ints o.g.nodes),.d (AM.edges o.g.edges),.d (ints o.o.nodes),.d (ints o.o.edges)]
structure Mo.Fit (m:Mo):Prop where
 n:m.nodes.length<=1000000
 e:m.edges.length<=1000000
structure Ov.Fit (o:Ov):Prop where
 g:o.g.Fit
 l:o.l.Fit
 r:o.r.Fit
structure Qu.Fit (o:Qu):Prop where
 g:o.g.Fit
 o:o.o.Fit
def iota(n:Nat):List Int:=(List.range n).map fun (i:Nat)=>(i:Int)
theorem iota_succ(n:Nat):iota (n+1)=iota n++[(n:Int)]:=by simp[iota,List.range_succ]
@[simp] theorem iota_length(n:Nat):(iota n).length=n:=by simp[iota]
@[simp] theorem iota_zero:iota 0=[]:=rfl
structure Acc where
 i:Nat
 own:Own
 tok:Nat->Bool
 nt:Nat
def st72(n:Nat)(nb:Nat)(box:Bxs)(a:Acc):AS:=⟨tl [(0,I n),(3,.osl 1 (rI (iota a.i)) a.own),(4,I a.i)],lb nb box [],a.tok,a.nt⟩
theorem finest_c(n:Nat)(hn:n<=1000000):DC 187 [I n] (.d (ints (iota n))):=by
 intro tok nt box nb;refine sI func187 ntmps187 fun Hb Ht=>?_
 refine sR ?_;simp;refine sR ?_;simp;refine sR ?_;simp;refine sN ?_;refine sL (st72 n nb box) (fun a=>a.i<=n/\TK tok nt a.tok a.nt [a.own]) (fun a=>n-a.i) ⟨0,.full,tok,nt⟩ ⟨Nat.zero_le _,(TK.start Ht).full⟩ (wM (nr _) rfl (by simp[ToL]) trivial) ?_;rintro⟨i,own,tok',nt'⟩ S ⟨hi,htk⟩ hS;simp only[st72] at hS hi htk;subst hS;have hw:=sW (i:=i) (by omega);refine sR ?_;simp;refine sC ?_;simp;refine⟨fun hlt=>?_,fun hge=>?_⟩
 .refine sR ?_;simp;refine⟨⟨by omega,htk.live⟩,?_⟩;refine sR ?_;simp[hw];refine sE ?_;refine⟨⟨i+1,_,_,_⟩,⟨hlt,htk.app⟩,by simp;omega,wM htk.app.le rfl (by simp[ToL,iota_succ]) trivial⟩
 .refine sX ?_;simp only[AU,↓reduceIte];refine sR ?_;simp;have:i=n:=by omega
  subst this;refine sT (sG Hb Ht htk.old htk.le ?_);simp
theorem of_c(g:Gr)(hg:g.Fit):DC 106 [g.av] (Mo.av ⟨iota g.nodes.length,iota g.edges.length⟩):=by
 intro tok nt box nb;refine sI func106 ntmps106 fun Hb Ht=>?_
 refine sR ?_;simp;refine sR ?_;simp;refine sD (finest_c g.nodes.length hg.n _ _) ?_;simp;refine sD (finest_c g.edges.length hg.e _ _) ?_;simp;refine sT (sH Hb Ht ?_);simp
def upto(n i:Nat):List Int:=iota i++List.replicate (n-i) 0
@[simp] theorem upto_length{n i:Nat}(h:i<=n):(upto n i).length=n:=by simp[upto];omega
@[simp] theorem upto_zero(n:Nat):upto n 0=List.replicate n 0:=by simp[upto]
@[simp] theorem upto_all(n:Nat):upto n n=iota n:=by simp[upto]
def st101(n:Nat)(nb:Nat)(box:Bxs)(tok:Tks)(nt:Nat)(i:Nat):AS:=⟨tl [(3,.msl (nb+6) 0 n 1),(8,I n),(9,I i)],lb nb box [(6,rowsI (upto n i))],tok,nt⟩
theorem iota_set{n i:Nat}(h:i<n):(upto n i).set i (i:Int)=upto n (i+1):=by
 unfold upto;rw[List.set_append];simp only[iota_length,Nat.lt_irrefl,↓reduceIte,Nat.sub_self,iota_succ,List.append_assoc];have:n-i=(n-(i+1))+1:=by omega
 rw[this,List.replicate_succ];simp
theorem numbers_c(n:Nat)(hn:n<=1000000):DC 303 [I n] (.d (ints (iota n))):=by
 intro tok nt box nb;refine sI func303 ntmps303 fun Hb Ht=>?_
 refine sR ?_;simp;refine sR ?_;simp;refine⟨by omega,?_⟩;refine sR ?_;simp;refine sN ?_;refine sL (st101 n nb box tok nt) (fun i=>i<=n) (fun i=>n-i) 0 (Nat.zero_le _) wkA ?_;rintro i S hi hS;simp only[st101] at hS;subst hS;have hw:=sW (i:=i) (by omega);refine sR ?_;simp;refine sC ?_;simp;refine⟨fun hlt=>?_,fun hge=>?_⟩
 .refine sR ?_;simp;refine sR ?_;simp[hlt,hi];refine sR ?_;simp[hw];refine sE ?_;refine⟨i+1,hlt,by omega,wM (nr _) rfl (by simp[ToL,lk]) (by simp[BoxL,lk,iota_set hlt])⟩
 .refine sX ?_;simp only[AU,↓reduceIte];have:i=n:=by omega
  subst this;refine AL.weak (Weaks.frz (l':=[(3,.d (ints (iota i)))]) (loc':=[]) 6 1 (rI (iota i)) (nr _) rfl (by simp[lk,rowsI_eq]) (by simp[lk]) (by simp) (by simp[ToL]) (by simp[BoxL])) ?_;refine sR ?_;simp;refine sT (sH Hb Ht ?_);simp
def idM(g:Gr):Mo:=⟨iota g.nodes.length,iota g.edges.length⟩
theorem identity_c(g:Gr)(hg:g.Fit)(hv:vG g=0):DC 279 [g.av] (.tup [(idM g).av,I 0]):=by
 intro tok nt box nb;refine sI func279 ntmps279 fun Hb Ht=>?_
 refine sR ?_;simp;refine sR ?_;simp;refine sD (graphValid_c g hg _ _) ?_;simp;refine sR ?_;simp[hv];refine sC ?_;simp;refine sR ?_;simp;refine sD (numbers_c g.nodes.length hg.n _ _) ?_;simp;refine sD (numbers_c g.edges.length hg.e _ _) ?_;simp;refine sT (sH Hb Ht ?_);simp[idM]
def glueN(an bn l:List Int):Nat->List Int × List Int
 | 0=>(an,[])
 | i+1=>if l.getD i 0<0 then ((glueN an bn l i).1++[bn.getD i 0],(glueN an bn l i).2++[((glueN an bn l i).1.length:Int)]) else ((glueN an bn l i).1,(glueN an bn l i).2++[l.getD i 0])
def glueE(ae be:List E)(rn l:List Int):Nat->List E × List Int
 | 0=>(ae,[])
 | i+1=>if l.getD i 0<0 then ((glueE ae be rn l i).1++[⟨(be.getD i default).ty,rn.getD (be.getD i default).fr.toNat 0,rn.getD (be.getD i default).to.toNat 0⟩],(glueE ae be rn l i).2++[((glueE ae be rn l i).1.length:Int)])
  else ((glueE ae be rn l i).1,(glueE ae be rn l i).2++[l.getD i 0])
def glue(a b:Gr)(nodes edges:List Int):Ov :=
 let n:=glueN a.nodes b.nodes nodes nodes.length
 let e:=glueE a.edges b.edges n.2 edges edges.length
 ⟨⟨n.1,e.1⟩,idM a,⟨n.2,e.2⟩⟩
theorem glueN_len(an bn l:List Int):∀i,(glueN an bn l i).1.length<=an.length+i/\(glueN an bn l i).2.length=i
 | 0=>by simp[glueN]
 | i+1=>by
  have:=glueN_len an bn l i
  simp only[glueN];split<;>simp<;>omega
theorem glueE_len(ae be:List E)(rn l:List Int):∀i,(glueE ae be rn l i).1.length<=ae.length+i/\(glueE ae be rn l i).2.length=i
 | 0=>by simp[glueE]
 | i+1=>by
  have:=glueE_len ae be rn l i
  simp only[glueE];split<;>simp<;>omega
structure Acc4 where
 i:Nat
 o1:Own
 o2:Own
 o3:Own
 o4:Own
 tok:Nat->Bool
 nt:Nat
def st58a(a b:Gr)(l k:List Int)(nb:Nat)(box:Bxs)(x:Acc4):AS :=
 ⟨tl [(2,.d (ints l)),(3,.d (ints k)),(4,.ptr (nb+4) 0 0),(5,.ptr (nb+5) 0 0),(8,.ptr (nb+8) 0 0),(11,.ptr (nb+11) 0 0),(31,.d (ints l)),(32,I l.length),(33,I x.i)],
  lb nb box [(4,[[.d (ints a.nodes),.d (AM.edges a.edges)]]),(5,[[.d (ints b.nodes),.d (AM.edges b.edges)]]),(8,[[.bot,.bot,.bot,.bot,.bot,.bot]]),
   (11,[[.osl 1 (rI (glueN a.nodes b.nodes l x.i).1) x.o1,.osl 3 (rE a.edges) x.o2,.d (ints (idM a).nodes),.d (ints (idM a).edges),.osl 1 (rI (glueN a.nodes b.nodes l x.i).2) x.o3,.osl 1 [] x.o4]])],x.tok,x.nt⟩
structure Acc2 where
 i:Nat
 o1:Own
 o2:Own
 tok:Nat->Bool
 nt:Nat
def st58b(a b:Gr)(l k:List Int)(nb:Nat)(box:Bxs)(x:Acc2):AS :=
 ⟨tl [(5,.ptr (nb+5) 0 0),(8,.ptr (nb+8) 0 0),(11,.ptr (nb+11) 0 0),(65,.d (ints k)),(66,I k.length),(67,I x.i)],
  lb nb box [(5,[[.d (ints b.nodes),.d (AM.edges b.edges)]]),(8,[[.bot,.bot,.bot,.bot,.bot,.bot]]),
   (11,[[.d (ints (glueN a.nodes b.nodes l l.length).1),.osl 3 (rE (glueE a.edges b.edges (glueN a.nodes b.nodes l l.length).2 k x.i).1) x.o1,.d (ints (idM a).nodes),.d (ints (idM a).edges),.d (ints (glueN a.nodes b.nodes l l.length).2),.osl 1 (rI (glueE a.edges b.edges (glueN a.nodes b.nodes l l.length).2 k x.i).2) x.o2]])],x.tok,x.nt⟩
theorem glued_c(a b:Gr)(l k:List Int)(ha:a.Fit)(hva:vG a=0)(hl:l.length<=b.nodes.length)(hk:k.length<=b.edges.length)(hlb:l.length<=1000000)(hkb:k.length<=1000000)(hx:∀i (h:i<k.length) (h2:i<b.edges.length),k[i]<0->0<=b.edges[i].fr/\b.edges[i].fr<l.length/\0<=b.edges[i].to/\b.edges[i].to<l.length):DC 236 [a.av,b.av,.d (ints l),.d (ints k)] (glue a b l k).av:=by
 intro tok nt box nb;have han:=ha.n;have hae:=ha.e;refine sI func236 ntmps236 fun Hb Ht=>?_
 refine sR ?_;simp;refine sR ?_;simp;refine sD (identity_c a ha hva _ _) ?_;simp;refine sR ?_;simp;refine sD (clone_c a.nodes han _ _) ?_;simp;refine sD (cloneE_c a.edges hae _ _) ?_;simp;refine sR ?_;simp;refine sN ?_;have htk0:TK tok nt (upd (upd tok nt true) (nt+1) true) (nt+2) [.tok nt,.tok (nt+1),.full,.full]:=((TK.start Ht).full.app.full.app.swap.full.full).perm (List.perm_append_comm (l₁:=[Own.full,Own.full]) (l₂:=[Own.tok nt,Own.tok (nt+1)]))
 refine sL (st58a a b l k nb box) (fun x=>x.i<=l.length/\TK tok nt x.tok x.nt [x.o1,x.o2,x.o3,x.o4]) (fun x=>l.length-x.i) ⟨0,.tok nt,.tok (nt+1),.full,.full,_,_⟩ ⟨Nat.zero_le _,htk0⟩ (wM htk0.le rfl (by simp[ToL,lk]) (by simp[BoxL,lk,glueN,idM])) ?_;rintro⟨i,o1,o2,o3,o4,tok',nt'⟩ S ⟨hi,htk⟩ hS;simp only[st58a] at hS hi htk;subst hS;have hw:=sW (i:=i) (by omega);have hln:=glueN_len a.nodes b.nodes l i;refine sR ?_;simp;refine sC ?_;simp;refine⟨fun hlt=>?_,fun hge=>?_⟩
 .have hlb:i<b.nodes.length:=by omega
  refine sR ?_;simp[hlt];refine sR ?_;simp;refine sC ?_;simp;refine⟨fun hneg=>?_,fun hpos=>?_⟩
  .refine sR ?_;simp;refine sR ?_;simp[hlb];refine⟨⟨by omega,htk.live⟩,?_⟩;have htk1:=htk.app;refine sR ?_;simp;refine⟨⟨by omega,by simpa using htk1.pick3.live⟩,?_⟩;have htk2:=htk1.pick3.app.put3;refine sR ?_;simp[hw];refine sE ?_;have hg:l.getD i 0=l[i]:=by simp[hlt]
   have hgb:b.nodes.getD i 0=b.nodes[i]:=by simp[hlb]
   refine⟨⟨i+1,_,_,_,_,_,_⟩,⟨hlt,htk2⟩,by simp;omega,wM htk2.le rfl (by simp[ToL,lk]) (by simp[BoxL,lk,glueN,hlt,hlb,hneg])⟩
  .refine sR ?_;simp;refine⟨⟨by omega,htk.pick3.live⟩,?_⟩;have htk2:=htk.pick3.app.put3;refine sR ?_;simp[hw];refine sE ?_;refine⟨⟨i+1,_,_,_,_,_,_⟩,⟨hlt,htk2⟩,by simp;omega,wM htk2.le rfl (by simp[ToL,lk]) (by simp[BoxL,lk,glueN,hlt,hlb,show ¬l[i]<0 by omega])⟩
 .refine sX ?_;simp only[AU,↓reduceIte];have:i=l.length:=by omega
  subst this;refine sR ?_;simp;refine sN ?_;have htk2:=htk.tail.swap.tail;refine sL (st58b a b l k nb box) (fun x=>x.i<=k.length/\TK tok nt x.tok x.nt [x.o1,x.o2]) (fun x=>k.length-x.i) ⟨0,o2,o4,tok',nt'⟩ ⟨Nat.zero_le _,htk2⟩ (wM htk2.le rfl (by simp[ToL,lk]) (by simp[BoxL,lk,glueE])) ?_;rintro⟨i,o1,o2,tok',nt'⟩ S ⟨hi,htk⟩ hS;simp only[st58b] at hS hi htk;subst hS;have hw:=sW (i:=i) (by omega);generalize hrn:(glueN a.nodes b.nodes l l.length).2=rn at *;have hrl:rn.length=l.length:=hln.2
  have hle:=glueE_len a.edges b.edges rn k i;refine sR ?_;simp;refine sC ?_;simp;refine⟨fun hlt=>?_,fun hge=>?_⟩
  .have hlb:i<b.edges.length:=by omega
   refine sR ?_;simp[hlt];refine sR ?_;simp;refine sC ?_;simp;refine⟨fun hneg=>?_,fun hpos=>?_⟩
   .obtain⟨x1,x2,x3,x4⟩:=hx i hlt hlb hneg;have y1:b.edges[i].fr.toNat<rn.length:=by omega
    have y2:b.edges[i].to.toNat<rn.length:=by omega
    refine sR ?_;simp;refine sR ?_;simp[hlb];refine sR ?_;simp[x1,x2,x3,x4,y1,y2,hrl];refine⟨⟨by omega,htk.live⟩,?_⟩;have htk1:=htk.app;refine sR ?_;simp;refine⟨⟨by omega,by simpa using htk1.swap.live⟩,?_⟩;have htk2:=htk1.swap.app.swap;refine sR ?_;simp[hw];refine sE ?_;have hbd:b.edges.getD i default=b.edges[i]:=by simp[hlb]
    refine⟨⟨i+1,_,_,_,_⟩,⟨hlt,htk2⟩,by simp;omega,wM htk2.le rfl (by simp[ToL,lk]) (by simp[BoxL,lk,glueE,hrn,hlt,hlb,hneg,y1,y2])⟩
   .refine sR ?_;simp;refine⟨⟨by omega,htk.swap.live⟩,?_⟩;have htk2:=htk.swap.app.swap;refine sR ?_;simp[hw];refine sE ?_;refine⟨⟨i+1,_,_,_,_⟩,⟨hlt,htk2⟩,by simp;omega,wM htk2.le rfl (by simp[ToL,lk]) (by simp[BoxL,lk,glueE,hrn,hlt,hlb,show ¬k[i]<0 by omega])⟩
  .refine sX ?_;simp only[AU,↓reduceIte];have:i=k.length:=by omega
   subst this;refine sR ?_;simp;refine sT (sG Hb Ht htk.old htk.le ?_);simp[glue,hrn]
variable {P:Program}
def AV.asD1:AV->AV
 | .osl sz es _=>.d (.sl sz es)
 | x=>x
def AV.asD:AV->AV
 | .osl sz es _=>.d (.sl sz es)
 | .agg cs=>.agg (cs.map AV.asD1)
 | x=>x
theorem RV.asD1{G:Gh}{w:World}{x:AV}{v:Value}(h:RV G w x v):RV G w x.asD1 v:=by
 cases h with
 | osl h1 h2=>exact .d h1
 | bot=>exact .bot
 | d h1=>exact .d h1
 | ptr h1=>exact .ptr h1
 | here h1 h2=>exact .here h1 h2
 | buf h1 h2 h3 h4=>exact .buf h1 h2 h3 h4
 | cptr a u hc hr=>exact .cptr a u hc hr
 | msl h1 h2 h3=>exact .msl h1 h2 h3
 | fn hl h=>exact .fn hl h
 | agg hl h h1=>exact .agg hl h h1
 | tup hl h=>exact .tup hl h
 | ex h=>exact .ex h
 | stk h=>exact .stk h
 | que h1 h2=>exact .que h1 h2
 | mp h=>exact .mp h
 | mpd h=>exact .mpd h
theorem RV.asD{G:Gh}{w:World}{x:AV}{v:Value}(h:RV G w x v):RV G w x.asD v:=by
 cases h with
 | osl h1 h2=>exact .d h1
 | bot=>exact .bot
 | d h1=>exact .d h1
 | ptr h1=>exact .ptr h1
 | here h1 h2=>exact .here h1 h2
 | buf h1 h2 h3 h4=>exact .buf h1 h2 h3 h4
 | cptr a u hc hr=>exact .cptr a u hc hr
 | msl h1 h2 h3=>exact .msl h1 h2 h3
 | fn hl h=>exact .fn hl h
 | agg hl h h1=>exact .agg (by simp[hl]) (fun i g1 g2=>by simp only[List.getElem_map];exact(h i (by simpa using g1) g2).asD1) h1
 | tup hl h=>exact .tup hl h
 | ex h=>exact .ex h
 | stk h=>exact .stk h
 | que h1 h2=>exact .que h1 h2
 | mp h=>exact .mp h
 | mpd h=>exact .mpd h
theorem RVs.asD{G:Gh}{w:World}{xs:List AV}{vs:List Value}(h:RVs G w xs vs):RVs G w (xs.map AV.asD) vs :=
 ⟨by simp[h.1],fun i g1 g2=>by simp only[List.getElem_map];exact(h.2 i (by simpa using g1) g2).asD⟩
theorem ACalls.asD{f:FuncId}{args:List AV}{m:AMem}{Q:AV->AMem->Prop}(h:ACalls P f (args.map AV.asD) m Q):ACalls P f args m Q :=
 ⟨h.1,fun G w vals hm hr=>h.2 G w vals hm hr.asD⟩
theorem Stop.data{cx:Cx}{dr:Bool}{fid:FuncId}{args:List AV}{S:AS}{dst:Option Tmp}{K:AS->Prop}(h:Stop P cx dr fid (args.map AV.asD) S dst K):Stop P cx dr fid args S dst K:=by
 cases dr with
 | true =>
  obtain⟨v,tok',nt',h1,h2⟩:=h;exact⟨v,tok',nt',fun box nb he=>(h1 box nb he).asD,h2⟩
 | false=>exact ACalls.asD h
def Sub(x y:AV):Prop:=∀G w v,RV G w x v->RV G w y v
theorem Sub.refl(x:AV):Sub x x:=fun _ _ _ h=>h
theorem Sub.data(sz:Nat)(es:List (List D))(o:Own):Sub (.osl sz es o) (.d (.sl sz es)):=fun _ _ _ h=>h.asD
theorem Sub.nil(sz sz':Nat)(o:Own):Sub (.osl sz [] o) (.d (.sl sz' [])):=fun G w v h=>by
 cases h with
 | osl h ho =>
  cases h with
  | sl u hcap hmax hsz hA hc hr=>exact .d (.sl (es:=[]) (fun _ _=>default) hcap hmax (by simp) (by simp) (fun a _ i j hi _=>by simp at hi) (fun i j hi _=>by simp at hi))
def SubL:List AV->List AV->Prop
 | [],[]=>True
 | x::xs,y::ys=>Sub x y/\SubL xs ys
 | _,_=>False
theorem SubL.rvs{G:Gh}{w:World}:∀{xs ys:List AV} {vs:List Value},SubL xs ys->RVs G w xs vs->RVs G w ys vs
 | [],[],vs,_,h=>h
 | x::xs,y::ys,[],_,h=>by have:=h.1;simp at this
 | x::xs,y::ys,v::vs,hs,h=>RVs.cons (hs.1 _ _ _ (h.2 0 (by simp) (by simp))) (hs.2.rvs ⟨by simpa using h.1,fun i h1 h2=>h.2 (i+1) (by simpa using h1) (by simpa using h2)⟩)
theorem ACalls.sub{f:FuncId}{args args':List AV}{m:AMem}{Q:AV->AMem->Prop}(hs:SubL args args')(h:ACalls P f args' m Q):ACalls P f args m Q :=
 ⟨h.1,fun G w vals hm hr=>h.2 G w vals hm (hs.rvs hr)⟩
theorem Stop.sub{cx:Cx}{dr:Bool}{fid:FuncId}{args args':List AV}{S:AS}{dst:Option Tmp}{K:AS->Prop}(hs:SubL args args')(h:Stop P cx dr fid args' S dst K):Stop P cx dr fid args S dst K:=by
 cases dr with
 | true =>
  obtain⟨v,tok',nt',h1,h2⟩:=h;exact⟨v,tok',nt',fun box nb he=>(h1 box nb he).sub hs,h2⟩
 | false=>exact ACalls.sub hs h
theorem Stop.of_a{cx:Cx}{fid:FuncId}{args:List AV}{S:AS}{dst:Option Tmp}{K:AS->Prop}{Q:AV->AMem->Prop}(h:ACalls P fid args ⟨S.box,cx.nb,S.tok,S.nt⟩ Q)(hk:∀v m',Q v m'->K ⟨putT S.tmps dst v,m'.box,m'.tok,m'.nt⟩):Stop P cx false fid args S dst K:=h.mono hk
theorem rI_snoc(es:List Int)(v:Int):rI es++[[D.raw (.int .i64 v)]]=rI (es++[v]):=by simp[rI]
structure Adv (tok:Tks) (nt:Nat) (own:Own) (tok':Nat->Bool) (nt':Nat) (own':Own):Prop where
 keep:∀t,tok t=true->own≠.tok t->tok' t=true
 le:nt<=nt'
 live:own'.liveP tok'
 new:own'=own∨∃t,own'=.tok t/\nt<=t
 lt:∀t,tok' t=true->t<nt'
theorem Adv.refl{tok:Nat->Bool}{nt:Nat}{own:Own}(h:own.liveP tok)(hl:∀t,tok t=true->t<nt):Adv tok nt own tok nt own:=⟨fun _ h _=>h,nr _,h,.inl rfl,hl⟩
theorem Adv.trans{t1 t2 t3:Nat->Bool}{n1 n2 n3:Nat}{o1 o2 o3:Own}(hl:∀t,t1 t=true->t<n1)(h:Adv t1 n1 o1 t2 n2 o2)(k:Adv t2 n2 o2 t3 n3 o3):Adv t1 n1 o1 t3 n3 o3:=by
 refine⟨fun t ht ho=>k.keep t (h.keep t ht ho) (fun e=>?_),Nat.le_trans h.le k.le,k.live,?_,k.lt⟩
 .rcases h.new with e2|⟨s,e2,hs⟩
  .exact ho (e2 ▸ e)
  .rw[e2] at e;cases e;have:=hl _ ht
   omega
 .rcases k.new with e2|⟨s,e2,hs⟩
  .rw[e2];exact h.new
  .exact .inr ⟨s,e2,Nat.le_trans h.le hs⟩
theorem Adv.fresh{tok:Nat->Bool}{nt:Nat}{own:Own}(h:own.liveP tok)(hl:∀t,tok t=true->t<nt):Adv tok nt own (upd (upd (upd tok nt true) nt false) (nt+1) true) (nt+2) own:=by
 have key:∀t,t<nt->(upd (upd (upd tok nt true) nt false) (nt+1) true) t=tok t:=fun t ht=>by
  rw[uO _ _ (by omega),uO _ _ (by omega),uO _ _ (by omega)]
 refine⟨fun t ht _=>by rw[key t (hl t ht)];exact ht,by omega,?_,.inl rfl,fun t ht=>?_⟩
 .cases own with
  | full=>trivial
  | tok t=>simp only[live_tok] at h ⊢;rw[key t (hl t h)];exact h
 .by_cases e:t=nt+1
  .omega
  .rw[uO _ _ e] at ht;by_cases e2:t=nt
   .omega
   .rw[uO _ _ e2,uO _ _ e2] at ht;have:=hl t ht
    omega
theorem Adv.app{tok:Nat->Bool}{nt:Nat}{own:Own}(h:own.liveP tok)(hl:∀t,tok t=true->t<nt):Adv tok nt own (upd (own.kill tok) nt true) (nt+1) (.tok nt):=by
 refine⟨fun t ht ho=>?_,by omega,by simp[uS],.inr ⟨nt,rfl,nr _⟩,fun t ht=>?_⟩
 .have:=hl t ht
  rw[uO _ _ (by omega)];cases own with
  | full=>exact ht
  | tok s=>simp only[kill_tok];rw[uO _ _ (fun e=>ho (by rw[e]))];exact ht
 .by_cases e:t=nt
  .omega
  .rw[uO _ _ e] at ht;cases own with
   | full=>have:=hl t ht;omega
   | tok s =>
    simp only[kill_tok] at ht;by_cases e2:t=s
    .subst e2;rw[uS] at ht;cases ht
    .rw[uO _ _ e2] at ht;have:=hl t ht
     omega
theorem upd_upd{α:Type}(f:Nat->α)(k:Nat)(x y:α):upd (upd f k x) k y=upd f k y:=by
 funext j
 simp only[upd];split<;>rfl
theorem E.eq_and(x y:E):(decide (x.ty=y.ty)&&(decide (x.fr=y.fr)&&decide (x.to=y.to)))=decide (x=y):=by
 cases x;cases y;simp
def wantE(b:Gr)(nodes es:List Int):E :=
 let x:=b.edges.getD es.length default
 ⟨x.ty,nodes.getD x.fr.toNat 0,nodes.getD x.to.toNat 0⟩
def ovE(a b:Gr)(nodes:List Int):Nat->List Int->List Ov->List Ov
 | 0,es,out=>if 2000<out.length then out else out++[glue a b nodes es]
 | n+1,es,out=>if 2000<out.length then out else
   (List.range a.edges.length).foldl (fun (out:List Ov) (k:Nat)=>if a.edges.getD k default=wantE b nodes es/\(k:Int)∉es then ovE a b nodes n (es++[(k:Int)]) out else out) (ovE a b nodes n (es++[-1]) out)
structure OvH (a b:Gr) (nodes:List Int):Prop where
 fa:a.Fit
 va:vG a=0
 fb:b.Fit
 n:nodes.length=b.nodes.length
 x:∀e∈b.edges,0<=e.fr/\e.fr<nodes.length/\0<=e.to/\e.to<nodes.length
abbrev ovRow(a b:Gr)(out:List Ov)(own:Own):List AV:=[.d (ints a.nodes),.d (AM.edges a.edges),.d (ints b.nodes),.d (AM.edges b.edges),.osl 6 (out.map Ov.cells) own]
def ovStep(a b:Gr)(nodes:List Int)(n:Nat)(es:List Int)(out:List Ov)(k:Nat):List Ov:=if a.edges.getD k default=wantE b nodes es/\(k:Int)∉es then ovE a b nodes n (es++[(k:Int)]) out else out
theorem beqD(x y:Int):(x==y)=decide (x=y):=by by_cases h:x=y<;>simp[h]
def ovStepN(a b:Gr)(rec:List Int->List Ov->List Ov)(l:List Int)(out:List Ov)(k:Nat):List Ov:=if a.nodes.getD k 0=b.nodes.getD l.length 0/\(k:Int)∉l then rec (l++[(k:Int)]) out else out
def ovN(a b:Gr):Nat->List Int->List Ov->List Ov
 | 0,l,out=>if 2000<out.length then out else ovE a b l b.edges.length [] out
 | n+1,l,out=>if 2000<out.length then out else (List.range a.nodes.length).foldl (ovStepN a b (ovN a b n) l) (ovN a b n (l++[-1]) out)
structure NoH (a b:Gr):Prop where
 fa:a.Fit
 va:vG a=0
 fb:b.Fit
 x:∀e∈b.edges,0<=e.fr/\e.fr<b.nodes.length/\0<=e.to/\e.to<b.nodes.length
theorem Conv.sub{v v':AV}{m:AMem}(h:Sub v v'):Conv v m v' m:=⟨rfl,rfl,fun G w u h1 h2=>⟨G,h1,h _ _ _ h2,Le.refl G w,fun _ h=>h⟩⟩
theorem Sub.tup{xs ys:List AV}(h:SubL xs ys):Sub (.tup xs) (.tup ys):=fun G w v r=>by
 cases r with
 | tup hl hh=>have:=h.rvs ⟨hl,hh⟩;exact .tup this.1 this.2
def oR(a b:Gr):List Ov × Int :=
 if vG a≠0 then ([],vG a) else if vG b≠0 then ([],vG b) else if 40<a.nodes.length+b.nodes.length∨80<a.edges.length+b.edges.length then ([],3)
 else if 2000<(ovN a b b.nodes.length [] []).length then ([],3) else (ovN a b b.nodes.length [] [],0)
theorem validG_edges{g:Gr}(h:vG g=0):∀e∈g.edges,0<=e.fr/\e.fr<g.nodes.length/\0<=e.to/\e.to<g.nodes.length:=by
 intro e he;unfold vG at h;split at h
 .cases h
 .split at h
  .cases h
  .split at h
   .cases h
   .rename_i h3;have:=List.any_eq_false.1 (Bool.not_eq_true _ ▸ h3) e he
    simp[fitsB,withinB] at this;omega
def st13(a b:Gr)(nb:Nat)(box:Bxs)(tok:Tks)(nt:Nat)(i:Nat):AS :=
 ⟨tl [(2,.ptr (nb+2) 0 0),(3,.ptr (nb+3) 0 0),(12,.osl 2 [[ints a.nodes,AM.edges a.edges],[ints b.nodes,AM.edges b.edges]] .full),(13,I 2),(14,I i)],
  lb nb box [(2,[[.d (ints a.nodes),.d (AM.edges a.edges)]]),(3,[[.d (ints b.nodes),.d (AM.edges b.edges)]])],tok,nt⟩
def inv13(a b:Gr)(i:Nat):Prop:=i<=2/\(0<i->vG a=0)/\(1<i->vG b=0)
def mu13(i:Nat):Nat:=2-i
def PartL(l:List Int):Prop:=∀i (h:i<l.length),0<=l[i]/\l[i]<=i/\l.getD l[i].toNat 0=l[i]
def st105(l:List Int)(nb:Nat)(box:Bxs)(tok:Tks)(nt:Nat)(i:Nat):AS:=⟨tl [(0,.d (ints l)),(5,.d (ints l)),(6,I l.length),(7,I i)],lb nb box [],tok,nt⟩
theorem right105_c(l:List Int)(hl:l.length<=1000000)(hp:PartL l):DC 349 [.d (ints l)] (B true):=by
 intro tok nt box nb;refine sI func349 ntmps349 fun Hb Ht=>?_
 refine sR ?_;simp;refine sR ?_;simp;refine sN ?_;refine sL (st105 l nb box tok nt) (fun i=>i<=l.length) (fun i=>l.length-i) 0 (Nat.zero_le _) (wM (nr _) rfl (by simp[ToL]) trivial) ?_;rintro i S hi hS;simp only[st105] at hS;subst hS;have hw:=sW (i:=i) (by omega);refine sR ?_;simp;refine sC ?_;simp;refine⟨fun hlt=>?_,fun hge=>?_⟩
 .obtain⟨h1,h2,h3⟩:=hp i hlt;have h4:l[i].toNat<l.length:=by omega
  have h5:l[l[i].toNat]=l[i]:=by simpa[h4] using h3
  have k1:¬l[i]<0:=by omega
  have k2:¬(i:Int)<l[i]:=by omega
  refine sR ?_;simp[hlt];refine sR ?_;simp[k1,k2,h1,h4,h5];refine⟨by omega,?_⟩;refine sC ?_;simp;refine sR ?_;simp[hw];refine sE ?_;refine⟨i+1,hlt,by omega,wM (nr _) rfl (by simp[ToL]) trivial⟩
 .refine sX ?_;simp only[AU,↓reduceIte];refine sR ?_;simp;refine sT (sH Hb Ht ?_);simp
theorem one98_c(l:List Int)(hl:l.length<=80)(hp:PartL l):DC 347 [.d (ints l)] (I 0):=by
 intro tok nt box nb;refine sI func347 ntmps347 fun Hb Ht=>?_
 refine sR ?_;simp;refine sR ?_;simp;have h80:¬80<(l.length:Int):=by omega
 refine sC ?_;simp[h80];refine sR ?_;simp;refine sD (right105_c l (by omega) hp _ _) ?_;simp;refine sC ?_;simp;refine sR ?_;simp;refine sT (sH Hb Ht ?_);simp
def numN(l:List Int):Nat->List Int × Int
 | 0=>([],0)
 | i+1=>if l.getD i 0=i then ((numN l i).1++[(numN l i).2],(numN l i).2+1) else ((numN l i).1++[(numN l i).1.getD (l.getD i 0).toNat 0],(numN l i).2)
theorem numN_len(l:List Int):∀i,(numN l i).1.length=i/\0<=(numN l i).2/\(numN l i).2<=i
 | 0=>by simp[numN]
 | i+1=>by
  have:=numN_len l i
  simp only[numN];split<;>simp<;>omega
def st86(l:List Int)(nb:Nat)(box:Bxs)(x:Acc):AS :=
 ⟨tl [(6,.osl 1 (rI (numN l x.i).1) x.own),(7,I (numN l x.i).2),(15,.d (ints l)),(16,I l.length),(17,I x.i)],lb nb box [],x.tok,x.nt⟩
theorem quotient86_c(l:List Int)(hl:l.length<=80)(hp:PartL l):DC 339 [.d (ints l)] (.tup [.d (ints (numN l l.length).1),I (numN l l.length).2,I 0]):=by
 intro tok nt box nb;refine sI func339 ntmps339 fun Hb Ht=>?_
 refine sR ?_;simp;refine sR ?_;simp;refine sD (one98_c l hl hp _ _) ?_;simp;refine sR ?_;simp;refine sC ?_;simp;refine sR ?_;simp;refine sR ?_;simp;refine sR ?_;simp;refine sN ?_;refine sL (st86 l nb box) (fun x=>x.i<=l.length/\TK tok nt x.tok x.nt [x.own]) (fun x=>l.length-x.i) ⟨0,.full,tok,nt⟩ ⟨Nat.zero_le _,(TK.start Ht).full⟩ (wM (nr _) rfl (by simp[ToL,numN]) trivial) ?_;rintro⟨i,own,tok',nt'⟩ S ⟨hi,htk⟩ hS;simp only[st86] at hS hi htk;subst hS;have hw:=sW (i:=i) (by omega);obtain⟨hn1,hn2,hn3⟩:=numN_len l i;refine sR ?_;simp;refine sC ?_;simp;refine⟨fun hlt=>?_,fun hge=>?_⟩
 .obtain⟨h1,h2,h3⟩:=hp i hlt;have hwn:IntKind.i64.wrap ((numN l i).2+1)=(numN l i).2+1:=wrap_in (by omega) (by omega)
  refine sR ?_;simp[hlt];refine sR ?_;simp;refine sC ?_;simp;refine⟨fun he=>?_,fun hne=>?_⟩
  .refine sR ?_;simp;refine⟨⟨by omega,htk.live⟩,?_⟩;refine sR ?_;simp[hwn];refine sR ?_;simp[hw];refine sE ?_;refine⟨⟨i+1,_,_,_⟩,⟨hlt,htk.app⟩,by simp;omega,wM htk.app.le rfl (by simp[ToL,numN,hlt,he]) trivial⟩
  .have h4:l[i].toNat<(numN l i).1.length:=by omega
   have h5:l[i]<((numN l i).1.length:Int):=by omega
   refine sR ?_;simp[h1,h4,h5];refine⟨⟨by omega,htk.live⟩,?_⟩;refine sR ?_;simp[hw];refine sE ?_;refine⟨⟨i+1,_,_,_⟩,⟨hlt,htk.app⟩,by simp;omega,wM htk.app.le rfl (by simp[ToL,numN,hlt,hne,h4]) trivial⟩
 .refine sX ?_;simp only[AU,↓reduceIte];have:i=l.length:=by omega
  subst this;refine sR ?_;simp;refine sT (sG Hb Ht htk.old htk.le ?_);simp
abbrev rL(L:List (List Int)):List (List D):=L.map fun l=>[ints l]
abbrev lists(L:List (List Int)):D:=.sl 1 (rL L)
def nextsK(l:List Int)(k:Nat):List (List Int):=((List.range k).filter fun x=>decide (x=l.length)||decide (l.getD x 0=x)).map fun (x:Nat)=>l++[(x:Int)]
def partsN:Nat->List (List Int)
 | 0=>[[]]
 | n+1=>(partsN n).flatMap fun l=>nextsK l (n+1)
theorem partsN_len:∀n,∀l∈partsN n,l.length=n
 | 0=>by simp[partsN]
 | n+1=>by
  intro l hl;simp only[partsN,List.mem_flatMap] at hl;obtain⟨p,hp,hl⟩:=hl;have:=partsN_len n p hp
  simp only[nextsK,List.mem_map] at hl;obtain⟨x,_,rfl⟩:=hl;simp[this]
def repN(an l:List Int):Nat->List Int
 | 0=>[]
 | i+1=>if l.getD i 0=i then repN an l i++[an.getD i 0] else repN an l i
def repE(ae:List E)(qn l:List Int):Nat->List E
 | 0=>[]
 | i+1=>if l.getD i 0=i then repE ae qn l i++[⟨(ae.getD i default).ty,qn.getD (ae.getD i default).fr.toNat 0,qn.getD (ae.getD i default).to.toNat 0⟩] else repE ae qn l i
def quot(a:Gr)(nodes edges:List Int):Qu :=
 let qn:=(numN nodes nodes.length).1
 ⟨⟨repN a.nodes nodes nodes.length,repE a.edges qn edges edges.length⟩,⟨qn,(numN edges edges.length).1⟩⟩
theorem repN_len(an l:List Int):∀i,(repN an l i).length<=i
 | 0=>by simp[repN]
 | i+1=>by
  have:=repN_len an l i
  simp only[repN];split<;>simp<;>omega
theorem repE_len(ae:List E)(qn l:List Int):∀i,(repE ae qn l i).length<=i
 | 0=>by simp[repE]
 | i+1=>by
  have:=repE_len ae qn l i
  simp only[repE];split<;>simp<;>omega
def alikeK(g:Nat->Int->Bool)(p:List Int)(i:Nat):Bool:=(List.range i).all fun j=>g j (p.getD j 0)
def alikeB(g:Nat->Int->Bool)(p:List Int):Bool:=alikeK g p p.length
theorem alikeK_succ(g:Nat->Int->Bool)(p:List Int)(i:Nat):alikeK g p (i+1)=(alikeK g p i&&g i (p.getD i 0)):=by
 simp[alikeK,List.range_succ]
def lim{α:Type}(out L:List α):List α:=out++L.take (2001-out.length)
theorem lim_nil{α:Type}(out:List α):lim out []=out:=by simp[lim]
theorem lim_append{α:Type}(out A B:List α):lim (lim out A) B=lim out (A++B):=by
 unfold lim;rw[List.take_append,List.append_assoc];congr 2
 simp only[List.length_append,List.length_take];congr 1
 omega
theorem lim_full{α:Type}(out L:List α)(h:2000<out.length):lim out L=out:=by
 unfold lim;have:2001-out.length=0:=by omega
 simp[this]
theorem lim_one{α:Type}(out:List α)(x:α)(h:¬2000<out.length):lim out [x]=out++[x]:=by
 unfold lim;have:2001-out.length=(2001-out.length-1)+1:=by omega
 rw[this];simp
theorem foldl_lim{α:Type}(c:Nat->Bool)(f:Nat->List α->List α)(g:Nat->List α):∀(ks:List Nat) (out:List α),(∀k∈ks,∀out,f k out=lim out (g k)) ->
  ks.foldl (fun out k=>if c k=true then f k out else out) out=lim out ((ks.filter c).flatMap g)
 | [],out,_=>by simp[lim_nil]
 | k::ks,out,h=>by
  rw[List.foldl_cons,foldl_lim c f g ks _ (fun k hk=>h k (by simp[hk]))];by_cases hk:c k=true
  .rw[List.filter_cons_of_pos hk,List.flatMap_cons,if_pos hk,h k (by simp),lim_append]
  .rw[List.filter_cons_of_neg hk,if_neg hk]
def nextsG(g:Nat->Int->Bool)(l:List Int):List (List Int):=((List.range (l.length+1)).filter fun x=>decide (x=l.length∨(l.getD x 0=x/\g l.length x=true))).map fun (x:Nat)=>l++[(x:Int)]
def reachG(g:Nat->Int->Bool):Nat->List Int->List (List Int)
 | 0,l=>[l]
 | n+1,l=>(reachG g n l).flatMap (nextsG g)
theorem alikeB_snoc(g:Nat->Int->Bool)(l:List Int)(x:Int):alikeB g (l++[x])=(alikeB g l&&g l.length x):=by
 unfold alikeB;simp only[List.length_append,List.length_cons,List.length_nil,Nat.zero_add];rw[alikeK_succ];congr 1
 .unfold alikeK;rw[Bool.eq_iff_iff,List.all_eq_true,List.all_eq_true];constructor<;>intro h j hj<;>have:=h j hj<;>have hj':j<l.length:=by simpa using hj
  .rw[List.getD_eq_getElem?_getD,List.getElem?_append_left hj',<-List.getD_eq_getElem?_getD] at this;exact this
  .rw[List.getD_eq_getElem?_getD,List.getElem?_append_left hj',<-List.getD_eq_getElem?_getD];exact this
 .simp
theorem reach_filter(g:Nat->Int->Bool)(hg:∀i:Nat,g i i=true):∀n,reachG g n []=(partsN n).filter (alikeB g)
 | 0=>by simp[reachG,partsN,alikeB,alikeK]
 | n+1=>by
  rw[reachG,reach_filter g hg n,partsN,List.filter_flatMap];have key:∀L:List (List Int),(∀l∈L,l.length=n)->(L.filter (alikeB g)).flatMap (nextsG g)=L.flatMap fun l=>(nextsK l (n+1)).filter (alikeB g):=by
   intro L;induction L with
   | nil=>intro _;rfl
   | cons l L ih =>
    intro hL;have hl:=hL l (by simp);have hone:(nextsK l (n+1)).filter (alikeB g)=if alikeB g l=true then nextsG g l else []:=by
     unfold nextsK nextsG;rw[List.filter_map,List.filter_filter,hl];by_cases ha:alikeB g l=true
     .rw[if_pos ha];congr 1
      apply List.filter_congr;intro x hx;simp only[Function.comp,alikeB_snoc,ha,Bool.true_and,hl];rw[Bool.eq_iff_iff];simp only[Bool.and_eq_true,Bool.or_eq_true,decide_eq_true_eq];constructor
      .rintro⟨h1,h2|h2⟩
       .exact .inl h2
       .exact .inr ⟨h2,h1⟩
      .rintro(h1|⟨h1,h2⟩)
       .subst h1;exact⟨hg _,.inl rfl⟩
       .exact⟨h2,.inr h1⟩
     .rw[if_neg ha];have:((List.range (n+1)).filter fun a=>((alikeB g) ∘ fun (x:Nat)=>l++[(x:Int)]) a&&(decide (a=n)||decide (l.getD a 0=↑a)))=[]:=by
       rw[List.filter_eq_nil_iff];intro x hx;simp only[Function.comp,alikeB_snoc];simp[ha]
      rw[this];rfl
    rw[List.flatMap_cons,hone];by_cases ha:alikeB g l=true
    .rw[List.filter_cons_of_pos ha,List.flatMap_cons,if_pos ha,ih fun l hl=>hL l (by simp[hl])]
    .rw[List.filter_cons_of_neg ha,if_neg ha,ih fun l hl=>hL l (by simp[hl])];rfl
  exact key _ (partsN_len n)
section
variable {α:Type}
def repG(f:Nat->α)(l:List Int):Nat->List α
 | 0=>[]
 | i+1=>if l.getD i 0=i then repG f l i++[f i] else repG f l i
end
theorem repN_eq(an l:List Int):∀i,repN an l i=repG (fun j=>an.getD j 0) l i
 | 0=>rfl
 | i+1=>by rw[repN,repG,repN_eq an l i]
def edgeAt(ae:List E)(p:List Int)(j:Nat):E:=⟨(ae.getD j default).ty,p.getD (ae.getD j default).fr.toNat 0,p.getD (ae.getD j default).to.toNat 0⟩
theorem repE_eq(ae:List E)(p l:List Int):∀i,repE ae p l i=repG (edgeAt ae p) l i
 | 0=>rfl
 | i+1=>by rw[repE,repG,repE_eq ae p l i];rfl
end Go.AM
