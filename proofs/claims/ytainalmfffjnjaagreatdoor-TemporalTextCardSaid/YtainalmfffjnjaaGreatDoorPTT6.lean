/-
 Parts of the proof, as merged from many texts: a machine over data, what the functions compute, plain laws.
-/
import Derived.Test.YtainalmfffjnjaaGreatDoorPTT5
import Derived.Test.YtainalmfffjnjaaGreatDoorRows
import Derived.Shelf.Sort.Plain
import Derived.Ground.Names2Prog
import Derived.Shelf.Slices.Clone
import Derived.Shelf.Slices.CompactI
import Derived.Shelf.Slices.In.SortNone
import Derived.Test.YtainalmfffjnjaaGreatDoorProg
import Derived.Test.YtainalmfffjnjaaGreatDoorChecked
import Derived.WalkKit
import Derived.Deep.LoopGhost
import Derived.Sort.OwnSortedInts
import Derived.Lib.OwnBridge
set_option linter.unusedSimpArgs false
set_option linter.unusedVariables false
namespace Go.AM
open Go Go.Proofs
open Go.Proofs.Tryz
theorem follows_Tryz:prog.follows .mixedOrders=true:=by kernel_rfl
@[simp] theorem tb21_T6:(szOf prog 2=some 1)/\(aggT prog 2=some false)/\(strT prog 2=false)/\(boolT prog 2=false)/\(elemT prog 2=none)/\(rowT prog 2=none)/\(kindT prog 2=some .i64)/\(zeroT prog 2=some [.int .i64 0])/\(szOf prog 3=some 1)/\(aggT prog 3=some false)/\(strT prog 3=false)/\(boolT prog 3=false):=by
 and_intros<;>kernel_rfl
@[simp] theorem tb22_T6:(elemT prog 3=none)/\(rowT prog 3=none)/\(kindT prog 3=some .i64)/\(zeroT prog 3=some [.int .i64 0])/\(szOf prog 4=some 1)/\(aggT prog 4=some false)/\(strT prog 4=false)/\(boolT prog 4=true)/\(elemT prog 4=none)/\(rowT prog 4=none)/\(zeroT prog 4=some [.bool false])/\(szOf prog 5=some 1):=by
 and_intros<;>kernel_rfl
@[simp] theorem tb23_T6:(aggT prog 5=some false)/\(strT prog 5=false)/\(boolT prog 5=false)/\(elemT prog 5=none)/\(rowT prog 5=none)/\(kindT prog 5=some .u8)/\(zeroT prog 5=some [.int .u8 0])/\(szOf prog 9=some 1)/\(aggT prog 9=some false)/\(strT prog 9=true)/\(boolT prog 9=false)/\(elemT prog 9=none):=by
 and_intros<;>kernel_rfl
@[simp] theorem tb24_T6:(rowT prog 9=none)/\(zeroT prog 9=some [.string ⟨#[]⟩])/\(szOf prog 21=some 1)/\(aggT prog 21=some false)/\(strT prog 21=false)/\(boolT prog 21=false)/\(elemT prog 21=none)/\(rowT prog 21=none)/\(kindT prog 21=some .i32)/\(zeroT prog 21=some [.int .i32 0])/\(szOf prog 22=some 1)/\(aggT prog 22=some false):=by
 and_intros<;>kernel_rfl
@[simp] theorem tb25_T6:(strT prog 22=false)/\(boolT prog 22=false)/\(elemT prog 22=some 106)/\(rowT prog 22=some (106,4,56))/\(makeT prog 22=some (4,56,[.string ⟨#[]⟩,.int .i64 0,.bool false,.slice none 0 0]))/\(zeroT prog 22=some [.slice none 0 0])/\(szOf prog 23=some 1)/\(aggT prog 23=some false)/\(strT prog 23=false)/\(boolT prog 23=false)/\(elemT prog 23=some 143)/\(rowT prog 23=some (143,7,64)):=by
 and_intros<;>kernel_rfl
@[simp] theorem tb26_T6:(makeT prog 23=some (7,64,[.string ⟨#[]⟩,.int .i64 0,.int .i64 0,.int .i64 0,.int .i64 0,.int .i64 0,.int .i64 0]))/\(zeroT prog 23=some [.slice none 0 0])/\(szOf prog 25=some 2)/\(aggT prog 25=some true)/\(strT prog 25=false)/\(boolT prog 25=false)/\(elemT prog 25=none)/\(rowT prog 25=none)/\(structT prog 25=some [(0,1),(1,1)])/\(fieldT prog 25 0=some (22,0))/\(fieldT prog 25 1=some (23,1))/\(zeroT prog 25=some [.slice none 0 0,.slice none 0 0]):=by
 and_intros<;>kernel_rfl
@[simp] theorem tb27_T6:(szOf prog 26=some 1)/\(aggT prog 26=some false)/\(strT prog 26=false)/\(boolT prog 26=false)/\(elemT prog 26=some 3)/\(rowT prog 26=some (3,1,8))/\(makeT prog 26=some (1,8,[.int .i64 0]))/\(zeroT prog 26=some [.slice none 0 0])/\(szOf prog 27=some 1)/\(aggT prog 27=some false)/\(strT prog 27=false)/\(boolT prog 27=false):=by
 and_intros<;>kernel_rfl
@[simp] theorem tb28_T6:(elemT prog 27=some 139)/\(rowT prog 27=some (139,3,24))/\(makeT prog 27=some (3,24,[.int .i64 0,.int .i64 0,.int .i64 0]))/\(zeroT prog 27=some [.slice none 0 0])/\(szOf prog 29=some 2)/\(aggT prog 29=some true)/\(strT prog 29=false)/\(boolT prog 29=false)/\(elemT prog 29=none)/\(rowT prog 29=none)/\(structT prog 29=some [(0,1),(1,1)])/\(fieldT prog 29 0=some (26,0)):=by
 and_intros<;>kernel_rfl
@[simp] theorem tb29_T6:(fieldT prog 29 1=some (27,1))/\(zeroT prog 29=some [.slice none 0 0,.slice none 0 0])/\(szOf prog 30=some 1)/\(aggT prog 30=some false)/\(strT prog 30=false)/\(boolT prog 30=false)/\(elemT prog 30=some 146)/\(rowT prog 30=some (146,4,96))/\(makeT prog 30=some (4,96,[.slice none 0 0,.slice none 0 0,.slice none 0 0,.slice none 0 0]))/\(zeroT prog 30=some [.slice none 0 0])/\(szOf prog 32=some 5)/\(aggT prog 32=some true):=by
 and_intros<;>kernel_rfl
@[simp] theorem tb30_T6:(strT prog 32=false)/\(boolT prog 32=false)/\(elemT prog 32=none)/\(rowT prog 32=none)/\(structT prog 32=some [(0,1),(1,1),(2,2),(4,1)])/\(fieldT prog 32 0=some (9,0))/\(fieldT prog 32 1=some (3,1))/\(fieldT prog 32 2=some (29,2))/\(fieldT prog 32 3=some (30,4))/\(zeroT prog 32=some [.string ⟨#[]⟩,.int .i64 0,.slice none 0 0,.slice none 0 0,.slice none 0 0])/\(szOf prog 36=some 1)/\(aggT prog 36=some false):=by
 and_intros<;>kernel_rfl
@[simp] theorem tb31_T6:(strT prog 36=false)/\(boolT prog 36=false)/\(elemT prog 36=some 44)/\(rowT prog 36=some (44,9,184))/\(makeT prog 36=some (9,184,[.int .i64 0,.slice none 0 0,.slice none 0 0,.slice none 0 0,.slice none 0 0,.slice none 0 0,.slice none 0 0,.int .i64 0,.slice none 0 0]))/\(zeroT prog 36=some [.slice none 0 0])/\(szOf prog 38=some 2)/\(aggT prog 38=some true)/\(strT prog 38=false)/\(boolT prog 38=false)/\(elemT prog 38=none)/\(rowT prog 38=none):=by
 and_intros<;>kernel_rfl
@[simp] theorem tb32_T6:(structT prog 38=some [(0,1),(1,1)])/\(fieldT prog 38 0=some (26,0))/\(fieldT prog 38 1=some (26,1))/\(zeroT prog 38=some [.slice none 0 0,.slice none 0 0])/\(szOf prog 39=some 1)/\(aggT prog 39=some false)/\(strT prog 39=false)/\(boolT prog 39=false)/\(elemT prog 39=some 159)/\(rowT prog 39=some (159,4,32))/\(makeT prog 39=some (4,32,[.int .i64 0,.int .i64 0,.int .i64 0,.int .i64 0]))/\(zeroT prog 39=some [.slice none 0 0]):=by
 and_intros<;>kernel_rfl
@[simp] theorem tb33_T6:(szOf prog 40=some 1)/\(aggT prog 40=some false)/\(strT prog 40=false)/\(boolT prog 40=false)/\(elemT prog 40=some 161)/\(rowT prog 40=some (161,5,40))/\(makeT prog 40=some (5,40,[.int .i64 0,.int .i64 0,.int .i64 0,.int .i64 0,.int .i64 0]))/\(zeroT prog 40=some [.slice none 0 0])/\(szOf prog 42=some 5)/\(aggT prog 42=some true)/\(strT prog 42=false)/\(boolT prog 42=false):=by
 and_intros<;>kernel_rfl
@[simp] theorem tb34_T6:(elemT prog 42=none)/\(rowT prog 42=none)/\(structT prog 42=some [(0,2),(2,1),(3,1),(4,1)])/\(fieldT prog 42 0=some (29,0))/\(fieldT prog 42 1=some (39,2))/\(fieldT prog 42 2=some (3,3))/\(fieldT prog 42 3=some (40,4))/\(zeroT prog 42=some [.slice none 0 0,.slice none 0 0,.slice none 0 0,.int .i64 0,.slice none 0 0])/\(szOf prog 44=some 9)/\(aggT prog 44=some true)/\(strT prog 44=false)/\(boolT prog 44=false):=by
 and_intros<;>kernel_rfl
@[simp] theorem tb35_T6:(elemT prog 44=none)/\(rowT prog 44=none)/\(structT prog 44=some [(0,1),(1,1),(2,2),(4,5)])/\(fieldT prog 44 0=some (3,0))/\(fieldT prog 44 1=some (36,1))/\(fieldT prog 44 2=some (38,2))/\(fieldT prog 44 3=some (42,4))/\(zeroT prog 44=some [.int .i64 0,.slice none 0 0,.slice none 0 0,.slice none 0 0,.slice none 0 0,.slice none 0 0,.slice none 0 0,.int .i64 0,.slice none 0 0])/\(szOf prog 45=some 1)/\(aggT prog 45=some false)/\(strT prog 45=false)/\(boolT prog 45=false):=by
 and_intros<;>kernel_rfl
@[simp] theorem tb36_T6:(elemT prog 45=none)/\(rowT prog 45=none)/\(kindT prog 45=some .i64)/\(zeroT prog 45=some [.int .i64 0])/\(szOf prog 57=some 1)/\(aggT prog 57=some false)/\(strT prog 57=false)/\(boolT prog 57=false)/\(elemT prog 57=some 59)/\(rowT prog 57=some (59,3,48))/\(makeT prog 57=some (3,48,[.int .i64 0,.string ⟨#[]⟩,.slice none 0 0]))/\(zeroT prog 57=some [.slice none 0 0]):=by
 and_intros<;>kernel_rfl
@[simp] theorem szOf_59:szOf prog 59=some 3:=by kernel_rfl
@[simp] theorem aggT_59:aggT prog 59=some true:=by kernel_rfl
@[simp] theorem tb39_T6:(strT prog 59=false)/\(boolT prog 59=false)/\(elemT prog 59=none)/\(rowT prog 59=none)/\(structT prog 59=some [(0,1),(1,1),(2,1)])/\(fieldT prog 59 0=some (3,0))/\(fieldT prog 59 1=some (9,1))/\(fieldT prog 59 2=some (57,2))/\(zeroT prog 59=some [.int .i64 0,.string ⟨#[]⟩,.slice none 0 0])/\(szOf prog 60=some 1)/\(aggT prog 60=some false)/\(strT prog 60=false):=by
 and_intros<;>kernel_rfl
@[simp] theorem tb40_T6:(boolT prog 60=false)/\(elemT prog 60=some 32)/\(rowT prog 60=some (32,5,96))/\(makeT prog 60=some (5,96,[.string ⟨#[]⟩,.int .i64 0,.slice none 0 0,.slice none 0 0,.slice none 0 0]))/\(zeroT prog 60=some [.slice none 0 0])/\(szOf prog 66=some 1):=by
 and_intros<;>kernel_rfl
@[simp] theorem aggT_66:aggT prog 66=some false:=by kernel_rfl
@[simp] theorem tb42_T6:(strT prog 66=false)/\(boolT prog 66=false)/\(elemT prog 66=some 5)/\(rowT prog 66=some (5,1,1))/\(makeT prog 66=some (1,1,[.int .u8 0]))/\(zeroT prog 66=some [.slice none 0 0])/\(szOf prog 67=some 1)/\(aggT prog 67=some false)/\(strT prog 67=false)/\(boolT prog 67=false)/\(elemT prog 67=some 169)/\(rowT prog 67=some (169,2,2)):=by
 and_intros<;>kernel_rfl
@[simp] theorem tb43_T6:(makeT prog 67=some (2,2,[.int .u8 0,.int .u8 0]))/\(zeroT prog 67=some [.slice none 0 0])/\(szOf prog 70=some 1)/\(aggT prog 70=some false)/\(strT prog 70=false)/\(boolT prog 70=false)/\(elemT prog 70=some 116)/\(rowT prog 70=some (116,3,72))/\(makeT prog 70=some (3,72,[.slice none 0 0,.slice none 0 0,.slice none 0 0]))/\(zeroT prog 70=some [.slice none 0 0])/\(szOf prog 71=some 1)/\(aggT prog 71=some false):=by
 and_intros<;>kernel_rfl
@[simp] theorem tb44_T6:(strT prog 71=false)/\(boolT prog 71=false)/\(elemT prog 71=some 94)/\(rowT prog 71=some (94,6,96))/\(makeT prog 71=some (6,96,[.int .i64 0,.int .i64 0,.int .i64 0,.slice none 0 0,.slice none 0 0,.slice none 0 0]))/\(zeroT prog 71=some [.slice none 0 0])/\(szOf prog 73=some 2)/\(aggT prog 73=some true)/\(strT prog 73=false)/\(boolT prog 73=false)/\(elemT prog 73=none)/\(rowT prog 73=none):=by
 and_intros<;>kernel_rfl
@[simp] theorem tb45_T6:(structT prog 73=some [(0,1),(1,1)])/\(fieldT prog 73 0=some (70,0))/\(fieldT prog 73 1=some (71,1))/\(zeroT prog 73=some [.slice none 0 0,.slice none 0 0])/\(szOf prog 80=some 1)/\(aggT prog 80=some false)/\(strT prog 80=false)/\(boolT prog 80=false)/\(elemT prog 80=some 4)/\(rowT prog 80=some (4,1,1))/\(makeT prog 80=some (1,1,[.bool false]))/\(zeroT prog 80=some [.slice none 0 0]):=by
 and_intros<;>kernel_rfl
@[simp] theorem tb46_T6:(szOf prog 92=some 3)/\(aggT prog 92=some true)/\(strT prog 92=false)/\(boolT prog 92=false)/\(elemT prog 92=none)/\(rowT prog 92=none)/\(structT prog 92=some [(0,2),(2,1)])/\(fieldT prog 92 0=some (38,0))/\(fieldT prog 92 1=some (26,2))/\(zeroT prog 92=some [.slice none 0 0,.slice none 0 0,.slice none 0 0])/\(szOf prog 94=some 6)/\(aggT prog 94=some true):=by
 and_intros<;>kernel_rfl
@[simp] theorem tb47_T6:(strT prog 94=false)/\(boolT prog 94=false)/\(elemT prog 94=none)/\(rowT prog 94=none)/\(structT prog 94=some [(0,1),(1,1),(2,1),(3,3)])/\(fieldT prog 94 0=some (3,0))/\(fieldT prog 94 1=some (3,1))/\(fieldT prog 94 2=some (3,2))/\(fieldT prog 94 3=some (92,3))/\(zeroT prog 94=some [.int .i64 0,.int .i64 0,.int .i64 0,.slice none 0 0,.slice none 0 0,.slice none 0 0])/\(szOf prog 104=some 1)/\(aggT prog 104=some false):=by
 and_intros<;>kernel_rfl
@[simp] theorem tb48_T6:(strT prog 104=false)/\(boolT prog 104=false)/\(elemT prog 104=some 141)/\(rowT prog 104=some (141,4,56))/\(makeT prog 104=some (4,56,[.string ⟨#[]⟩,.int .i64 0,.int .i64 0,.slice none 0 0]))/\(zeroT prog 104=some [.slice none 0 0])/\(szOf prog 106=some 4)/\(aggT prog 106=some true)/\(strT prog 106=false)/\(boolT prog 106=false)/\(elemT prog 106=none)/\(rowT prog 106=none):=by
 and_intros<;>kernel_rfl
@[simp] theorem tb49_T6:(structT prog 106=some [(0,1),(1,1),(2,1),(3,1)])/\(fieldT prog 106 0=some (9,0))/\(fieldT prog 106 1=some (3,1))/\(fieldT prog 106 2=some (4,2))/\(fieldT prog 106 3=some (104,3))/\(zeroT prog 106=some [.string ⟨#[]⟩,.int .i64 0,.bool false,.slice none 0 0])/\(szOf prog 114=some 1)/\(aggT prog 114=some false)/\(strT prog 114=false)/\(boolT prog 114=false)/\(elemT prog 114=some 26)/\(rowT prog 114=some (26,1,24)):=by
 and_intros<;>kernel_rfl
@[simp] theorem tb50_T6:(makeT prog 114=some (1,24,[.slice none 0 0]))/\(zeroT prog 114=some [.slice none 0 0])/\(szOf prog 116=some 3)/\(aggT prog 116=some true)/\(strT prog 116=false)/\(boolT prog 116=false)/\(elemT prog 116=none)/\(rowT prog 116=none)/\(structT prog 116=some [(0,2),(2,1)])/\(fieldT prog 116 0=some (29,0))/\(fieldT prog 116 1=some (114,2))/\(zeroT prog 116=some [.slice none 0 0,.slice none 0 0,.slice none 0 0]):=by
 and_intros<;>kernel_rfl
@[simp] theorem tb51_T6:(szOf prog 117=some 1)/\(aggT prog 117=some false)/\(strT prog 117=false)/\(boolT prog 117=false)/\(elemT prog 117=some 38)/\(rowT prog 117=some (38,2,48))/\(makeT prog 117=some (2,48,[.slice none 0 0,.slice none 0 0]))/\(zeroT prog 117=some [.slice none 0 0])/\(szOf prog 127=some 1)/\(aggT prog 127=some false)/\(strT prog 127=false)/\(boolT prog 127=false):=by
 and_intros<;>kernel_rfl
@[simp] theorem tb52_T6:(elemT prog 127=none)/\(rowT prog 127=none)/\(zeroT prog 127=some [.pointer none])/\(szOf prog 129=some 2)/\(aggT prog 129=some true)/\(strT prog 129=false)/\(boolT prog 129=false)/\(elemT prog 129=none)/\(rowT prog 129=none)/\(structT prog 129=some [(0,1),(1,1)])/\(fieldT prog 129 0=some (127,0))/\(fieldT prog 129 1=some (66,1)):=by
 and_intros<;>kernel_rfl
@[simp] theorem tb53_T6:(zeroT prog 129=some [.pointer none,.slice none 0 0])/\(szOf prog 130=some 1)/\(aggT prog 130=some false)/\(strT prog 130=false)/\(boolT prog 130=false)/\(elemT prog 130=some 9)/\(rowT prog 130=some (9,1,16))/\(makeT prog 130=some (1,16,[.string ⟨#[]⟩]))/\(zeroT prog 130=some [.slice none 0 0])/\(szOf prog 133=some 1)/\(aggT prog 133=some false)/\(strT prog 133=false):=by
 and_intros<;>kernel_rfl
@[simp] theorem tb54_T6:(boolT prog 133=false)/\(elemT prog 133=none)/\(rowT prog 133=none)/\(zeroT prog 133=some [.nilIface])/\(szOf prog 139=some 3)/\(aggT prog 139=some true)/\(strT prog 139=false)/\(boolT prog 139=false)/\(elemT prog 139=none)/\(rowT prog 139=none)/\(eqT prog 139=some 3)/\(structT prog 139=some [(0,1),(1,1),(2,1)]):=by
 and_intros<;>kernel_rfl
@[simp] theorem tb55_T6:(fieldT prog 139 0=some (3,0))/\(fieldT prog 139 1=some (3,1))/\(fieldT prog 139 2=some (3,2))/\(zeroT prog 139=some [.int .i64 0,.int .i64 0,.int .i64 0])/\(szOf prog 141=some 4)/\(aggT prog 141=some true)/\(strT prog 141=false)/\(boolT prog 141=false)/\(elemT prog 141=none)/\(rowT prog 141=none)/\(structT prog 141=some [(0,1),(1,1),(2,1),(3,1)])/\(fieldT prog 141 0=some (9,0)):=by
 and_intros<;>kernel_rfl
@[simp] theorem tb56_T6:(fieldT prog 141 1=some (3,1))/\(fieldT prog 141 2=some (3,2))/\(fieldT prog 141 3=some (130,3))/\(zeroT prog 141=some [.string ⟨#[]⟩,.int .i64 0,.int .i64 0,.slice none 0 0])/\(szOf prog 143=some 7)/\(aggT prog 143=some true)/\(strT prog 143=false)/\(boolT prog 143=false)/\(elemT prog 143=none)/\(rowT prog 143=none)/\(structT prog 143=some [(0,1),(1,1),(2,1),(3,1),(4,1),(5,1),(6,1)])/\(fieldT prog 143 0=some (9,0)):=by
 and_intros<;>kernel_rfl
@[simp] theorem tb57_T6:(fieldT prog 143 1=some (3,1))/\(fieldT prog 143 2=some (3,2))/\(fieldT prog 143 3=some (3,3))/\(fieldT prog 143 4=some (3,4))/\(fieldT prog 143 5=some (3,5))/\(fieldT prog 143 6=some (3,6))/\(zeroT prog 143=some [.string ⟨#[]⟩,.int .i64 0,.int .i64 0,.int .i64 0,.int .i64 0,.int .i64 0,.int .i64 0])/\(szOf prog 146=some 4)/\(aggT prog 146=some true)/\(strT prog 146=false)/\(boolT prog 146=false)/\(elemT prog 146=none):=by
 and_intros<;>kernel_rfl
@[simp] theorem tb58_T6:(rowT prog 146=none)/\(structT prog 146=some [(0,2),(2,2)])/\(fieldT prog 146 0=some (38,0))/\(fieldT prog 146 1=some (29,2))/\(zeroT prog 146=some [.slice none 0 0,.slice none 0 0,.slice none 0 0,.slice none 0 0])/\(szOf prog 157=some 2)/\(aggT prog 157=some true)/\(strT prog 157=false)/\(boolT prog 157=false)/\(elemT prog 157=none)/\(rowT prog 157=none)/\(eqT prog 157=some 2):=by
 and_intros<;>kernel_rfl
@[simp] theorem tb59_T6:(structT prog 157=some [(0,1),(1,1)])/\(fieldT prog 157 0=some (3,0))/\(fieldT prog 157 1=some (3,1))/\(zeroT prog 157=some [.int .i64 0,.int .i64 0])/\(szOf prog 159=some 4)/\(aggT prog 159=some true)/\(strT prog 159=false)/\(boolT prog 159=false)/\(elemT prog 159=none)/\(rowT prog 159=none)/\(structT prog 159=some [(0,1),(1,1),(2,2)])/\(fieldT prog 159 0=some (3,0)):=by
 and_intros<;>kernel_rfl
@[simp] theorem tb60_T6:(fieldT prog 159 1=some (3,1))/\(fieldT prog 159 2=some (157,2))/\(zeroT prog 159=some [.int .i64 0,.int .i64 0,.int .i64 0,.int .i64 0])/\(szOf prog 161=some 5)/\(aggT prog 161=some true)/\(strT prog 161=false)/\(boolT prog 161=false)/\(elemT prog 161=none)/\(rowT prog 161=none)/\(structT prog 161=some [(0,1),(1,2),(3,2)])/\(fieldT prog 161 0=some (3,0))/\(fieldT prog 161 1=some (157,1)):=by
 and_intros<;>kernel_rfl
@[simp] theorem tb61_T6:(fieldT prog 161 2=some (157,3))/\(zeroT prog 161=some [.int .i64 0,.int .i64 0,.int .i64 0,.int .i64 0,.int .i64 0])/\(szOf prog 169=some 2)/\(aggT prog 169=some true)/\(strT prog 169=false)/\(boolT prog 169=false)/\(elemT prog 169=none)/\(rowT prog 169=none)/\(arrT prog 169=some (2,5))/\(structT prog 169=none)/\(zeroT prog 169=some [.int .u8 0,.int .u8 0])/\(szOf prog 178=some 1):=by
 and_intros<;>kernel_rfl
@[simp] theorem tb62_T6:(aggT prog 178=some false)/\(strT prog 178=false)/\(boolT prog 178=false)/\(elemT prog 178=none)/\(rowT prog 178=none)/\(zeroT prog 178=some [.map none])/\(szOf prog 180=some 3)/\(aggT prog 180=some true)/\(strT prog 180=false)/\(boolT prog 180=false)/\(elemT prog 180=none)/\(rowT prog 180=none):=by
 and_intros<;>kernel_rfl
@[simp] theorem tb63_T6:(structT prog 180=some [(0,1),(1,1),(2,1)])/\(fieldT prog 180 0=some (114,0))/\(fieldT prog 180 1=some (114,1))/\(fieldT prog 180 2=some (178,2))/\(zeroT prog 180=some [.slice none 0 0,.slice none 0 0,.map none])/\(szOf prog 185=some 1)/\(aggT prog 185=some false)/\(strT prog 185=false)/\(boolT prog 185=false)/\(elemT prog 185=some 29)/\(rowT prog 185=some (29,2,48))/\(makeT prog 185=some (2,48,[.slice none 0 0,.slice none 0 0])):=by
 and_intros<;>kernel_rfl
@[simp] theorem tb64_T6:(zeroT prog 185=some [.slice none 0 0])/\(szOf prog 187=some 4)/\(aggT prog 187=some true)/\(strT prog 187=false)/\(boolT prog 187=false)/\(elemT prog 187=none)/\(rowT prog 187=none)/\(structT prog 187=some [(0,1),(1,1),(2,1),(3,1)])/\(fieldT prog 187 0=some (80,0))/\(fieldT prog 187 1=some (80,1))/\(fieldT prog 187 2=some (4,2))/\(fieldT prog 187 3=some (4,3)):=by
 and_intros<;>kernel_rfl
@[simp] theorem tb65_T6:(zeroT prog 187=some [.slice none 0 0,.slice none 0 0,.bool false,.bool false])/\(szOf prog 192=some 1)/\(aggT prog 192=some false)/\(zeroT prog 192=some [.nilFunc])/\(szOf prog 209=some 1)/\(aggT prog 209=some false)/\(strT prog 209=false)/\(boolT prog 209=false)/\(elemT prog 209=some 217)/\(rowT prog 209=some (217,3,32))/\(makeT prog 209=some (3,32,[.int .i64 0,.string ⟨#[]⟩,.int .i64 0]))/\(zeroT prog 209=some [.slice none 0 0]):=by
 and_intros<;>kernel_rfl
@[simp] theorem tb66_T6:(szOf prog 212=some 1)/\(aggT prog 212=some false)/\(strT prog 212=false)/\(boolT prog 212=false)/\(elemT prog 212=none)/\(rowT prog 212=none)/\(zeroT prog 212=some [.pointer none])/\(szOf prog 214=some 3)/\(aggT prog 214=some true)/\(strT prog 214=false)/\(boolT prog 214=false)/\(elemT prog 214=none):=by
 and_intros<;>kernel_rfl
@[simp] theorem tb67_T6:(rowT prog 214=none)/\(structT prog 214=some [(0,1),(1,1),(2,1)])/\(fieldT prog 214 0=some (209,0))/\(fieldT prog 214 1=some (3,1))/\(fieldT prog 214 2=some (3,2))/\(zeroT prog 214=some [.slice none 0 0,.int .i64 0,.int .i64 0])/\(szOf prog 217=some 3)/\(aggT prog 217=some true)/\(strT prog 217=false)/\(boolT prog 217=false)/\(elemT prog 217=none)/\(rowT prog 217=none):=by
 and_intros<;>kernel_rfl
@[simp] theorem tb68_T6:(structT prog 217=some [(0,1),(1,1),(2,1)])/\(fieldT prog 217 0=some (3,0))/\(fieldT prog 217 1=some (9,1))/\(fieldT prog 217 2=some (3,2))/\(zeroT prog 217=some [.int .i64 0,.string ⟨#[]⟩,.int .i64 0])/\(szOf prog 223=some 256)/\(aggT prog 223=some true)/\(strT prog 223=false)/\(boolT prog 223=false)/\(elemT prog 223=none)/\(rowT prog 223=none)/\(arrT prog 223=some (256,5)):=by
 and_intros<;>kernel_rfl
@[simp] theorem tb69_T6:(structT prog 223=none)/\(zeroT prog 223=some [.int .u8 0,.int .u8 0,.int .u8 0,.int .u8 0,.int .u8 0,.int .u8 0,.int .u8 0,.int .u8 0,.int .u8 0,.int .u8 0,.int .u8 0,.int .u8 0,.int .u8 0,.int .u8 0,.int .u8 0,.int .u8 0,.int .u8 0,.int .u8 0,.int .u8 0,.int .u8 0,.int .u8 0,.int .u8 0,.int .u8 0,.int .u8 0,.int .u8 0,.int .u8 0,.int .u8 0,.int .u8 0,.int .u8 0,.int .u8 0,.int .u8 0,.int .u8 0,.int .u8 0,.int .u8 0,.int .u8 0,.int .u8 0,.int .u8 0,.int .u8 0,.int .u8 0,.int .u8 0,.int .u8 0,.int .u8 0,.int .u8 0,.int .u8 0,.int .u8 0,.int .u8 0,.int .u8 0,.int .u8 0,.int .u8 0,.int .u8 0,.int .u8 0,.int .u8 0,.int .u8 0,.int .u8 0,.int .u8 0,.int .u8 0,.int .u8 0,.int .u8 0,.int .u8 0,.int .u8 0,.int .u8 0,.int .u8 0,.int .u8 0,.int .u8 0,.int .u8 0,.int .u8 0,.int .u8 0,.int .u8 0,.int .u8 0,.int .u8 0,.int .u8 0,.int .u8 0,.int .u8 0,.int .u8 0,.int .u8 0,.int .u8 0,.int .u8 0,.int .u8 0,.int .u8 0,.int .u8 0,.int .u8 0,.int .u8 0,.int .u8 0,.int .u8 0,.int .u8 0,.int .u8 0,.int .u8 0,.int .u8 0,.int .u8 0,.int .u8 0,.int .u8 0,.int .u8 0,.int .u8 0,.int .u8 0,.int .u8 0,.int .u8 0,.int .u8 0,.int .u8 0,.int .u8 0,.int .u8 0,.int .u8 0,.int .u8 0,.int .u8 0,.int .u8 0,.int .u8 0,.int .u8 0,.int .u8 0,.int .u8 0,.int .u8 0,.int .u8 0,.int .u8 0,.int .u8 0,.int .u8 0,.int .u8 0,.int .u8 0,.int .u8 0,.int .u8 0,.int .u8 0,.int .u8 0,.int .u8 0,.int .u8 0,.int .u8 0,.int .u8 0,.int .u8 0,.int .u8 0,.int .u8 0,.int .u8 0,.int .u8 0,.int .u8 0,.int .u8 0,.int .u8 0,.int .u8 0,.int .u8 0,.int .u8 0,.int .u8 0,.int .u8 0,.int .u8 0,.int .u8 0,.int .u8 0,.int .u8 0,.int .u8 0,.int .u8 0,.int .u8 0,.int .u8 0,.int .u8 0,.int .u8 0,.int .u8 0,.int .u8 0,.int .u8 0,.int .u8 0,.int .u8 0,.int .u8 0,.int .u8 0,.int .u8 0,.int .u8 0,.int .u8 0,.int .u8 0,.int .u8 0,.int .u8 0,.int .u8 0,.int .u8 0,.int .u8 0,.int .u8 0,.int .u8 0,.int .u8 0,.int .u8 0,.int .u8 0,.int .u8 0,.int .u8 0,.int .u8 0,.int .u8 0,.int .u8 0,.int .u8 0,.int .u8 0,.int .u8 0,.int .u8 0,.int .u8 0,.int .u8 0,.int .u8 0,.int .u8 0,.int .u8 0,.int .u8 0,.int .u8 0,.int .u8 0,.int .u8 0,.int .u8 0,.int .u8 0,.int .u8 0,.int .u8 0,.int .u8 0,.int .u8 0,.int .u8 0,.int .u8 0,.int .u8 0,.int .u8 0,.int .u8 0,.int .u8 0,.int .u8 0,.int .u8 0,.int .u8 0,.int .u8 0,.int .u8 0,.int .u8 0,.int .u8 0,.int .u8 0,.int .u8 0,.int .u8 0,.int .u8 0,.int .u8 0,.int .u8 0,.int .u8 0,.int .u8 0,.int .u8 0,.int .u8 0,.int .u8 0,.int .u8 0,.int .u8 0,.int .u8 0,.int .u8 0,.int .u8 0,.int .u8 0,.int .u8 0,.int .u8 0,.int .u8 0,.int .u8 0,.int .u8 0,.int .u8 0,.int .u8 0,.int .u8 0,.int .u8 0,.int .u8 0,.int .u8 0,.int .u8 0,.int .u8 0,.int .u8 0,.int .u8 0,.int .u8 0,.int .u8 0,.int .u8 0,.int .u8 0,.int .u8 0,.int .u8 0,.int .u8 0,.int .u8 0,.int .u8 0,.int .u8 0,.int .u8 0,.int .u8 0,.int .u8 0,.int .u8 0,.int .u8 0,.int .u8 0,.int .u8 0,.int .u8 0,.int .u8 0,.int .u8 0])/\(szOf prog 225=some 1)/\(aggT prog 225=some false)/\(zeroT prog 225=some [.nilFunc])/\(szOf prog 226=some 1)/\(aggT prog 226=some false)/\(strT prog 226=false)/\(boolT prog 226=false)/\(elemT prog 226=none)/\(rowT prog 226=none)/\(zeroT prog 226=some [.pointer none]):=by
 and_intros<;>kernel_rfl
@[simp] theorem tb70_T6:(szOf prog 249=some 1)/\(aggT prog 249=some false)/\(strT prog 249=false)/\(boolT prog 249=false)/\(elemT prog 249=some 80)/\(rowT prog 249=some (80,1,24))/\(makeT prog 249=some (1,24,[.slice none 0 0]))/\(zeroT prog 249=some [.slice none 0 0])/\(szOf prog 270=some 1)/\(aggT prog 270=some false)/\(zeroT prog 270=some [.nilFunc])/\(szOf prog 280=some 1):=by
 and_intros<;>kernel_rfl
@[simp] theorem tb71_T6:(aggT prog 280=some false)/\(strT prog 280=false)/\(boolT prog 280=false)/\(elemT prog 280=some 282)/\(rowT prog 280=some (282,2,16))/\(makeT prog 280=some (2,16,[.int .i64 0,.int .i64 0]))/\(zeroT prog 280=some [.slice none 0 0])/\(szOf prog 282=some 2)/\(aggT prog 282=some true)/\(strT prog 282=false)/\(boolT prog 282=false)/\(elemT prog 282=none):=by
 and_intros<;>kernel_rfl
@[simp] theorem tb72_T6:(rowT prog 282=none)/\(eqT prog 282=some 2)/\(structT prog 282=some [(0,1),(1,1)])/\(fieldT prog 282 0=some (3,0))/\(fieldT prog 282 1=some (3,1))/\(zeroT prog 282=some [.int .i64 0,.int .i64 0])/\(szOf prog 283=some 1)/\(aggT prog 283=some false)/\(strT prog 283=false)/\(boolT prog 283=false)/\(elemT prog 283=none)/\(rowT prog 283=none):=by
 and_intros<;>kernel_rfl
@[simp] theorem tb73_T6:(kindT prog 283=some .u32)/\(zeroT prog 283=some [.int .u32 0])/\(szOf prog 285=some 1)/\(aggT prog 285=some false)/\(strT prog 285=false)/\(boolT prog 285=false)/\(elemT prog 285=none)/\(rowT prog 285=none)/\(zeroT prog 285=some [.pointer none])/\(kindT prog 310=some .u64)/\(szOf prog 319=some 1)/\(aggT prog 319=some false):=by
 and_intros<;>kernel_rfl
@[simp] theorem tb74_T6:(strT prog 319=false)/\(boolT prog 319=false)/\(elemT prog 319=none)/\(rowT prog 319=none)/\(zeroT prog 319=some [.map none])/\(szOf prog 324=some 1)/\(aggT prog 324=some false)/\(strT prog 324=false)/\(boolT prog 324=false)/\(elemT prog 324=some 330)/\(rowT prog 324=some (330,3,6))/\(makeT prog 324=some (3,6,[.int .u16 0,.int .u16 0,.int .u16 0])):=by
 and_intros<;>kernel_rfl
@[simp] theorem tb75_T6:(zeroT prog 324=some [.slice none 0 0])/\(szOf prog 325=some 1)/\(aggT prog 325=some false)/\(strT prog 325=false)/\(boolT prog 325=false)/\(elemT prog 325=some 333)/\(rowT prog 325=some (333,3,12))/\(makeT prog 325=some (3,12,[.int .u32 0,.int .u32 0,.int .u32 0]))/\(zeroT prog 325=some [.slice none 0 0])/\(szOf prog 327=some 3)/\(aggT prog 327=some true)/\(strT prog 327=false):=by
 and_intros<;>kernel_rfl
@[simp] theorem tb76_T6:(boolT prog 327=false)/\(elemT prog 327=none)/\(rowT prog 327=none)/\(structT prog 327=some [(0,1),(1,1),(2,1)])/\(fieldT prog 327 0=some (324,0))/\(fieldT prog 327 1=some (325,1))/\(fieldT prog 327 2=some (3,2))/\(zeroT prog 327=some [.slice none 0 0,.slice none 0 0,.int .i64 0])/\(szOf prog 328=some 1)/\(aggT prog 328=some false)/\(strT prog 328=false)/\(boolT prog 328=false):=by
 and_intros<;>kernel_rfl
@[simp] theorem tb77_T6:(elemT prog 328=none)/\(rowT prog 328=none)/\(kindT prog 328=some .u16)/\(zeroT prog 328=some [.int .u16 0])/\(szOf prog 330=some 3)/\(aggT prog 330=some true)/\(strT prog 330=false)/\(boolT prog 330=false)/\(elemT prog 330=none)/\(rowT prog 330=none)/\(eqT prog 330=some 3)/\(structT prog 330=some [(0,1),(1,1),(2,1)]):=by
 and_intros<;>kernel_rfl
@[simp] theorem tb78_T6:(fieldT prog 330 0=some (328,0))/\(fieldT prog 330 1=some (328,1))/\(fieldT prog 330 2=some (328,2))/\(zeroT prog 330=some [.int .u16 0,.int .u16 0,.int .u16 0])/\(szOf prog 333=some 3)/\(aggT prog 333=some true)/\(strT prog 333=false)/\(boolT prog 333=false)/\(elemT prog 333=none)/\(rowT prog 333=none)/\(eqT prog 333=some 3)/\(structT prog 333=some [(0,1),(1,1),(2,1)]):=by
 and_intros<;>kernel_rfl
@[simp] theorem tb79_T6:(fieldT prog 333 0=some (283,0))/\(fieldT prog 333 1=some (283,1))/\(fieldT prog 333 2=some (283,2))/\(zeroT prog 333=some [.int .u32 0,.int .u32 0,.int .u32 0])/\(szOf prog 352=some 1)/\(aggT prog 352=some false)/\(strT prog 352=false)/\(boolT prog 352=false)/\(elemT prog 352=none)/\(rowT prog 352=none)/\(kindT prog 352=some .u64)/\(zeroT prog 352=some [.int .u64 0]):=by
 and_intros<;>kernel_rfl
@[simp] theorem tb80_T6:(szOf prog 357=some 1)/\(aggT prog 357=some false)/\(strT prog 357=false)/\(boolT prog 357=false)/\(elemT prog 357=none)/\(rowT prog 357=none)/\(zeroT prog 357=some [.pointer none])/\(szOf prog 360=some 12)/\(aggT prog 360=some true)/\(strT prog 360=false)/\(boolT prog 360=false)/\(elemT prog 360=none):=by
 and_intros<;>kernel_rfl
@[simp] theorem tb81_T6:(rowT prog 360=none)/\(structT prog 360=some [(0,2),(2,2),(4,1),(5,2),(7,1),(8,1),(9,1),(10,1),(11,1)])/\(fieldT prog 360 0=some (29,0))/\(fieldT prog 360 1=some (29,2))/\(fieldT prog 360 2=some (249,4))/\(fieldT prog 360 3=some (38,5))/\(fieldT prog 360 4=some (4,7))/\(fieldT prog 360 5=some (3,8))/\(fieldT prog 360 6=some (26,9))/\(fieldT prog 360 7=some (26,10))/\(fieldT prog 360 8=some (117,11))/\(zeroT prog 360=some [.slice none 0 0,.slice none 0 0,.slice none 0 0,.slice none 0 0,.slice none 0 0,.slice none 0 0,.slice none 0 0,.bool false,.int .i64 0,.slice none 0 0,.slice none 0 0,.slice none 0 0]):=by
 and_intros<;>kernel_rfl
@[simp] theorem tb82_T6:(szOf prog 363=some 1)/\(aggT prog 363=some false)/\(strT prog 363=false)/\(boolT prog 363=false)/\(elemT prog 363=none)/\(rowT prog 363=none)/\(zeroT prog 363=some [.pointer none])/\(szOf prog 364=some 1)/\(aggT prog 364=some false)/\(strT prog 364=false)/\(boolT prog 364=false)/\(elemT prog 364=none):=by
 and_intros<;>kernel_rfl
@[simp] theorem tb83_T6:(rowT prog 364=none)/\(zeroT prog 364=some [.pointer none])/\(szOf prog 371=some 1)/\(aggT prog 371=some false)/\(strT prog 371=false)/\(boolT prog 371=false)/\(elemT prog 371=none)/\(rowT prog 371=none)/\(zeroT prog 371=some [.pointer none]):=by
 and_intros<;>kernel_rfl
variable {P:Program}
attribute [simp] buildT zrow strA stkA Own.live nilCmp FReg preF FOne FSkip Gd.tt Gd.tf Gd.ft Gd.ff fN fR fW fA AS.ev putT_tl putT_none tlArgs tl_cons tl_nil ofVal ofVal1 lenF idxF sliceF boundF rawOf rawsOf binF unF loadD loadA lb_at lk_cons lk_nil upd_lb yieldA AV.cells? AV.elems? toDs AV.toD rowsOf fillA setCells FCond copySrc
@[simp] theorem FOps_nil{cx:Cx}{ops:Array Oper}{dr:Bool}{K:AS->Prop}{t:Nat->AV}{b:Bxs}{k:Nat->Bool}{n:Nat}:FOps P cx ops dr [] K ⟨t,b,k,n⟩=K ⟨t,b,k,n⟩:=by simp only[FOps]
@[simp] theorem FOps_cons{cx:Cx}{ops:Array Oper}{dr:Bool}{o:Oper}{r:List Oper}{K:AS->Prop}{t:Nat->AV}{b:Bxs}{k:Nat->Bool}{n:Nat}:FOps P cx ops dr (o::r) K ⟨t,b,k,n⟩=match o.guard with
  | none=>FOne P cx dr o (FOps P cx ops dr r K) ⟨t,b,k,n⟩
  | some (j,want)=>match yieldA ops ⟨t,b,k,n⟩ j with
   | some (some c)=>Gd c want (FOne P cx dr o (FOps P cx ops dr r K)) (FSkip o.dst (FOps P cx ops dr r K)) ⟨t,b,k,n⟩
   | some none=>FSkip o.dst (FOps P cx ops dr r K) ⟨t,b,k,n⟩
   | none=>False:=by
 simp only[FOps];all_goals rfl
@[simp] theorem live_full{tok:Nat->Bool}:Own.full.liveP tok=True:=rfl
@[simp] theorem kill_full{tok:Nat->Bool}:Own.full.kill tok=tok:=rfl
@[simp] theorem live_tok{tok:Nat->Bool}{t:Nat}:(Own.tok t).liveP tok=(tok t=true):=rfl
@[simp] theorem kill_tok{tok:Nat->Bool}{t:Nat}:(Own.tok t).kill tok=upd tok t false:=rfl
def ToL(p q:Nat->Prop)(fz:Option (Nat × Nat × List (List D)))(l:List (Nat × AV)):List (Nat × AV)->Prop
 | []=>True
 | (i,v)::r=>To p q fz (tl l i) v/\ToL p q fz l r
theorem ToL.all{p q:Nat->Prop}{fz:Option (Nat × Nat × List (List D))}{l:List (Nat × AV)}:∀{l':List (Nat × AV)},ToL p q fz l l'->∀t,To p q fz (tl l t) (tl l' t)
 | [],_,t=>.bot
 | (i,v)::r,h,t=>by
  rw[tl_cons];split
  .rename_i e;subst e;exact h.1
  .exact ToL.all h.2 t
def BoxL(p q:Nat->Prop)(fz:Option (Nat × Nat × List (List D)))(loc:List (Nat × List (List AV))):List (Nat × List (List AV))->Prop
 | []=>True
 | (s,rows')::r=>(∃rows,lk loc s=some rows/\RowsTo p q fz rows rows')/\BoxL p q fz loc r
theorem BoxL.all{p q:Nat->Prop}{fz:Option (Nat × Nat × List (List D))}{loc:List (Nat × List (List AV))}:∀{loc':List (Nat × List (List AV))},BoxL p q fz loc loc'->∀s rows',lk loc' s=some rows'->∃rows,lk loc s=some rows/\RowsTo p q fz rows rows'
 | [],_,s,rows',h=>by simp[lk] at h
 | (i,v)::r,h,s,rows',hs=>by
  rw[lk_cons] at hs;split at hs
  .rename_i e;subst e;cases hs;exact h.1
  .exact BoxL.all h.2 s rows' hs
theorem Weaks.mk'{cx:Cx}{nt0 nt:Nat}{l l':List (Nat × AV)}{out:Bxs}{loc loc':List (Nat × List (List AV))}{tok:Nat->Bool}(hnt:nt0<=nt)(hl:ToL (fun k=>lb cx.base out loc' k≠none) (fun _=>True) none l l')(hb:BoxL (fun k=>lb cx.base out loc' k≠none) (fun _=>True) none loc loc')(ho:∀k rows,k<cx.base->out k=some rows->cx.B0 k=some rows∨∀r∈rows,∀x∈r,OkIn (fun k=>lb cx.base out loc' k≠none) (fun _=>True) x):
  Weaks cx nt0 ⟨tl l,lb cx.base out loc,tok,nt⟩ ⟨tl l',lb cx.base out loc',tok,nt⟩:=by
 refine⟨out,loc,loc',none,rfl,rfl,nr _,hnt,fun t h=>⟨h,.inl rfl⟩,?_,?_,(fun _ _ _ h=>by cases h),?_⟩
 .simp only[true_or,Option.map_none];exact hl.all
 .simp only[true_or,Option.map_none];exact hb.all
 .simp only[true_or];exact ho
theorem wM{cx:Cx}{nt0 nt:Nat}{l l':List (Nat × AV)}{out:Bxs}{loc loc':List (Nat × List (List AV))}{tok:Nat->Bool}(hnt:nt0<=nt)(ho:out=cx.B0)(hl:ToL (fun k=>lb cx.base out loc' k≠none) (fun _=>True) none l l')(hb:BoxL (fun k=>lb cx.base out loc' k≠none) (fun _=>True) none loc loc'):
  Weaks cx nt0 ⟨tl l,lb cx.base out loc,tok,nt⟩ ⟨tl l',lb cx.base out loc',tok,nt⟩ :=
 Weaks.mk' hnt hl hb fun k rows _ h=>.inl (by rw[<-ho];exact h)
theorem Fin.data{cx:Cx}{nt0 nt:Nat}{rs:List ResultVar}{l:List (Nat × AV)}{out:Bxs}{loc:List (Nat × List (List AV))}{tok mtok:Nat->Bool}{vs:List AV}{av:AV}(hres:resAs P ⟨tl l,lb cx.base out loc,tok,nt⟩ rs=some vs)(Hb:lb cx.base out []=out)(ho:out=cx.B0)(hm:∀t,mtok t=true->t<nt0)(Ht:∀t,mtok t=true->tok t=true)(hnt:nt0<=nt)(hto:To (fun k=>lb cx.base out [] k≠none) (fun t=>nt0=nt∨t<nt0) none (packA vs) av):Fin P cx nt0 rs (fun v' m'=>v'=av/\m'=⟨out,cx.base,mtok,nt0⟩) ⟨tl l,lb cx.base out loc,tok,nt⟩ :=
 ⟨vs,out,loc,none,av,⟨out,cx.base,mtok,nt0⟩,hres,⟨rfl,rfl,hnt,nr _,fun t h=>⟨Ht t h,.inr (hm t h)⟩,fun _=>.bot,fun s rows' h=>by simp[lk] at h,(fun _ _ _ h=>by cases h),
  fun k rows _ h=>.inl (by rw[<-ho];exact h)⟩,Hb.symm,rfl,by simpa using hto,rfl,rfl⟩
section
variable {p q:Nat->Prop} {fz:Option (Nat × Nat × List (List D))}
@[simp] theorem to_bot(x:AV):To p q fz x .bot:=.bot
@[simp] theorem to_d(x:D):To p q fz (.d x) (.d x):=.same .d
@[simp] theorem to_data(sz:Nat)(es:List (List D))(o:Own):To p q fz (.osl sz es o) (.d (.sl sz es)):=.data
@[simp] theorem to_osl(sz:Nat)(es:List (List D))(o:Own):To p (fun _=>True) fz (.osl sz es o) (.osl sz es o):=.same (.osl fun _ _=>trivial)
theorem to_snoc{sz:Nat}{es:List (List D)}{r r':List D}(h:DS1 r r')(o:Own):To p (fun _=>True) fz (.osl sz (es++[r]) o) (.osl sz (es++[r']) o):=.otok ((DSs.snoc h).sub sz) fun _ _=>trivial
@[simp] theorem to_full(sz:Nat)(es:List (List D)):To p q fz (.osl sz es .full) (.osl sz es .full):=.same (.osl fun _ h=>by cases h)
@[simp] theorem to_nil0(sz sz':Nat)(h:sz'=0->sz=0):To p q fz (.osl sz [] .full) (.osl sz' [] .full):=.nil h rfl
@[simp] theorem to_emp0(sz sz':Nat)(o:Own):To p q fz (.osl sz [] o) (.d (.sl sz' [])):=.odsub .emp
@[simp] theorem to_emp1(sz sz':Nat):To p q fz (.d (.sl sz [])) (.d (.sl sz' [])):=.dsub .emp
@[simp] theorem to_emp2(sz sz':Nat):To p q fz (.osl 1 [[.sl sz []]] .full) (.osl 1 [[.sl sz' []]] .full) :=
 .osub (fun e=>by cases e) (.sl rfl (fun i h1 h2=>by simp at h1;subst h1;rfl) (fun i h1 h2 j g1 g2=>by simp at h1;subst h1;simp at g1;subst g1;exact .emp))
@[simp] theorem to_emp3(sz sz':Nat)(o:Own):To p q fz (.osl 1 [[.sl sz []]] o) (.d (.sl 1 [[.sl sz' []]])) :=
 .odsub (.sl rfl (fun i h1 h2=>by simp at h1;subst h1;rfl) (fun i h1 h2 j g1 g2=>by simp at h1;subst h1;simp at g1;subst g1;exact .emp))
@[simp] theorem to_cptr(cs:List D)(off:Nat):To p q fz (.cptr cs off) (.cptr cs off):=.same .cptr
theorem to_ptr{k i off:Nat}(h:p k):To p q fz (.ptr k i off) (.ptr k i off):=.same (.ptr h)
@[simp] theorem to_ptr_lb{base s i off:Nat}{out:Bxs}{loc:List (Nat × List (List AV))}:To (fun k=>lb base out loc k≠none) q fz (.ptr (base+s) i off) (.ptr (base+s) i off)↔lk loc s≠none:=by
 constructor
 .intro h;cases h with
  | same h=>cases h with|ptr h=>rw[lb_at] at h;exact h
 .intro h;exact to_ptr (by rw[lb_at];exact h)
@[simp] theorem to_buf(E:TypeId)(t:Nat)(es:List (List D)):To p (fun _=>True) fz (.buf E t es) (.buf E t es):=.same (.buf trivial)
@[simp] theorem to_here_lb{base s:Nat}{T:TypeId}{out:Bxs}{loc:List (Nat × List (List AV))}:To (fun k=>lb base out loc k≠none) q fz (.here (base+s) T) (.here (base+s) T)↔lk loc s≠none:=by
 constructor
 .intro h;cases h with
  | same h=>cases h with|here h=>rw[lb_at] at h;exact h
 .intro h;exact .same (.here (by rw[lb_at];exact h))
@[simp] theorem to_msl_lb{base s off n sz:Nat}{out:Bxs}{loc:List (Nat × List (List AV))}:To (fun k=>lb base out loc k≠none) q fz (.msl (base+s) off n sz) (.msl (base+s) off n sz)↔lk loc s≠none:=by
 constructor
 .intro h;cases h with
  | same h=>cases h with|msl h=>rw[lb_at] at h;exact h
 .intro h;exact .same (.msl (by rw[lb_at];exact h))
@[simp] theorem okIn_d(x:D):OkIn p q (.d x):=.d
@[simp] theorem okIn_bot:OkIn p q .bot:=.bot
@[simp] theorem okIn_osl(sz:Nat)(es:List (List D))(o:Own):OkIn p (fun _=>True) (.osl sz es o):=.osl fun _ _=>trivial
@[simp] theorem okIn_ptr{k i off:Nat}:OkIn p q (.ptr k i off)↔p k:=⟨fun h=>by cases h;assumption,.ptr⟩
@[simp] theorem okIn_agg{cs:List AV}:OkIn p q (.agg cs)↔∀c∈cs,OkIn p q c:=⟨fun h=>by cases h;assumption,.agg⟩
@[simp] theorem okIn_fn{f:Fn}{cs:List AV}:OkIn p q (.fn f cs)↔∀c∈cs,OkIn p q c:=⟨fun h=>by cases h;assumption,.fn⟩
@[simp] theorem to_tup_nil:To p q fz (.tup []) (.tup []):=.tup rfl fun i h=>by simp at h
theorem to_cons_agg{a b:AV}{as1 bs:List AV}(h:To p q fz a b)(k:To p q fz (.agg as1) (.agg bs)):To p q fz (.agg (a::as1)) (.agg (b::bs)):=by
 cases k with
 | same k =>
  refine .agg rfl fun i h1 h2=>?_
  cases i with
  | zero=>exact h
  | succ i=>exact .same ((okIn_agg.1 k) _ (List.getElem_mem _))
 | agg hl k =>
  refine .agg (by simp[hl]) fun i h1 h2=>?_
  cases i with
  | zero=>exact h
  | succ i=>exact k i (by simpa using h1) (by simpa using h2)
theorem to_cons_tup{a b:AV}{as1 bs:List AV}(h:To p q fz a b)(k:To p q fz (.tup as1) (.tup bs)):To p q fz (.tup (a::as1)) (.tup (b::bs)):=by
 cases k with
 | same k =>
  refine .tup rfl fun i h1 h2=>?_
  cases i with
  | zero=>exact h
  | succ i=>cases k with|tup k=>exact .same (k _ (List.getElem_mem _))
 | tup hl k =>
  refine .tup (by simp[hl]) fun i h1 h2=>?_
  cases i with
  | zero=>exact h
  | succ i=>exact k i (by simpa using h1) (by simpa using h2)
@[simp] theorem to_cons_agg_iff{a b:AV}{as1 bs:List AV}:To p q fz (.agg (a::as1)) (.agg (b::bs))↔To p q fz a b/\To p q fz (.agg as1) (.agg bs):=by
 constructor
 .intro h;cases h with
  | same h=>have:=okIn_agg.1 h;exact⟨.same (this _ (by simp)),.same (okIn_agg.2 fun c hc=>this c (by simp[hc]))⟩
  | agg hl h=>exact⟨h 0 (by simp) (by simp),.agg (by simpa using hl) fun i h1 h2=>h (i+1) (by simpa using h1) (by simpa using h2)⟩
 .exact fun ⟨h,k⟩=>to_cons_agg h k
@[simp] theorem to_cons_tup_iff{a b:AV}{as1 bs:List AV}:To p q fz (.tup (a::as1)) (.tup (b::bs))↔To p q fz a b/\To p q fz (.tup as1) (.tup bs):=by
 constructor
 .intro h;cases h with
  | same h =>
   cases h with
   | tup this=>exact⟨.same (this _ (by simp)),.same (.tup fun c hc=>this c (by simp[hc]))⟩
  | tup hl h=>exact⟨h 0 (by simp) (by simp),.tup (by simpa using hl) fun i h1 h2=>h (i+1) (by simpa using h1) (by simpa using h2)⟩
 .exact fun ⟨h,k⟩=>to_cons_tup h k
@[simp] theorem to_nil_agg:To p q fz (.agg []) (.agg []):=.agg rfl fun i h=>by simp at h
end
def SideD(t:List (Nat × AV)):List Oper->Prop
 | []=>True
 | o::r=>(match o.dst with|some d=>NP (tl t d)|none=>True)/\SideD t r
theorem SideD.all{t:List (Nat × AV)}{l:List Oper}(h:SideD t l):∀o∈l,∀d,o.dst=some d->NP (tl t d):=by
 induction l with
 | nil=>intro o ho;simp at ho
 | cons o r ih =>
  intro x hx d hd;unfold SideD at h;rcases List.mem_cons.1 hx with e|hx
  .subst e;have:=h.1
   rw[hd] at this;exact this
  .exact ih h.2 x hx d hd
theorem Side.of{ops:Array Oper}{l:List (Nat × AV)}{b:Bxs}{k:Nat->Bool}{n:Nat}(h:SideD l ops.toList):Side ops ⟨tl l,b,k,n⟩ :=
 fun o ho d hd=>h.all o ho d hd
attribute [simp] SideD NP NK ptrs Far Far1
theorem sL{cx:Cx}{nt0:Nat}{K:Exit->AS->Prop}{r:List CI}{S:AS}{c:Code}{α:Type}(T:α->AS)(inv:α->Prop)(μ:α->Nat)(a0:α)(h0:inv a0)(hw:Weaks cx nt0 S (T a0))(hstep:∀a S,inv a->S=T a->AL P cx nt0 (fun e S'=>match e with
   | .normal=>∃a',inv a'/\μ a'<μ a/\Weaks cx nt0 S' (T a')
   | e=>AU P cx nt0 K r e S') [.c c] S):AL P cx nt0 K (.c (.loop c)::r) S:=by
 refine AL.loop (fun n S=>∃a,inv a/\n=μ a/\S=T a) ⟨_,_,hw,a0,h0,rfl,rfl⟩ ?_;rintro n S ⟨a,ha,rfl,hS⟩;have:=AL.start (hstep a S ha hS)
 simp only[AL];refine this.mono fun e S' h=>?_
 cases e with
 | normal =>
  obtain⟨a',h1,h2,h3⟩:=h;exact⟨μ a',T a',h2,h3,a',h1,rfl,rfl⟩
 | _=>simpa only[AU] using h
structure TK (mtok:Tks) (nt0:Nat) (tok:Tks) (nt:Nat) (os:List Own):Prop where
 old:∀t,mtok t=true->tok t=true
 lt:∀t,mtok t=true->t<nt0
 le:nt0<=nt
 own:∀o∈os,∀t,o=.tok t->tok t=true/\nt0<=t/\t<nt
 ne:os.Pairwise fun a b=>∀t,a=.tok t->b≠.tok t
theorem TK.start{mtok:Nat->Bool}{nt0:Nat}(h:∀t,mtok t=true->t<nt0):TK mtok nt0 mtok nt0 []:=⟨fun _ h=>h,h,nr _,by simp,.nil⟩
theorem TK.full{mtok:Nat->Bool}{nt0:Nat}{tok:Nat->Bool}{nt:Nat}{os:List Own}(h:TK mtok nt0 tok nt os):TK mtok nt0 tok nt (.full::os) :=
 ⟨h.old,h.lt,h.le,fun o ho t e=>by
  rcases List.mem_cons.1 ho with rfl|ho
  .cases e
  .exact h.own o ho t e,.cons (fun b _ t e=>by cases e) h.ne⟩
theorem TK.live{mtok:Nat->Bool}{nt0:Nat}{tok:Nat->Bool}{nt:Nat}{o:Own}{os:List Own}(h:TK mtok nt0 tok nt (o::os)):o.liveP tok:=by
 cases o with
 | full=>trivial
 | tok t=>exact(h.own _ (by simp) t rfl).1
theorem TK.tail{mtok:Nat->Bool}{nt0:Nat}{tok:Nat->Bool}{nt:Nat}{o:Own}{os:List Own}(h:TK mtok nt0 tok nt (o::os)):TK mtok nt0 tok nt os :=
 ⟨h.old,h.lt,h.le,fun o' ho=>h.own o' (by simp[ho]),(List.pairwise_cons.1 h.ne).2⟩
theorem TK.swap{mtok:Nat->Bool}{nt0:Nat}{tok:Nat->Bool}{nt:Nat}{a b:Own}{os:List Own}(h:TK mtok nt0 tok nt (a::b::os)):TK mtok nt0 tok nt (b::a::os):=by
 have h1:=List.pairwise_cons.1 h.ne;have h2:=List.pairwise_cons.1 h1.2;refine⟨h.old,h.lt,h.le,fun o' ho=>h.own o' (by simp at ho ⊢;rcases ho with h|h|h<;>simp[h]),?_⟩;refine List.pairwise_cons.2 ⟨fun c hc t e=>?_,List.pairwise_cons.2 ⟨fun c hc=>h1.1 c (by simp[hc]),h2.2⟩⟩;rcases List.mem_cons.1 hc with rfl|hc
 .intro e';exact h1.1 b (by simp) t e' e
 .exact h2.1 c hc t e
theorem TK.app{mtok:Nat->Bool}{nt0:Nat}{tok:Nat->Bool}{nt:Nat}{o:Own}{os:List Own}(h:TK mtok nt0 tok nt (o::os)):TK mtok nt0 (upd (o.kill tok) nt true) (nt+1) (.tok nt::os):=by
 have hp:=List.pairwise_cons.1 h.ne;have key:∀t,t<nt->(∀t',o=.tok t'->t≠t')->(upd (o.kill tok) nt true) t=tok t:=by
  intro t ht hne;rw[uO _ _ (by omega)];cases o with
  | full=>rfl
  | tok t'=>simp only[Own.kill];rw[uO _ _ (hne t' rfl)]
 have hle:=h.le;refine⟨fun t ht=>?_,h.lt,by omega,fun o' ho t e=>?_,?_⟩
 .have hlt:=h.lt t ht;rw[key t (by omega) (fun t' e=>by have:=(h.own o (by simp) t' e).2.1;omega)];exact h.old t ht
 .rcases List.mem_cons.1 ho with rfl|ho
  .cases e;exact⟨by rw[uS],hle,by omega⟩
  .obtain⟨h1,h2,h3⟩:=h.own o' (by simp[ho]) t e;refine⟨?_,h2,by omega⟩;rw[key t h3 (fun t' e'=>fun e2=>by subst e2;exact hp.1 o' ho t e' e)];exact h1
 .refine List.pairwise_cons.2 ⟨fun b hb t e e'=>?_,hp.2⟩;cases e;have:=(h.own b (by simp[hb]) _ e').2.2
  omega
theorem Stop.of_b{cx:Cx}{fid:FuncId}{args:List AV}{S:AS}{dst:Option Tmp}{K:AS->Prop}{v:AV}{tok':Nat->Bool}{nt':Nat}(h:ACalls P fid args ⟨S.box,cx.nb,S.tok,S.nt⟩ fun v' m'=>v'=v/\m'=⟨S.box,cx.nb,tok',nt'⟩)(hk:K ⟨putT S.tmps dst v,S.box,tok',nt'⟩):Stop P cx false fid args S dst K:=by
 refine h.mono ?_;rintro v' m' ⟨rfl,rfl⟩;exact hk
theorem key_lt{nb k:Nat}{box:Bxs}{r:List (List AV)}(Hb:lb nb box []=box)(h:box k=some r):k<nb:=by
 rcases Nat.lt_or_ge k nb with h1|h1
 .exact h1
 .rw[<-Hb] at h;have:¬k<nb:=by omega
  simp[lb,lk,this] at h
abbrev ints(xs:List Int):D:=.sl 1 (xs.map fun n=>[D.raw (.int .i64 n)])
abbrev I(n:Int):AV:=.d (.raw (.int .i64 n))
abbrev B(b:Bool):AV:=.d (.raw (.bool b))
structure E where
 ty:Int
 fr:Int
 to:Int
 deriving DecidableEq,Inhabited
abbrev E.cells(e:E):List D:=[.raw (.int .i64 e.ty),.raw (.int .i64 e.fr),.raw (.int .i64 e.to)]
abbrev edges(es:List E):D:=.sl 3 (es.map E.cells)
structure Gr where
 nodes:List Int
 edges:List E
 deriving DecidableEq,Inhabited
structure Mo where
 nodes:List Int
 edges:List Int
 deriving DecidableEq,Inhabited
abbrev Gr.av(g:Gr):AV:=.agg [.d (ints g.nodes),.d (AM.edges g.edges)]
abbrev Mo.av(m:Mo):AV:=.agg [.d (ints m.nodes),.d (ints m.edges)]
@[simp] theorem map_at{α β:Type}(f:α->β)(l:List α)(i:Nat)(d:β)(h:i<l.length):((l.map f)[i]?).getD d=f l[i]:=by simp[h]
class Nrm (l:List CI) (l':outParam (List CI)):Prop where
 h:∀{P:Program} {cx:Cx} {nt0:Nat} {K:Exit->AS->Prop} {S:AS},AL P cx nt0 K l' S->AL P cx nt0 K l S
instance (priority:=low) Nrm.base {l:List CI}:Nrm l l:=⟨id⟩
instance Nrm.seq {a b:Code} {r l':List CI} [h:Nrm (.c a::.c b::r) l']:Nrm (.c (.seq a b)::r) l':=⟨fun x=>AL.seq (h.h x)⟩
instance Nrm.block {id:Nat} {c:Code} {r l':List CI} [h:Nrm (.c c::.blk id::r) l']:Nrm (.c (.block id c)::r) l':=⟨fun x=>AL.block (h.h x)⟩
instance Nrm.skip {r l':List CI} [h:Nrm r l']:Nrm (.c .skip::r) l':=⟨fun x=>AL.skip (h.h x)⟩
instance Nrm.blk {id:Nat} {r l':List CI} [h:Nrm r l']:Nrm (.blk id::r) l':=⟨fun x=>AL.blk (h.h x)⟩
section
variable {P:Program} {cx:Cx} {nt0:Nat} {K:Exit->AS->Prop} {S:AS} {l l' r:List CI}
abbrev DC(f:FuncId)(a:List AV)(v:AV):Prop:=∀(tok:Tks) (nt:Nat),DCall prog f a tok nt v tok nt
theorem sN[h:Nrm l l'](k:AL P cx nt0 K l' S):AL P cx nt0 K l S:=h.h k
theorem sR{id:Nat}{ops:Array Oper}{draw:Bool}[h:Nrm l (.c (.region id ops draw)::r)](k:FReg prog cx ops draw (AL prog cx nt0 K r) S)(hnb:cx.base+cx.n<=cx.nb:=by exact nr _)(hok:regionOk cx.n ops draw=true:=by kernel_rfl):AL prog cx nt0 K l S :=
 h.h (AL.region follows_Tryz hnb hok k)
theorem sC{x:Operand}{a b:Code}[h:Nrm l (.c (.cond x a b)::r)](k:FCond P cx nt0 K r a b S (S.ev x)):AL P cx nt0 K l S:=h.h (AL.cond k)
theorem sT[h:Nrm l (.c .ret::r)](k:K .ret S):AL P cx nt0 K l S:=h.h (AL.ret k)
theorem sE[h:Nrm l []](k:K .normal S):AL P cx nt0 K l S:=h.h (AL.nil k)
theorem sX{id:Nat}[h:Nrm l (.c (.exit id)::r)](k:AU P cx nt0 K r (.exit id) S):AL P cx nt0 K l S:=h.h (AL.exit k)
theorem sF{nt:Nat}{rs:List ResultVar}{l:List (Nat × AV)}{out:Bxs}{loc:List (Nat × List (List AV))}{tok mtok:Nat->Bool}{vs:List AV}{av:AV}(Hb:lb cx.base out []=out)(hm:∀t,mtok t=true->t<nt0)(Ht:∀t,mtok t=true->tok t=true)(hnt:nt0<=nt)(hto:To (fun k=>lb cx.base out [] k≠none) (fun t=>nt0=nt∨t<nt0) none (packA vs) av)(hres:resAs P ⟨tl l,lb cx.base out loc,tok,nt⟩ rs=some vs:=by (simp[resAs,resA];rfl))(ho:out=cx.B0:=by rfl):Fin P cx nt0 rs (fun v' m'=>v'=av/\m'=⟨out,cx.base,mtok,nt0⟩) ⟨tl l,lb cx.base out loc,tok,nt⟩ :=
 Fin.data hres Hb ho hm Ht hnt hto
end
theorem sW{i:Nat}(h:i<9223372036854775807):IntKind.i64.wrap (↑i+1)=((i+1:Nat):Int):=by rw[wrap_in (by omega) (by omega)];rfl
theorem sB{f:FuncId}{fn:Func}{c:Code}{args:List AV}{m:AMem}{Q:AV->AMem->Prop}{k:Nat}(hfn:prog.funcs[f]?=some fn)(hk:fn.ntmps=k)(h:lb m.nb m.box []=m.box->(∀t,m.tok t=true->t<m.nt)->AT prog ⟨m.nb,m.nb+fn.ntmps,fn.ntmps,m.box⟩ m.nt c ⟨tl (tlArgs 0 args),lb m.nb m.box [],m.tok,m.nt⟩
   fun e S=>(e=.normal∨e=.ret)/\Fin prog ⟨m.nb,m.nb+fn.ntmps,fn.ntmps,m.box⟩ m.nt fn.results.toList Q S)(hb:fn.body=some c:=by rfl)(hname:(fn.name == "runtime.NumGoroutine")=false:=by kernel_rfl)(hl:args.length<=k:=by simp):ACalls prog f args m Q :=
 ACalls.of_body hfn hb hname follows_Tryz rfl (hk ▸ hl) h
theorem sI{f:FuncId}{fn:Func}{c:Code}{args:List AV}{box:Nat->Option (List (List AV))}{nb:Nat}{tok:Nat->Bool}{nt:Nat}{Q:AV->AMem->Prop}{k:Nat}(hfn:prog.funcs[f]?=some fn)(hk:fn.ntmps=k)(h:lb nb box []=box->(∀t,tok t=true->t<nt)->AL prog ⟨nb,nb+k,k,box⟩ nt (fun e S=>(e=.normal∨e=.ret)/\Fin prog ⟨nb,nb+k,k,box⟩ nt fn.results.toList Q S) [.c c] ⟨tl (tlArgs 0 args),lb nb box [],tok,nt⟩)(hb:fn.body=some c:=by rfl)(hname:(fn.name == "runtime.NumGoroutine")=false:=by kernel_rfl)(hl:args.length<=k:=by simp):ACalls prog f args ⟨box,nb,tok,nt⟩ Q:=by
 subst hk;exact sB (m:=⟨box,nb,tok,nt⟩) hfn rfl (fun h1 h2=>AL.start (h h1 h2)) hb hname hl
theorem sG{P:Program}{cx:Cx}{nt0:Nat}{rs:List ResultVar}{l:List (Nat × AV)}{out:Nat->Option (List (List AV))}{loc:List (Nat × List (List AV))}{tok mtok:Nat->Bool}{vs:List AV}{av:AV}{nt:Nat}(Hb:lb cx.base out []=out)(hm:∀t,mtok t=true->t<nt0)(Ht:∀t,mtok t=true->tok t=true)(hnt:nt0<=nt)(hto:To (fun k=>lb cx.base out [] k≠none) (fun t=>nt0=nt∨t<nt0) none (packA vs) av)(hres:resAs P ⟨tl l,lb cx.base out loc,tok,nt⟩ rs=some vs:=by (simp[resAs,resA];rfl))(ho:out=cx.B0:=by rfl):
 (Exit.ret=Exit.normal∨Exit.ret=Exit.ret)/\Fin P cx nt0 rs (fun v' m'=>v'=av/\m'=⟨out,cx.base,mtok,nt0⟩) ⟨tl l,lb cx.base out loc,tok,nt⟩:=⟨.inr rfl,sF Hb hm Ht hnt hto hres ho⟩
theorem sH{P:Program}{cx:Cx}{nt0:Nat}{rs:List ResultVar}{l:List (Nat × AV)}{out:Nat->Option (List (List AV))}{loc:List (Nat × List (List AV))}{tok:Nat->Bool}{vs:List AV}{av:AV}(Hb:lb cx.base out []=out)(hm:∀t,tok t=true->t<nt0)(hto:To (fun k=>lb cx.base out [] k≠none) (fun t=>nt0=nt0∨t<nt0) none (packA vs) av)(hres:resAs P ⟨tl l,lb cx.base out loc,tok,nt0⟩ rs=some vs:=by (simp[resAs,resA];rfl))(ho:out=cx.B0:=by rfl):
 (Exit.ret=Exit.normal∨Exit.ret=Exit.ret)/\Fin P cx nt0 rs (fun v' m'=>v'=av/\m'=⟨out,cx.base,tok,nt0⟩) ⟨tl l,lb cx.base out loc,tok,nt0⟩:=sG Hb hm (fun _ h=>h) (nr _) hto hres ho
theorem wkA{cx:Cx}{nt0 nt:Nat}{l l':List (Nat × AV)}{out:Nat->Option (List (List AV))}{loc loc':List (Nat × List (List AV))}{tok:Nat->Bool}(hl:ToL (fun k=>lb cx.base out loc' k≠none) (fun _=>True) none l l':=by simp[ToL,lk,lb_at])(hb:BoxL (fun k=>lb cx.base out loc' k≠none) (fun _=>True) none loc loc':=by simp[BoxL,lk])(hnt:nt0<=nt:=by exact nr _)(ho:out=cx.B0:=by rfl):Weaks cx nt0 ⟨tl l,lb cx.base out loc,tok,nt⟩ ⟨tl l',lb cx.base out loc',tok,nt⟩:=wM hnt ho hl hb
def withinB(n most:Int):Bool:=decide (0<=n)&&decide (n<=most)
def fitsB(e:E)(nodes:Int):Bool:=withinB e.ty 99&&(withinB e.fr (nodes-1)&&withinB e.to (nodes-1))
theorem within_c(n most:Int):DC 202 [I n,I most] (B (withinB n most)):=by
 intro tok nt box nb;refine sI func202 ntmps202 fun Hb Ht=>?_
 refine sR ?_;simp;refine sR ?_;simp;first|refine Gd.dt (fun h=>?_) (fun h=>?_)|refine Gd.df (fun h=>?_) (fun h=>?_)|refine Gd.t (fun h=>?_) (fun h=>?_)|refine Gd.f (fun h=>?_) (fun h=>?_)
 .simp[h];refine sT (sH Hb Ht ?_);simp[withinB,h]
 .simp[h];refine sT (sH Hb Ht ?_);simp[withinB,h]
theorem fits_c(e:E)(nodes:Int)(h0:0<=nodes)(h1:nodes<=1000000):DC 204 [.agg [I e.ty,I e.fr,I e.to],I nodes] (B (fitsB e nodes)):=by
 intro tok nt box nb;have hw:IntKind.i64.wrap (nodes-1)=nodes-1:=wrap_in (by omega) (by omega)
 refine sI func204 ntmps204 fun Hb Ht=>?_
 refine sR ?_;simp;refine sR ?_;simp[hw];refine sD (within_c _ _ _ _) ?_;simp[hw];first|refine Gd.dt (fun h2=>?_) (fun h2=>?_)|refine Gd.df (fun h2=>?_) (fun h2=>?_)|refine Gd.t (fun h2=>?_) (fun h2=>?_)|refine Gd.f (fun h2=>?_) (fun h2=>?_)
 .simp[hw,h2];refine sD (within_c _ _ _ _) ?_;simp[hw,h2];first|refine Gd.dt (fun h3=>?_) (fun h3=>?_)|refine Gd.df (fun h3=>?_) (fun h3=>?_)|refine Gd.t (fun h3=>?_) (fun h3=>?_)|refine Gd.f (fun h3=>?_) (fun h3=>?_)
  .simp[hw,h3];refine sD (within_c _ _ _ _) ?_;simp[hw,h2,h3];refine sT (sH Hb Ht ?_);simp[fitsB,h2,h3]
  .simp[h3];refine sT (sH Hb Ht ?_);simp[fitsB,h2,h3]
 .simp[h2];refine sT (sH Hb Ht ?_);simp[fitsB,h2]
theorem valid1_c(n:Int):DC 201 [I n] (B (!withinB n 99)):=by
 intro tok nt box nb;refine sI func201 ntmps201 fun Hb Ht=>?_
 refine sR ?_;simp;refine sR ?_;simp;refine sD (within_c _ _ _ _) ?_;simp;refine sT (sH Hb Ht ?_);simp
theorem valid2_c(e:E)(g:Gr)(hg:g.nodes.length<=1000000)(tok:Tks)(nt:Nat)(box:Bxs)(nb k:Nat)(hk:box k=some [[.d (ints g.nodes),.d (AM.edges g.edges)]]):
  ACalls prog 203 [.agg [I e.ty,I e.fr,I e.to],.ptr k 0 0] ⟨box,nb,tok,nt⟩ fun v m=>v=B (!fitsB e g.nodes.length)/\m=⟨box,nb,tok,nt⟩:=by
 refine sI func203 ntmps203 fun Hb Ht=>?_
 have hkn:=key_lt Hb hk;refine sR ?_;simp;refine sR ?_;simp[lO hkn,hk];refine sD (fits_c e g.nodes.length (by omega) (by omega) _ _) ?_;simp;refine sT (sH Hb Ht ?_);simp
variable {P:Program}
def RowTo(p q:Nat->Prop)(fz:Option (Nat × Nat × List (List D)))(r r':List AV):Prop :=
 r.length=r'.length/\∀j (g1:j<r.length) (g2:j<r'.length),To p q fz r[j] r'[j]
section
variable {p q:Nat->Prop} {fz:Option (Nat × Nat × List (List D))}
@[simp] theorem rowTo_nil:RowTo p q fz [] []:=⟨rfl,fun j h=>by simp at h⟩
@[simp] theorem rowTo_cons{x y:AV}{xs ys:List AV}:RowTo p q fz (x::xs) (y::ys)↔To p q fz x y/\RowTo p q fz xs ys:=by
 constructor
 .rintro⟨h1,h2⟩;refine⟨h2 0 (by simp) (by simp),by simpa using h1,fun j g1 g2=>?_⟩;exact h2 (j+1) (by simpa using g1) (by simpa using g2)
 .rintro⟨h1,h2,h3⟩;refine⟨by simp[h2],fun j g1 g2=>?_⟩;cases j with
  | zero=>exact h1
  | succ j=>exact h3 j (by simpa using g1) (by simpa using g2)
@[simp] theorem rowsTo_nil:RowsTo p q fz [] []:=⟨rfl,fun j h=>by simp at h⟩
@[simp] theorem rowsTo_cons{x y:List AV}{xs ys:List (List AV)}:RowsTo p q fz (x::xs) (y::ys)↔RowTo p q fz x y/\RowsTo p q fz xs ys:=by
 constructor
 .rintro⟨h1,h2⟩;refine⟨h2 0 (by simp) (by simp),by simpa using h1,fun j g1 g2=>?_⟩;exact h2 (j+1) (by simpa using g1) (by simpa using g2)
 .rintro⟨h1,h2,h3⟩;refine⟨by simp[h2],fun j g1 g2=>?_⟩;cases j with
  | zero=>exact h1
  | succ j=>exact h3 j (by simpa using g1) (by simpa using g2)
theorem rowsTo_same{rows:List (List AV)}(h:∀r∈rows,∀x∈r,OkIn p q x):RowsTo p q fz rows rows :=
 ⟨rfl,fun i h1 h2=>⟨rfl,fun j g1 g2=>.same (h _ (List.getElem_mem _) _ (List.getElem_mem _))⟩⟩
end
def rowsD(es:List (List D)):List (List AV):=es.map fun e=>e.map AV.d
@[simp] theorem rowsD_length(es:List (List D)):(rowsD es).length=es.length:=by simp[rowsD]
@[simp] theorem rowsD_get{es:List (List D)}{i:Nat}(h:i<es.length):(rowsD es)[i]?=some ((es[i]).map AV.d):=by simp[rowsD,h]
@[simp] theorem rowsTo_D{p q:Nat->Prop}{fz:Option (Nat × Nat × List (List D))}(es:List (List D)):RowsTo p q fz (rowsD es) (rowsD es):=by
 refine rowsTo_same fun r hr x hx=>?_
 obtain⟨e,_,rfl⟩:=List.mem_map.1 hr;obtain⟨d,_,rfl⟩:=List.mem_map.1 hx;exact .d
abbrev rI(xs:List Int):List (List D):=xs.map fun n=>[D.raw (.int .i64 n)]
abbrev rE(es:List E):List (List D):=es.map E.cells
def rowsI(xs:List Int):List (List AV):=xs.map fun n=>[AV.d (.raw (.int .i64 n))]
def rowsE(xs:List E):List (List AV):=xs.map fun e=>[AV.d (.raw (.int .i64 e.ty)),AV.d (.raw (.int .i64 e.fr)),AV.d (.raw (.int .i64 e.to))]
theorem rowsI_eq(xs:List Int):rowsI xs=rowsD (rI xs):=by simp[rowsI,rowsD,rI]
theorem rowsE_eq(xs:List E):rowsE xs=rowsD (rE xs):=by simp[rowsE,rowsD,rE,E.cells]
@[simp] theorem rep_rI(n:Nat):List.replicate n [AV.d (.raw (.int .i64 0))]=rowsI (List.replicate n 0):=by simp[rowsI]
@[simp] theorem rep_rE(n:Nat):List.replicate n [AV.d (.raw (.int .i64 0)),AV.d (.raw (.int .i64 0)),AV.d (.raw (.int .i64 0))]=rowsE (List.replicate n ⟨0,0,0⟩):=by simp[rowsE]
@[simp] theorem set_rI(xs:List Int)(i:Nat)(v:Int):(rowsI xs).set i [AV.d (.raw (.int .i64 v))]=rowsI (xs.set i v):=by simp[rowsI,List.map_set]
@[simp] theorem set_rE(xs:List E)(i:Nat)(a b c:Int):(rowsE xs).set i [AV.d (.raw (.int .i64 a)),AV.d (.raw (.int .i64 b)),AV.d (.raw (.int .i64 c))]=rowsE (xs.set i ⟨a,b,c⟩):=by simp[rowsE,List.map_set]
@[simp] theorem rowsI_length(xs:List Int):(rowsI xs).length=xs.length:=by simp[rowsI]
@[simp] theorem rowsE_length(xs:List E):(rowsE xs).length=xs.length:=by simp[rowsE]
@[simp high] theorem rowsI_get{xs:List Int}{i:Nat}(h:i<xs.length):(rowsI xs)[i]?=some [AV.d (.raw (.int .i64 xs[i]))]:=by simp[rowsI,h]
@[simp high] theorem rowsE_get{xs:List E}{i:Nat}(h:i<xs.length):(rowsE xs)[i]?=some [AV.d (.raw (.int .i64 xs[i].ty)),AV.d (.raw (.int .i64 xs[i].fr)),AV.d (.raw (.int .i64 xs[i].to))]:=by simp[rowsE,h]
@[simp] theorem rowsTo_I{p q:Nat->Prop}{fz:Option (Nat × Nat × List (List D))}(xs:List Int):RowsTo p q fz (rowsI xs) (rowsI xs):=by rw[rowsI_eq];simp
@[simp] theorem rowsTo_E{p q:Nat->Prop}{fz:Option (Nat × Nat × List (List D))}(xs:List E):RowsTo p q fz (rowsE xs) (rowsE xs):=by rw[rowsE_eq];simp
theorem toDs_map:∀(e:List D),toDs (e.map AV.d)=some e
 | []=>rfl
 | d::e=>by simp[toDs,AV.toD,toDs_map e]
theorem Weaks.frz{cx:Cx}{nt0 nt:Nat}{l l':List (Nat × AV)}{out:Bxs}{loc loc':List (Nat × List (List AV))}{tok:Nat->Bool}(s sz:Nat)(es:List (List D))(hnt:nt0<=nt)(ho:out=cx.B0)(hs:lk loc s=some (rowsD es))(hs':lk loc' s=none)(hsz:∀e∈es,e.length=sz)(hl:ToL (fun k=>lb cx.base out loc' k≠none) (fun _=>True) (some (cx.base+s,sz,es)) l l')(hb:BoxL (fun k=>lb cx.base out loc' k≠none) (fun _=>True) (some (cx.base+s,sz,es)) loc loc'):
  Weaks cx nt0 ⟨tl l,lb cx.base out loc,tok,nt⟩ ⟨tl l',lb cx.base out loc',tok,nt⟩:=by
 refine⟨out,loc,loc',some (s,sz,es),rfl,rfl,nr _,hnt,fun t h=>⟨h,.inl rfl⟩,?_,?_,?_,?_⟩
 .simp only[true_or,Option.map_some];exact hl.all
 .simp only[true_or,Option.map_some];exact hb.all
 .rintro s' sz' es' h;cases h;refine⟨hs',rowsD es,hs,by simp,?_,?_⟩
  .intro r hr;obtain⟨e,he,rfl⟩:=List.mem_map.1 hr;simpa using hsz e he
  .intro i h1 h2;have:(rowsD es)[i]=(es[i]).map AV.d:=by simp[rowsD]
   rw[this];exact toDs_map _
 .intro k rows _ h;exact .inl (by rw[<-ho];exact h)
@[simp] theorem to_frz{p q:Nat->Prop}{k n sz:Nat}{es:List (List D)}(h:n=es.length):To p q (some (k,sz,es)) (.msl k 0 n sz) (.d (.sl sz es)):=by
 subst h;exact .frz rfl
theorem Fin.gen{cx:Cx}{nt0 nt nt':Nat}{rs:List ResultVar}{l:List (Nat × AV)}{out:Bxs}{loc:List (Nat × List (List AV))}{tok tok':Nat->Bool}{vs:List AV}{av:AV}(hres:resAs P ⟨tl l,lb cx.base out loc,tok,nt⟩ rs=some vs)(Hb:lb cx.base out []=out)(h0:nt0<=nt')(hnt:nt'<=nt)(Ht:∀t,tok' t=true->tok t=true/\(nt'=nt∨t<nt'))(ho:∀k rows,k<cx.base->out k=some rows->cx.B0 k=some rows∨∀r∈rows,∀x∈r,OkIn (fun k=>lb cx.base out [] k≠none) (fun t=>nt'=nt∨t<nt') x)(hto:To (fun k=>lb cx.base out [] k≠none) (fun t=>nt'=nt∨t<nt') none (packA vs) av):Fin P cx nt0 rs (fun v' m'=>v'=av/\m'=⟨out,cx.base,tok',nt'⟩) ⟨tl l,lb cx.base out loc,tok,nt⟩ :=
 ⟨vs,out,loc,none,av,⟨out,cx.base,tok',nt'⟩,hres,⟨rfl,rfl,hnt,h0,Ht,fun _=>.bot,fun s rows' h=>by simp[lk] at h,(fun _ _ _ h=>by cases h),
  ho⟩,Hb.symm,rfl,by simpa using hto,rfl,rfl⟩
theorem Fin.own{cx:Cx}{nt0 nt:Nat}{rs:List ResultVar}{l:List (Nat × AV)}{out:Bxs}{loc:List (Nat × List (List AV))}{tok:Nat->Bool}{vs:List AV}{av:AV}(hres:resAs P ⟨tl l,lb cx.base out loc,tok,nt⟩ rs=some vs)(Hb:lb cx.base out []=out)(ho:out=cx.B0)(hnt:nt0<=nt)(hto:To (fun k=>lb cx.base out [] k≠none) (fun _=>True) none (packA vs) av):Fin P cx nt0 rs (fun v' m'=>v'=av/\m'=⟨out,cx.base,tok,nt⟩) ⟨tl l,lb cx.base out loc,tok,nt⟩ :=
 Fin.gen hres Hb hnt (nr _) (fun t h=>⟨h,.inl rfl⟩) (fun k rows _ h=>.inl (by rw[<-ho];exact h)) (by simpa using hto)
theorem Ext.lb{box box':Bxs}{nb:Nat}(h:Ext box box')(hb:lb nb box' []=box')(loc:List (Nat × List (List AV))):Ext box (AM.lb nb box' loc):=fun k r hk=>by
 have h1:=h k r hk;rw[lO (key_lt hb h1)];exact h1
theorem OkIn.mono{p p' q q':Nat->Prop}(hp:∀k,p k->p' k)(hq:∀k,q k->q' k){x:AV}(h:OkIn p q x):OkIn p' q' x:=by
 induction h with
 | bot=>exact .bot
 | d=>exact .d
 | osl h=>exact .osl fun t e=>hq _ (h t e)
 | cptr=>exact .cptr
 | ptr h=>exact .ptr (hp _ h)
 | here h=>exact .here (hp _ h)
 | buf h=>exact .buf (hq _ h)
 | msl h=>exact .msl (hp _ h)
 | fn h ih=>exact .fn ih
 | agg h ih=>exact .agg ih
 | tup h ih=>exact .tup ih
 | ex h=>exact .ex (hq _ h)
 | stk h=>exact .stk (hq _ h)
 | que h=>exact .que (hq _ h)
 | mp h hs=>exact .mp (hq _ h) fun e he t ht=>hq _ (hs e he t ht)
 | mpd=>exact .mpd
theorem okFn{box:Bxs}{nb:Nat}{caps:List AV}(h:∀c∈caps,OkIn (fun k=>box k≠none) (fun _=>True) c)(hb:lb nb box []=box)(loc:List (Nat × List (List AV))){p q:Nat->Prop}(hp:p=fun k=>lb nb box loc k≠none)(hq:q=fun _=>True)(f:Fn):OkIn p q (.fn f caps):=by
 subst hp;subst hq;refine .fn fun c hc=>(h c hc).mono (fun k hk=>?_) fun _ h=>h
 obtain⟨r,hr⟩:=Option.ne_none_iff_exists'.1 hk;rw[lO (key_lt hb hr),hr];simp
theorem Fin.mono{cx:Cx}{nt0:Nat}{rs:List ResultVar}{Q Q':AV->AMem->Prop}{S:AS}(h:Fin P cx nt0 rs Q S)(hq:∀v m,Q v m->Q' v m):Fin P cx nt0 rs Q' S:=by
 obtain⟨vs,out,loc,fz,av,m',h1,h2,h3,h4,h5,h6⟩:=h;exact⟨vs,out,loc,fz,av,m',h1,h2,h3,h4,h5,hq _ _ h6⟩
def Conv(v:AV)(m:AMem)(v':AV)(m':AMem):Prop:=m'.nb=m.nb/\m'.box=m.box/\∀G w u,RelM G m w->RV G w v u->∃G',RelM G' m' w/\RV G' w v' u/\Le G w G' w/\∀k,G.bx k=none->G'.bx k=none
theorem Conv.refl(v:AV)(m:AMem):Conv v m v m:=⟨rfl,rfl,fun G w u h1 h2=>⟨G,h1,h2,Le.refl G w,fun _ h=>h⟩⟩
theorem Conv.newtok(sz sz':Nat)(box:Bxs)(nb:Nat)(tok:Tks)(nt:Nat):Conv (.osl sz [] .full) ⟨box,nb,tok,nt⟩ (.osl sz' [] (.tok nt)) ⟨box,nb,upd tok nt true,nt+1⟩:=by
 refine⟨rfl,rfl,fun G w u hm hv=>⟨G.newtok none,hm.newtok none (fun g h=>by cases h),?_,Le.newtok none,fun k h=>h⟩⟩;have hnt:G.nt=nt:=hm.nt
 cases hv with
 | osl h ho =>
  cases h with
  | sl u hcap hmax hsz hA hc hr =>
   refine .osl (.sl (fun _ _=>default) hcap hmax (by simp) (by simp) (fun a _ i j hi _=>by simp at hi) (fun i j hi _=>by simp at hi)) ⟨by simp[Gh.newtok,hnt],fun x hx=>?_⟩;simp only[Gh.newtok,hnt,uS,Option.some.injEq] at hx;subst hx;exact ho.imp fun _ h=>h.1
theorem ACalls.conv{f:FuncId}{args:List AV}{m:AMem}{Q Q':AV->AMem->Prop}(h:ACalls P f args m Q)(hq:∀v m1,Q v m1->∃v' m',Conv v m1 v' m'/\Q' v' m'):ACalls P f args m Q' :=
 ⟨h.1,fun G w vals hm hr=>(h.2 G w vals hm hr).mono fun e w' ⟨v,av,m1,G1,h1,h2,h3,h4,h5,h6,h7⟩=>by
  obtain⟨v',m',⟨c1,c2,c3⟩,hq'⟩:=hq _ _ h2;obtain⟨G2,k1,k2,k3,k4⟩:=c3 G1 w' v h4 h5;exact⟨v,v',m',G2,h1,hq',c1.trans h3,k1,k2,h6.trans k3,fun k hk=>⟨k4 k (h7 k hk).1,by rw[c2];exact(h7 k hk).2⟩⟩⟩
theorem TK.perm{mtok:Nat->Bool}{nt0:Nat}{tok:Nat->Bool}{nt:Nat}{os os':List Own}(h:TK mtok nt0 tok nt os)(hp:os.Perm os'):TK mtok nt0 tok nt os' :=
 ⟨h.old,h.lt,h.le,fun o ho=>h.own o (hp.mem_iff.2 ho),(List.Perm.pairwise_iff (fun {a b} hab t e e'=>hab t e' e) hp).1 h.ne⟩
theorem TK.pick3{mtok:Nat->Bool}{nt0:Nat}{tok:Nat->Bool}{nt:Nat}{a b c:Own}{os:List Own}(h:TK mtok nt0 tok nt (a::b::c::os)):TK mtok nt0 tok nt (c::a::b::os) :=
 h.perm (((List.Perm.swap c b os).cons a).trans (List.Perm.swap c a (b::os)))
theorem TK.put3{mtok:Nat->Bool}{nt0:Nat}{tok:Nat->Bool}{nt:Nat}{a b c:Own}{os:List Own}(h:TK mtok nt0 tok nt (c::a::b::os)):TK mtok nt0 tok nt (a::b::c::os) :=
 h.perm (((List.Perm.swap c b os).cons a).trans (List.Perm.swap c a (b::os))).symm
attribute [simp] intsOf convF
theorem clone_c(xs:List Int)(hx:xs.length<=1000000)(tok:Tks)(nt:Nat):DCall prog 126 [.d (ints xs)] tok nt (.osl 1 (rI xs) (.tok nt)) (upd tok nt true) (nt+1):=by
 intro box nb;have main:ACalls prog 126 [.d (ints xs)] ⟨box,nb,tok,nt⟩ fun v m=>(v=.osl 1 (rI xs) (.tok nt)/\m=⟨box,nb,upd tok nt true,nt+1⟩)∨(xs=[]/\v=.osl 0 [] .full/\m=⟨box,nb,tok,nt⟩):=by
  refine sI func126 ntmps126 fun Hb Ht=>?_
  refine sR ?_;simp;refine sR ?_;simp;refine⟨?_,fun h=>?_⟩
  .refine sC ?_;simp;refine sR ?_;simp;refine⟨by omega,?_⟩;refine sN ?_;refine AL.ret ?_;try simp only[AU]
   refine⟨by simp,(Fin.own (by simp[resAs,resA];rfl) Hb rfl (by simp) ?_).mono fun v m hq=>.inl hq⟩;simp
  .refine sC ?_;simp;refine sR ?_;simp;refine sN ?_;refine AL.ret ?_;try simp only[AU]
   refine⟨by simp,(Fin.own (by simp[resAs,resA];rfl) Hb rfl (nr _) ?_).mono fun v m hq=>.inr ⟨h,hq.1,hq.2⟩⟩;simp
 refine main.conv fun v m h=>?_
 rcases h with ⟨rfl,rfl⟩|⟨rfl,rfl,rfl⟩
 .exact⟨_,_,Conv.refl _ _,rfl,rfl⟩
 .exact⟨_,_,Conv.newtok 0 1 box nb tok nt,rfl,rfl⟩
theorem cloneE_c(xs:List E)(hx:xs.length<=1000000)(tok:Tks)(nt:Nat):DCall prog 206 [.d (AM.edges xs)] tok nt (.osl 3 (rE xs) (.tok nt)) (upd tok nt true) (nt+1):=by
 intro box nb;have main:ACalls prog 206 [.d (AM.edges xs)] ⟨box,nb,tok,nt⟩ fun v m=>(v=.osl 3 (rE xs) (.tok nt)/\m=⟨box,nb,upd tok nt true,nt+1⟩)∨(xs=[]/\v=.osl 0 [] .full/\m=⟨box,nb,tok,nt⟩):=by
  refine sI func206 ntmps206 fun Hb Ht=>?_
  refine sR ?_;simp;refine sR ?_;simp;refine⟨?_,fun h=>?_⟩
  .refine sC ?_;simp;refine sR ?_;simp;refine⟨by omega,?_⟩;refine sN ?_;refine AL.ret ?_;try simp only[AU]
   refine⟨by simp,(Fin.own (by simp[resAs,resA];rfl) Hb rfl (by simp) ?_).mono fun v m hq=>.inl hq⟩;simp
  .refine sC ?_;simp;refine sR ?_;simp;refine sN ?_;refine AL.ret ?_;try simp only[AU]
   refine⟨by simp,(Fin.own (by simp[resAs,resA];rfl) Hb rfl (nr _) ?_).mono fun v m hq=>.inr ⟨h,hq.1,hq.2⟩⟩;simp
 refine main.conv fun v m h=>?_
 rcases h with ⟨rfl,rfl⟩|⟨rfl,rfl,rfl⟩
 .exact⟨_,_,Conv.refl _ _,rfl,rfl⟩
 .exact⟨_,_,Conv.newtok 0 3 box nb tok nt,rfl,rfl⟩
def indexI(xs:List Int)(v:Int):Int:=if v∈xs then (xs.idxOf v:Int) else -1
def st66(xs:List Int)(v:Int)(nb:Nat)(box:Bxs)(tok:Tks)(nt:Nat)(i:Nat):AS:=⟨tl [(0,.d (ints xs)),(1,I v),(7,I xs.length),(8,I i)],lb nb box [],tok,nt⟩
theorem index_c(xs:List Int)(v:Int)(hx:xs.length<=1000000):DC 222 [.d (ints xs),I v] (I (indexI xs v)):=by
 intro tok nt box nb;refine sI func222 ntmps222 fun Hb Ht=>?_
 refine sR ?_;simp;refine sR ?_;simp;refine sN ?_;refine sL (st66 xs v nb box tok nt) (fun i=>i<=xs.length/\v∉xs.take i) (fun i=>xs.length-i) 0 ⟨Nat.zero_le _,by simp⟩ (wM (nr _) rfl (by simp[ToL]) trivial) ?_;rintro i S ⟨hi,htk⟩ hS;simp only[st66] at hS;subst hS;have hw:=sW (i:=i) (by omega);refine sR ?_;simp;refine sC ?_;simp;refine⟨fun hlt=>?_,fun hge=>?_⟩
 .have hsp:xs=xs.take i++xs[i]::xs.drop (i+1):=by simp
  refine sR ?_;simp;refine sR ?_;simp[hlt];refine sC ?_;simp;refine⟨fun he=>?_,fun hne=>?_⟩
  .refine sR ?_;simp;have hmem:v∈xs:=by rw[he];exact List.getElem_mem _
   have hid:xs.idxOf v=i:=by
    unfold List.idxOf;rw[List.findIdx_eq hlt];refine⟨by simp[he],fun j hj=>?_⟩;have:xs[j]≠v:=fun e=>htk (by rw[<-e,List.mem_take_iff_getElem];exact⟨j,by omega,rfl⟩)
    simpa using this
   refine sT (sH Hb Ht ?_);simp[indexI,hmem,hid]
  .refine sR ?_;simp[hw];refine sE ?_;refine⟨i+1,⟨hlt,?_⟩,by omega,wM (nr _) rfl (by simp[ToL]) trivial⟩;rw[List.take_succ_eq_append_getElem hlt];simp only[List.mem_append,List.mem_singleton,not_or];exact⟨htk,hne⟩
 .refine sX ?_;simp only[AU,↓reduceIte];refine sR ?_;simp;have hn:v∉xs:=by rwa [List.take_of_length_le hge] at htk
  refine sT (sH Hb Ht ?_);simp[indexI,hn]
theorem indexI_nonneg(xs:List Int)(v:Int):(0<=indexI xs v)↔v∈xs:=by
 unfold indexI;split<;>simp[*]
theorem contains_c(xs:List Int)(v:Int)(hx:xs.length<=1000000):DC 143 [.d (ints xs),I v] (B (decide (v∈xs))):=by
 intro tok nt box nb;refine sI func143 ntmps143 fun Hb Ht=>?_
 refine sR ?_;simp;refine sR ?_;simp;refine sD (index_c xs v hx _ _) ?_;simp;refine sT (sH Hb Ht ?_);simp[indexI_nonneg]
def findI{α:Type}(p:α->Bool)(xs:List α):Int:=if xs.any p then (xs.findIdx p:Int) else -1
def anyB{α:Type}(p:α->Bool)(xs:List α):Bool:=xs.any p
theorem findI_nonneg{α:Type}(p:α->Bool)(xs:List α):(0<=findI p xs)↔xs.any p=true:=by
 unfold findI;split<;>simp[*]
theorem any_take{α:Type}{p:α->Bool}{xs:List α}{i:Nat}(h:i<xs.length)(h1:∀x∈xs.take i,p x=false)(h2:p xs[i]=true):xs.any p=true/\xs.findIdx p=i:=by
 have hany:xs.any p=true:=List.any_eq_true.2 ⟨_,List.getElem_mem h,h2⟩
 refine⟨hany,?_⟩;rw[List.findIdx_eq h];refine⟨h2,fun j hj=>?_⟩;have:=h1 xs[j] (by
  rw[List.mem_take_iff_getElem];exact⟨j,by omega,rfl⟩)
 simpa using this
def st96(xs:List Int)(f:FuncId)(caps:List AV)(nb:Nat)(box:Bxs)(tok:Tks)(nt:Nat)(i:Nat):AS:=⟨tl [(0,.d (ints xs)),(1,.fn (.func f) caps),(7,I xs.length),(8,I i)],lb nb box [],tok,nt⟩
theorem indexFunc_c(xs:List Int)(f:FuncId)(caps:List AV)(p:Int->Bool)(hx:xs.length<=1000000)(box:Bxs)(nb:Nat)(tok:Tks)(nt:Nat)(hc:∀c∈caps,OkIn (fun k=>box k≠none) (fun _=>True) c)(hf:∀x∈xs,∀box' nb',Ext box box'->ACalls prog f (I x::caps) ⟨box',nb',tok,nt⟩ fun v m=>v=B (p x)/\m=⟨box',nb',tok,nt⟩):
  ACalls prog 163 [.d (ints xs),.fn (.func f) caps] ⟨box,nb,tok,nt⟩ fun v m=>v=I (findI p xs)/\m=⟨box,nb,tok,nt⟩:=by
 refine sI func163 ntmps163 fun Hb Ht=>?_
 refine sR ?_;simp;refine sR ?_;simp;refine sN ?_;refine sL (st96 xs f caps nb box tok nt) (fun i=>i<=xs.length/\∀x∈xs.take i,p x=false) (fun i=>xs.length-i) 0 ⟨Nat.zero_le _,by simp⟩ (wM (nr _) rfl (by simp[ToL];exact .same (okFn hc Hb [] (by simp) rfl _)) trivial) ?_;rintro i S ⟨hi,htk⟩ hS;simp only[st96] at hS;subst hS;have hw:=sW (i:=i) (by omega);refine sR ?_;simp;refine sC ?_;simp;refine⟨fun hlt=>?_,fun hge=>?_⟩
 .refine sR ?_;simp;refine sR ?_;simp[hlt];refine Stop.of_b (hf xs[i] (List.getElem_mem _) _ _ ((Ext.refl box).lb Hb [])) ?_;simp;refine sC ?_;simp;refine⟨fun he=>?_,fun hne=>?_⟩
  .refine sR ?_;simp;obtain⟨h1,h2⟩:=any_take hlt htk he;refine sT (sH Hb Ht ?_);simp[findI,h1,h2]
  .refine sR ?_;simp[hw];refine sE ?_;refine⟨i+1,⟨hlt,?_⟩,by omega,wM (nr _) rfl (by simp[ToL];exact .same (okFn hc Hb [] (by simp) rfl _)) trivial⟩;rw[List.take_succ_eq_append_getElem hlt];intro x hx;rcases List.mem_append.1 hx with hx|hx
   .exact htk x hx
   .simp at hx;rw[hx];exact hne
 .refine sX ?_;simp only[AU,↓reduceIte];refine sR ?_;simp;have hn:xs.any p=false:=by
   rw[List.take_of_length_le hge] at htk;simpa using htk
  refine sT (sH Hb Ht ?_);simp[findI,hn]
theorem containsFunc_c(xs:List Int)(f:FuncId)(caps:List AV)(p:Int->Bool)(hx:xs.length<=1000000)(box:Bxs)(nb:Nat)(tok:Tks)(nt:Nat)(hc:∀c∈caps,OkIn (fun k=>box k≠none) (fun _=>True) c)(hf:∀x∈xs,∀box' nb',Ext box box'->ACalls prog f (I x::caps) ⟨box',nb',tok,nt⟩ fun v m=>v=B (p x)/\m=⟨box',nb',tok,nt⟩):
  ACalls prog 96 [.d (ints xs),.fn (.func f) caps] ⟨box,nb,tok,nt⟩ fun v m=>v=B (anyB p xs)/\m=⟨box,nb,tok,nt⟩:=by
 refine sI func96 ntmps96 fun Hb Ht=>?_
 refine sR ?_;simp;refine sR ?_;simp;refine Stop.of_b (indexFunc_c xs f caps p hx (lb nb box []) _ _ _ (fun c h=>(hc c h).mono (fun k hk=>by rw[Hb];exact hk) fun _ h=>h) (fun x hx' box' nb' he=>hf x hx' box' nb' (by rw[Hb] at he;exact he))) ?_;simp;have hany:decide (∃x,x∈xs/\p x=true)=anyB p xs:=by rw[Bool.eq_iff_iff];simp[anyB]
 refine sT (sH Hb Ht ?_);simp[findI_nonneg,hany]
def st97(xs:List E)(f:FuncId)(caps:List AV)(nb:Nat)(box:Bxs)(tok:Tks)(nt:Nat)(i:Nat):AS:=⟨tl [(0,.d (AM.edges xs)),(1,.fn (.func f) caps),(7,I xs.length),(8,I i)],lb nb box [],tok,nt⟩
theorem indexFuncE_c(xs:List E)(f:FuncId)(caps:List AV)(p:E->Bool)(hx:xs.length<=1000000)(box:Bxs)(nb:Nat)(tok:Tks)(nt:Nat)(hc:∀c∈caps,OkIn (fun k=>box k≠none) (fun _=>True) c)(hf:∀x∈xs,∀box' nb',Ext box box'->ACalls prog f (.agg [I x.ty,I x.fr,I x.to]::caps) ⟨box',nb',tok,nt⟩ fun v m=>v=B (p x)/\m=⟨box',nb',tok,nt⟩):
  ACalls prog 218 [.d (AM.edges xs),.fn (.func f) caps] ⟨box,nb,tok,nt⟩ fun v m=>v=I (findI p xs)/\m=⟨box,nb,tok,nt⟩:=by
 refine sI func218 ntmps218 fun Hb Ht=>?_
 refine sR ?_;simp;refine sR ?_;simp;refine sN ?_;refine sL (st97 xs f caps nb box tok nt) (fun i=>i<=xs.length/\∀x∈xs.take i,p x=false) (fun i=>xs.length-i) 0 ⟨Nat.zero_le _,by simp⟩ (wM (nr _) rfl (by simp[ToL];exact .same (okFn hc Hb [] (by simp) rfl _)) trivial) ?_;rintro i S ⟨hi,htk⟩ hS;simp only[st97] at hS;subst hS;have hw:=sW (i:=i) (by omega);refine sR ?_;simp;refine sC ?_;simp;refine⟨fun hlt=>?_,fun hge=>?_⟩
 .refine sR ?_;simp;refine sR ?_;simp[hlt];refine Stop.of_b (hf xs[i] (List.getElem_mem _) _ _ ((Ext.refl box).lb Hb [])) ?_;simp;refine sC ?_;simp;refine⟨fun he=>?_,fun hne=>?_⟩
  .refine sR ?_;simp;obtain⟨h1,h2⟩:=any_take hlt htk he;refine sT (sH Hb Ht ?_);simp[findI,h1,h2]
  .refine sR ?_;simp[hw];refine sE ?_;refine⟨i+1,⟨hlt,?_⟩,by omega,wM (nr _) rfl (by simp[ToL];exact .same (okFn hc Hb [] (by simp) rfl _)) trivial⟩;rw[List.take_succ_eq_append_getElem hlt];intro x hx;rcases List.mem_append.1 hx with hx|hx
   .exact htk x hx
   .simp at hx;rw[hx];exact hne
 .refine sX ?_;simp only[AU,↓reduceIte];refine sR ?_;simp;have hn:xs.any p=false:=by
   rw[List.take_of_length_le hge] at htk;simpa using htk
  refine sT (sH Hb Ht ?_);simp[findI,hn]
theorem containsFuncE_c(xs:List E)(f:FuncId)(caps:List AV)(p:E->Bool)(hx:xs.length<=1000000)(box:Bxs)(nb:Nat)(tok:Tks)(nt:Nat)(hc:∀c∈caps,OkIn (fun k=>box k≠none) (fun _=>True) c)(hf:∀x∈xs,∀box' nb',Ext box box'->ACalls prog f (.agg [I x.ty,I x.fr,I x.to]::caps) ⟨box',nb',tok,nt⟩ fun v m=>v=B (p x)/\m=⟨box',nb',tok,nt⟩):
  ACalls prog 135 [.d (AM.edges xs),.fn (.func f) caps] ⟨box,nb,tok,nt⟩ fun v m=>v=B (anyB p xs)/\m=⟨box,nb,tok,nt⟩:=by
 refine sI func135 ntmps135 fun Hb Ht=>?_
 refine sR ?_;simp;refine sR ?_;simp;refine Stop.of_b (indexFuncE_c xs f caps p hx (lb nb box []) _ _ _ (fun c h=>(hc c h).mono (fun k hk=>by rw[Hb];exact hk) fun _ h=>h) (fun x hx' box' nb' he=>hf x hx' box' nb' (by rw[Hb] at he;exact he))) ?_;simp;have hany:decide (∃x,x∈xs/\p x=true)=anyB p xs:=by rw[Bool.eq_iff_iff];simp[anyB]
 refine sT (sH Hb Ht ?_);simp[findI_nonneg,hany]
def vG(g:Gr):Int:=if 40<g.nodes.length∨80<g.edges.length then 3 else if anyB (fun n=>!withinB n 99) g.nodes then 6 else if anyB (fun e=>!fitsB e g.nodes.length) g.edges then 6 else 0
structure Gr.Fit (g:Gr):Prop where
 n:g.nodes.length<=1000000
 e:g.edges.length<=1000000
theorem graphValid_c(g:Gr)(hg:g.Fit):DC 122 [g.av] (I (vG g)):=by
 intro tok nt box nb;have hn:=hg.n;have he:=hg.e;refine sI func122 ntmps122 fun Hb Ht=>?_
 refine sR ?_;simp;refine sR ?_;simp;first|refine Gd.dt (fun h1=>?_) (fun h1=>?_)|refine Gd.df (fun h1=>?_) (fun h1=>?_)|refine Gd.t (fun h1=>?_) (fun h1=>?_)|refine Gd.f (fun h1=>?_) (fun h1=>?_)
 .simp[h1];refine sC ?_;simp;refine sR ?_;simp;refine sT (sH Hb Ht ?_);simp[vG,show 40<g.nodes.length by omega]
 .simp[h1];refine sC ?_;simp;refine⟨fun h2=>?_,fun h2=>?_⟩
  .refine sR ?_;simp;refine sT (sH Hb Ht ?_);simp[vG,show 80<g.edges.length by omega]
  .have hn1:¬40<g.nodes.length:=by omega
   have hn2:¬80<g.edges.length:=by omega
   refine sR ?_;simp;refine Stop.of_b (containsFunc_c g.nodes 201 [] (fun n=>!withinB n 99) hn _ _ _ _ (by simp) (fun x _ box' nb' _=>valid1_c x _ _ box' nb')) ?_;simp;refine sC ?_;simp;refine⟨fun h3=>?_,fun h3=>?_⟩
   .refine sR ?_;simp;refine sT (sH Hb Ht ?_);simp[vG,hn1,hn2,h3]
   .refine sR ?_;simp;refine Stop.of_b (containsFuncE_c g.edges 203 [.ptr (nb+1) 0 0] (fun e=>!fitsB e g.nodes.length) he _ _ _ _ (by simp[lb_at,lk]) (fun x _ box' nb' hx=>valid2_c x g hn _ _ box' nb' (nb+1) (hx _ _ (by simp[lb_at,lk])))) ?_;simp;refine sC ?_;simp;refine⟨fun h4=>?_,fun h4=>?_⟩
    .refine sR ?_;simp;refine sT (sH Hb Ht ?_);simp[vG,hn1,hn2,h3,h4]
    .refine sR ?_;simp;refine sT (sH Hb Ht ?_);simp[vG,hn1,hn2,h3,h4]
structure Mo.Fit (m:Mo):Prop where
 n:m.nodes.length<=1000000
 e:m.edges.length<=1000000
def iota(n:Nat):List Int:=(List.range n).map fun (i:Nat)=>(i:Int)
@[simp] theorem iota_length(n:Nat):(iota n).length=n:=by simp[iota]
@[simp] theorem iota_zero:iota 0=[]:=rfl
structure Acc where
 i:Nat
 own:Own
 tok:Nat->Bool
 nt:Nat
def upto(n i:Nat):List Int:=iota i++List.replicate (n-i) 0
@[simp] theorem upto_length{n i:Nat}(h:i<=n):(upto n i).length=n:=by simp[upto];omega
@[simp] theorem upto_zero(n:Nat):upto n 0=List.replicate n 0:=by simp[upto]
@[simp] theorem upto_all(n:Nat):upto n n=iota n:=by simp[upto]
variable {P:Program}
def AV.asD1:AV->AV
 | .osl sz es _=>.d (.sl sz es)
 | x=>x
def AV.asD:AV->AV
 | .osl sz es _=>.d (.sl sz es)
 | .agg cs=>.agg (cs.map AV.asD1)
 | x=>x
theorem RV.asD1{G:Gh}{w:World}{x:AV}{v:Value}(h:RV G w x v):RV G w x.asD1 v:=by
 cases h with
 | osl h1 h2=>exact .d h1
 | bot=>exact .bot
 | d h1=>exact .d h1
 | ptr h1=>exact .ptr h1
 | here h1 h2=>exact .here h1 h2
 | buf h1 h2 h3 h4=>exact .buf h1 h2 h3 h4
 | cptr a u hc hr=>exact .cptr a u hc hr
 | msl h1 h2 h3=>exact .msl h1 h2 h3
 | fn hl h=>exact .fn hl h
 | agg hl h h1=>exact .agg hl h h1
 | tup hl h=>exact .tup hl h
 | ex h=>exact .ex h
 | stk h=>exact .stk h
 | que h1 h2=>exact .que h1 h2
 | mp h=>exact .mp h
 | mpd h=>exact .mpd h
theorem RV.asD{G:Gh}{w:World}{x:AV}{v:Value}(h:RV G w x v):RV G w x.asD v:=by
 cases h with
 | osl h1 h2=>exact .d h1
 | bot=>exact .bot
 | d h1=>exact .d h1
 | ptr h1=>exact .ptr h1
 | here h1 h2=>exact .here h1 h2
 | buf h1 h2 h3 h4=>exact .buf h1 h2 h3 h4
 | cptr a u hc hr=>exact .cptr a u hc hr
 | msl h1 h2 h3=>exact .msl h1 h2 h3
 | fn hl h=>exact .fn hl h
 | agg hl h h1=>exact .agg (by simp[hl]) (fun i g1 g2=>by simp only[List.getElem_map];exact(h i (by simpa using g1) g2).asD1) h1
 | tup hl h=>exact .tup hl h
 | ex h=>exact .ex h
 | stk h=>exact .stk h
 | que h1 h2=>exact .que h1 h2
 | mp h=>exact .mp h
 | mpd h=>exact .mpd h
theorem RVs.asD{G:Gh}{w:World}{xs:List AV}{vs:List Value}(h:RVs G w xs vs):RVs G w (xs.map AV.asD) vs :=
 ⟨by simp[h.1],fun i g1 g2=>by simp only[List.getElem_map];exact(h.2 i (by simpa using g1) g2).asD⟩
theorem ACalls.asD{f:FuncId}{args:List AV}{m:AMem}{Q:AV->AMem->Prop}(h:ACalls P f (args.map AV.asD) m Q):ACalls P f args m Q :=
 ⟨h.1,fun G w vals hm hr=>h.2 G w vals hm hr.asD⟩
theorem Stop.data{cx:Cx}{dr:Bool}{fid:FuncId}{args:List AV}{S:AS}{dst:Option Tmp}{K:AS->Prop}(h:Stop P cx dr fid (args.map AV.asD) S dst K):Stop P cx dr fid args S dst K:=by
 cases dr with
 | true =>
  obtain⟨v,tok',nt',h1,h2⟩:=h;exact⟨v,tok',nt',fun box nb he=>(h1 box nb he).asD,h2⟩
 | false=>exact ACalls.asD h
def Sub(x y:AV):Prop:=∀G w v,RV G w x v->RV G w y v
theorem Sub.refl(x:AV):Sub x x:=fun _ _ _ h=>h
theorem Sub.data(sz:Nat)(es:List (List D))(o:Own):Sub (.osl sz es o) (.d (.sl sz es)):=fun _ _ _ h=>h.asD
abbrev nilV:Value:=.slice none 0 0
theorem Sub.nilv:Sub (.osl 0 [] .full) (.d (.raw nilV)):=fun G w v h=>by
 cases h with
 | osl h ho =>
  obtain⟨A,rfl,hA⟩:=ho;rw[hA rfl];exact .d (.raw rfl)
theorem Sub.nil(sz sz':Nat)(o:Own):Sub (.osl sz [] o) (.d (.sl sz' [])):=fun G w v h=>by
 cases h with
 | osl h ho =>
  cases h with
  | sl u hcap hmax hsz hA hc hr=>exact .d (.sl (es:=[]) (fun _ _=>default) hcap hmax (by simp) (by simp) (fun a _ i j hi _=>by simp at hi) (fun i j hi _=>by simp at hi))
def SubL:List AV->List AV->Prop
 | [],[]=>True
 | x::xs,y::ys=>Sub x y/\SubL xs ys
 | _,_=>False
theorem SubL.rvs{G:Gh}{w:World}:∀{xs ys:List AV} {vs:List Value},SubL xs ys->RVs G w xs vs->RVs G w ys vs
 | [],[],vs,_,h=>h
 | x::xs,y::ys,[],_,h=>by have:=h.1;simp at this
 | x::xs,y::ys,v::vs,hs,h=>RVs.cons (hs.1 _ _ _ (h.2 0 (by simp) (by simp))) (hs.2.rvs ⟨by simpa using h.1,fun i h1 h2=>h.2 (i+1) (by simpa using h1) (by simpa using h2)⟩)
theorem ACalls.sub{f:FuncId}{args args':List AV}{m:AMem}{Q:AV->AMem->Prop}(hs:SubL args args')(h:ACalls P f args' m Q):ACalls P f args m Q :=
 ⟨h.1,fun G w vals hm hr=>h.2 G w vals hm (hs.rvs hr)⟩
theorem Stop.sub{cx:Cx}{dr:Bool}{fid:FuncId}{args args':List AV}{S:AS}{dst:Option Tmp}{K:AS->Prop}(hs:SubL args args')(h:Stop P cx dr fid args' S dst K):Stop P cx dr fid args S dst K:=by
 cases dr with
 | true =>
  obtain⟨v,tok',nt',h1,h2⟩:=h;exact⟨v,tok',nt',fun box nb he=>(h1 box nb he).sub hs,h2⟩
 | false=>exact ACalls.sub hs h
theorem Stop.of_a{cx:Cx}{fid:FuncId}{args:List AV}{S:AS}{dst:Option Tmp}{K:AS->Prop}{Q:AV->AMem->Prop}(h:ACalls P fid args ⟨S.box,cx.nb,S.tok,S.nt⟩ Q)(hk:∀v m',Q v m'->K ⟨putT S.tmps dst v,m'.box,m'.tok,m'.nt⟩):Stop P cx false fid args S dst K:=h.mono hk
theorem rI_snoc(es:List Int)(v:Int):rI es++[[D.raw (.int .i64 v)]]=rI (es++[v]):=by simp[rI]
theorem upd_upd{α:Type}(f:Nat->α)(k:Nat)(x y:α):upd (upd f k x) k y=upd f k y:=by
 funext j
 simp only[upd];split<;>rfl
theorem beqD(x y:Int):(x==y)=decide (x=y):=by by_cases h:x=y<;>simp[h]
theorem Conv.sub{v v':AV}{m:AMem}(h:Sub v v'):Conv v m v' m:=⟨rfl,rfl,fun G w u h1 h2=>⟨G,h1,h _ _ _ h2,Le.refl G w,fun _ h=>h⟩⟩
theorem Sub.tup{xs ys:List AV}(h:SubL xs ys):Sub (.tup xs) (.tup ys):=fun G w v r=>by
 cases r with
 | tup hl hh=>have:=h.rvs ⟨hl,hh⟩;exact .tup this.1 this.2
theorem validG_edges{g:Gr}(h:vG g=0):∀e∈g.edges,0<=e.fr/\e.fr<g.nodes.length/\0<=e.to/\e.to<g.nodes.length:=by
 intro e he;unfold vG at h;split at h
 .cases h
 .split at h
  .cases h
  .split at h
   .cases h
   .rename_i h3;have:=List.any_eq_false.1 (Bool.not_eq_true _ ▸ h3) e he
    simp[fitsB,withinB] at this;omega
section
variable {α:Type}
end
theorem Sub.agg{xs ys:List AV}(h:SubL xs ys):Sub (.agg xs) (.agg ys):=fun G w v r=>by
 cases r with
 | agg hl hh h1=>have:=h.rvs ⟨hl,hh⟩;exact .agg this.1 this.2 h1
def firstE(f:Nat->Int):Nat->Int
 | 0=>0
 | n+1=>if firstE f n=0 then f n else firstE f n
theorem firstE_stop{f:Nat->Int}{i:Nat}(h0:firstE f i=0)(h:f i≠0):∀n,i<n->firstE f n=f i
 | 0,hn=>by omega
 | n+1,hn=>by
  simp only[firstE];by_cases e:i=n
  .subst e;rw[if_pos h0]
  .rw[firstE_stop h0 h n (by omega),if_neg h]
def nodeE(a b:Gr)(m:Mo)(i:Nat):Int :=
 if m.nodes.getD i 0<0∨(b.nodes.length:Int)<=m.nodes.getD i 0 then 6 else if b.nodes.getD (m.nodes.getD i 0).toNat 0=a.nodes.getD i 0 then 0 else 13
def edgeE(a b:Gr)(m:Mo)(i:Nat):Int :=
 if m.edges.getD i 0<0∨(b.edges.length:Int)<=m.edges.getD i 0 then 6 else
  let x:=a.edges.getD i default
  let y:=b.edges.getD (m.edges.getD i 0).toNat default
  if x.ty≠y.ty then 13 else if m.nodes.getD x.fr.toNat 0≠y.fr∨m.nodes.getD x.to.toNat 0≠y.to then 11 else 0
def validM(a b:Gr)(m:Mo):Int :=
 if vG a≠0 then vG a else if vG b≠0 then vG b else if m.nodes.length≠a.nodes.length∨m.edges.length≠a.edges.length then 20
 else if firstE (nodeE a b m) a.nodes.length≠0 then firstE (nodeE a b m) a.nodes.length else firstE (edgeE a b m) a.edges.length
def st51a(a b:Gr)(m:Mo)(nb:Nat)(box:Bxs)(tok:Tks)(nt:Nat)(i:Nat):AS :=
 ⟨tl [(3,.ptr (nb+3) 0 0),(4,.ptr (nb+4) 0 0),(5,.ptr (nb+5) 0 0),(42,.d (ints m.nodes)),(43,I m.nodes.length),(44,I i)],
  lb nb box [(3,[[.d (ints a.nodes),.d (AM.edges a.edges)]]),(4,[[.d (ints b.nodes),.d (AM.edges b.edges)]]),(5,[[.d (ints m.nodes),.d (ints m.edges)]])],tok,nt⟩
def st51b(a b:Gr)(m:Mo)(nb:Nat)(box:Bxs)(tok:Tks)(nt:Nat)(i:Nat):AS :=
 ⟨tl [(3,.ptr (nb+3) 0 0),(4,.ptr (nb+4) 0 0),(5,.ptr (nb+5) 0 0),(71,.d (ints m.edges)),(72,I m.edges.length),(73,I i)],
  lb nb box [(3,[[.d (ints a.nodes),.d (AM.edges a.edges)]]),(4,[[.d (ints b.nodes),.d (AM.edges b.edges)]]),(5,[[.d (ints m.nodes),.d (ints m.edges)]])],tok,nt⟩
theorem valid51_c(a b:Gr)(m:Mo)(ha:a.Fit)(hb:b.Fit):DC 124 [a.av,b.av,m.av] (I (validM a b m)):=by
 intro tok nt box nb;have han:=ha.n;have hae:=ha.e;have hbn:=hb.n;have hbe:=hb.e;refine sI func124 ntmps124 fun Hb Ht=>?_
 refine sR ?_;simp;refine sR ?_;simp;refine sD (graphValid_c a ha _ _) ?_;simp;by_cases hva:vG a=0
 .refine sR ?_;simp[hva];refine sC ?_;simp;refine sR ?_;simp;refine sD (graphValid_c b hb _ _) ?_;simp;by_cases hvb:vG b=0
  .refine sR ?_;simp[hvb];refine sC ?_;simp;have hxa:=validG_edges hva;have hxb:=validG_edges hvb;refine sR ?_;simp;by_cases hl1:m.nodes.length=a.nodes.length
   .simp[hl1];refine sC ?_;simp;refine⟨fun hl2=>?_,fun hl2=>?_⟩
    .refine sR ?_;simp;have hR:validM a b m=20:=by
      have:¬m.edges.length=a.edges.length:=by omega
      simp[validM,hva,hvb,this]
     refine sT (sH Hb Ht ?_);simp[hR]
    .refine sR ?_;simp;refine sN ?_;have hl2':m.edges.length=a.edges.length:=by omega
     have hRn:∀i,i<a.nodes.length->firstE (nodeE a b m) i=0->nodeE a b m i≠0->validM a b m=nodeE a b m i:=fun i hi h0 hne=>by
      have:=firstE_stop h0 hne a.nodes.length hi
      simp[validM,hva,hvb,hl1,hl2',this,hne]
     refine sL (st51a a b m nb box tok nt) (fun i=>i<=m.nodes.length/\firstE (nodeE a b m) i=0) (fun i=>m.nodes.length-i) 0 ⟨Nat.zero_le _,rfl⟩ wkA ?_;rintro i S ⟨hi,hok⟩ hS;simp only[st51a] at hS;subst hS;have hw:=sW (i:=i) (by omega);refine sR ?_;simp;refine sC ?_;simp;refine⟨fun hlt=>?_,fun hge=>?_⟩
     .have hia:i<a.nodes.length:=by omega
      have hgm:m.nodes.getD i 0=m.nodes[i]:=by simp[hlt]
      have hga:a.nodes.getD i 0=a.nodes[i]:=by simp[hia]
      refine sR ?_;simp[hlt];by_cases hneg:m.nodes[i]<0
      .refine sR ?_;simp[hneg];refine sC ?_;simp;refine sR ?_;simp;have hN:nodeE a b m i=6:=by simp only[nodeE,hgm];rw[if_pos (.inl hneg)]
       have hR:=hRn i hia hok (by rw[hN];decide);refine sT (sH Hb Ht ?_);simp[hR,hN]
      .refine sR ?_;simp[hneg];refine sC ?_;simp;refine⟨fun hbig=>?_,fun hsm=>?_⟩
       .refine sR ?_;simp;have hN:nodeE a b m i=6:=by simp only[nodeE,hgm];rw[if_pos (.inr (by omega))]
        have hR:=hRn i hia hok (by rw[hN];decide);refine sT (sH Hb Ht ?_);simp[hR,hN]
       .have hkb:m.nodes[i].toNat<b.nodes.length:=by omega
        have h0:0<=m.nodes[i]:=by omega
        have hgb:b.nodes.getD m.nodes[i].toNat 0=b.nodes[m.nodes[i].toNat]:=by simp[hkb]
        have hnb:¬(b.nodes.length:Int)<=m.nodes[i]:=by omega
        refine sR ?_;simp[hkb,h0,hsm,hia];refine sC ?_;simp;refine⟨fun hne=>?_,fun heq=>?_⟩
        .refine sR ?_;simp;have hN:nodeE a b m i=13:=by simp only[nodeE,hgm,hga,hgb];rw[if_neg (by omega),if_neg hne]
         have hR:=hRn i hia hok (by rw[hN];decide);refine sT (sH Hb Ht ?_);simp[hR,hN]
        .refine sR ?_;simp[hw];refine sE ?_;refine⟨i+1,⟨hlt,?_⟩,by omega,wkA⟩;have hN:nodeE a b m i=0:=by simp only[nodeE,hgm,hga,hgb];rw[if_neg (by omega),if_pos heq]
         simp only[firstE,hok,hN,↓reduceIte]
     .refine sX ?_;simp only[AU,↓reduceIte];have hin:i=a.nodes.length:=by omega
      subst hin;refine sR ?_;simp;refine sN ?_;have hRe:∀i,i<a.edges.length->firstE (edgeE a b m) i=0->edgeE a b m i≠0->validM a b m=edgeE a b m i:=fun i hi h0 hne=>by
       have:=firstE_stop h0 hne a.edges.length hi
       simp[validM,hva,hvb,hl1,hl2',hok,this]
      refine sL (st51b a b m nb box tok nt) (fun i=>i<=m.edges.length/\firstE (edgeE a b m) i=0) (fun i=>m.edges.length-i) 0 ⟨Nat.zero_le _,rfl⟩ wkA ?_;rintro i S ⟨hi,hoke⟩ hS;simp only[st51b] at hS;subst hS;have hw:=sW (i:=i) (by omega);refine sR ?_;simp;refine sC ?_;simp;refine⟨fun hlt=>?_,fun hge=>?_⟩
      .have hia:i<a.edges.length:=by omega
       have hgm:m.edges.getD i 0=m.edges[i]:=by simp[hlt]
       have hga:a.edges.getD i default=a.edges[i]:=by simp[hia]
       obtain⟨x1,x2,x3,x4⟩:=hxa _ (List.getElem_mem hia);rw[<-hl1] at x2 x4;have y1:a.edges[i].fr.toNat<m.nodes.length:=by omega
       have y2:a.edges[i].to.toNat<m.nodes.length:=by omega
       have hg1:m.nodes.getD a.edges[i].fr.toNat 0=m.nodes[a.edges[i].fr.toNat]:=by simp[y1]
       have hg2:m.nodes.getD a.edges[i].to.toNat 0=m.nodes[a.edges[i].to.toNat]:=by simp[y2]
       refine sR ?_;simp[hlt];by_cases hneg:m.edges[i]<0
       .refine sR ?_;simp[hneg];refine sC ?_;simp;refine sR ?_;simp;have hN:edgeE a b m i=6:=by simp only[edgeE,hgm];rw[if_pos (.inl hneg)]
        have hR:=hRe i hia hoke (by rw[hN];decide);refine sT (sH Hb Ht ?_);simp[hR,hN]
       .refine sR ?_;simp[hneg];refine sC ?_;simp;refine⟨fun hbig=>?_,fun hsm=>?_⟩
        .refine sR ?_;simp;have hN:edgeE a b m i=6:=by simp only[edgeE,hgm];rw[if_pos (.inr (by omega))]
         have hR:=hRe i hia hoke (by rw[hN];decide);refine sT (sH Hb Ht ?_);simp[hR,hN]
        .have hkb:m.edges[i].toNat<b.edges.length:=by omega
         have h0:0<=m.edges[i]:=by omega
         have hgb:b.edges.getD m.edges[i].toNat default=b.edges[m.edges[i].toNat]:=by simp[hkb]
         have hnn:¬(m.edges[i]<0∨(b.edges.length:Int)<=m.edges[i]):=by omega
         refine sN ?_;refine AL.region2 follows_Tryz (nr _) (by kernel_rfl) (Side.of (by simp)) ?_;simp[hkb,h0,hsm,hia];generalize hy:b.edges[m.edges[i].toNat]=y at *;refine sR ?_;simp;refine sC ?_;simp;refine⟨fun hty=>?_,fun hty=>?_⟩
         .refine sR ?_;simp;have hN:edgeE a b m i=13:=by simp only[edgeE,hgm,hga,hgb];rw[if_neg hnn,if_pos hty]
          have hR:=hRe i hia hoke (by rw[hN];decide);refine sT (sH Hb Ht ?_);simp[hR,hN]
         .refine sR ?_;simp[x1,x2,x3,x4,y1,y2];by_cases hfr:m.nodes[a.edges[i].fr.toNat]=y.fr
          .have hb1:(m.nodes[a.edges[i].fr.toNat] != y.fr)=false:=by simp[hfr]
           simp only[hb1];simp[x1,x2,x3,x4,y1,y2];refine sC ?_;simp;refine⟨fun hto=>?_,fun hto=>?_⟩
           .refine sR ?_;simp;have hN:edgeE a b m i=11:=by simp only[edgeE,hgm,hga,hgb,hg1,hg2];rw[if_neg hnn,if_neg (by simp[hty]),if_pos (.inr hto)]
            have hR:=hRe i hia hoke (by rw[hN];decide);refine sT (sH Hb Ht ?_);simp[hR,hN]
           .refine sR ?_;simp[hw];refine sE ?_;refine⟨i+1,⟨hlt,?_⟩,by omega,wkA⟩;have hN:edgeE a b m i=0:=by simp only[edgeE,hgm,hga,hgb,hg1,hg2];rw[if_neg hnn,if_neg (by simp[hty]),if_neg (by simp[hfr,hto])]
            simp only[firstE,hoke,hN,↓reduceIte]
          .have hb1:(m.nodes[a.edges[i].fr.toNat] != y.fr)=true:=by simp[hfr]
           simp only[hb1];simp;refine sC ?_;simp;refine sR ?_;simp;have hN:edgeE a b m i=11:=by simp only[edgeE,hgm,hga,hgb,hg1,hg2];rw[if_neg hnn,if_neg (by simp[hty]),if_pos (.inl hfr)]
           have hR:=hRe i hia hoke (by rw[hN];decide);refine sT (sH Hb Ht ?_);simp[hR,hN]
      .refine sX ?_;simp only[AU,↓reduceIte];have hin:i=a.edges.length:=by omega
       subst hin;refine sR ?_;simp;have hR:validM a b m=0:=by simp[validM,hva,hvb,hl1,hl2',hok,hoke]
       refine sT (sH Hb Ht ?_);simp[hR]
   .have hb1:((m.nodes.length:Int) != (a.nodes.length:Int))=true:=by simp;omega
    simp only[hb1];simp;refine sC ?_;simp;refine sR ?_;simp;have hR:validM a b m=20:=by simp[validM,hva,hvb,hl1]
    refine sT (sH Hb Ht ?_);simp[hR]
  .refine sR ?_;simp;refine sC ?_;simp[hvb];refine sR ?_;simp;refine sT (sH Hb Ht ?_);simp[validM,hva,hvb]
 .refine sR ?_;simp;refine sC ?_;simp[hva];refine sR ?_;simp;refine sT (sH Hb Ht ?_);simp[validM,hva]
def okN(a b:Gr)(i k:Nat):Bool:=decide (a.nodes.getD k 0=b.nodes.getD i 0)
def okE(a b:Gr)(x:List Int)(i k:Nat):Bool:=decide (a.edges.getD k default=⟨(b.edges.getD i default).ty,x.getD (b.edges.getD i default).fr.toNat 0,x.getD (b.edges.getD i default).to.toNat 0⟩)
structure Dr where
 nodes:List Int
 edges:List (Int × Int × Int)
abbrev u8(n:Int):D:=.raw (.int .u8 n)
def distK(l:List Int)(i:Nat):Bool:=(List.range i).all fun j=>(List.range j).all fun k=>decide (l.getD j 0≠l.getD k 0)
def injM(a b:Gr)(m:Mo):Bool:=decide (validM a b m=0)&&(distK m.nodes m.nodes.length&&distK m.edges m.edges.length)
def mN(x:Dr)(i:Nat):List Int:=(x.nodes.take i).map fun n=>n % 3
@[simp] theorem mN_len(x:Dr)(i:Nat):(mN x i).length=min i x.nodes.length:=by simp[mN]
def mE(x:Dr)(n:Int)(i:Nat):List E:=(x.edges.take i).map fun e=>⟨e.1 % 2,e.2.1 % n,e.2.2 % n⟩
@[simp] theorem mE_len(x:Dr)(n:Int)(i:Nat):(mE x n i).length=min i x.edges.length:=by simp[mE]
theorem validG_types{g:Gr}(h:vG g=0):(g.nodes.length<=40/\g.edges.length<=80)/\(∀n∈g.nodes,withinB n 99=true)/\∀e∈g.edges,fitsB e g.nodes.length=true:=by
 unfold vG at h;split at h
 .cases h
 .rename_i h0;split at h
  .cases h
  .rename_i h1;split at h
   .cases h
   .rename_i h2;simp only[anyB,List.any_eq_true,not_exists,not_and,Bool.not_eq_true',Bool.not_eq_false] at h1 h2;exact⟨by omega,h1,h2⟩
end Go.AM
namespace Go.Proofs
open Go.Shelf
open Go.Proofs.Tryz
def Tryz.lays189_ren:Go.Shelf.Ren:=⟨fun|189=>156|125=>232|257=>231|128=>275|129=>276|294=>266|295=>267|296=>268|297=>269|298=>270|299=>271|216=>272|300=>273|301=>274|328=>294|329=>295|330=>296|331=>297|332=>298|215=>299|343=>312|n=>n,fun|28=>26|3=>3|46=>310|0=>0|51=>283|53=>352|4=>4|183=>344|182=>343|131=>348|5=>5|9=>9|218=>367|222=>371|228=>383|229=>244|n=>n,fun|n=>n⟩
theorem Tryz.lays189:Go.Proofs.Lays.n189 prog Tryz.lays189_ren:={
 mixed:=by kernel_rfl
 f125:=func232.trans (congrArg some (by kernel_rfl))
 f128:=func275.trans (congrArg some (by kernel_rfl))
 f129:=func276.trans (congrArg some (by kernel_rfl))
 f189:=func156.trans (congrArg some (by kernel_rfl))
 f215:=func299.trans (congrArg some (by kernel_rfl))
 f216:=func272.trans (congrArg some (by kernel_rfl))
 f257:=func231.trans (congrArg some (by kernel_rfl))
 f294:=func266.trans (congrArg some (by kernel_rfl))
 f295:=func267.trans (congrArg some (by kernel_rfl))
 f296:=func268.trans (congrArg some (by kernel_rfl))
 f297:=func269.trans (congrArg some (by kernel_rfl))
 f298:=func270.trans (congrArg some (by kernel_rfl))
 f299:=func271.trans (congrArg some (by kernel_rfl))
 f300:=func273.trans (congrArg some (by kernel_rfl))
 f301:=func274.trans (congrArg some (by kernel_rfl))
 f328:=func294.trans (congrArg some (by kernel_rfl))
 f329:=func295.trans (congrArg some (by kernel_rfl))
 f330:=func296.trans (congrArg some (by kernel_rfl))
 f331:=func297.trans (congrArg some (by kernel_rfl))
 f332:=func298.trans (congrArg some (by kernel_rfl))
 f343:=func312.trans (congrArg some (by kernel_rfl))
 t0:=underlying0
 a0:=isAgg0
 z0:=sizeOf0
 v0:=zeroValue0
 t3:=underlying3
 a3:=isAgg3
 z3:=sizeOf3
 v3:=zeroValue3
 t4:=underlying4
 a4:=isAgg4
 z4:=sizeOf4
 v4:=zeroValue4
 t5:=underlying5
 a5:=isAgg5
 z5:=sizeOf5
 v5:=zeroValue5
 t9:=underlying9
 a9:=isAgg9
 z9:=sizeOf9
 v9:=zeroValue9
 t28:=underlying26
 a28:=isAgg26
 z28:=sizeOf26
 v28:=zeroValue26
 t46:=underlying310
 a46:=isAgg310
 z46:=sizeOf310
 v46:=zeroValue310
 t51:=underlying283
 a51:=isAgg283
 z51:=sizeOf283
 v51:=zeroValue283
 t53:=underlying352
 a53:=isAgg352
 z53:=sizeOf352
 v53:=zeroValue352
 t131:=underlying348
 a131:=isAgg348
 z131:=sizeOf348
 v131:=zeroValue348
 t182:=underlying343
 a182:=isAgg343
 z182:=sizeOf343
 v182:=zeroValue343
 t183:=underlying344
 a183:=isAgg344
 z183:=sizeOf344
 v183:=zeroValue344
 t218:=underlying367
 a218:=isAgg367
 z218:=sizeOf367
 v218:=zeroValue367
 t222:=underlying371
 a222:=isAgg371
 z222:=sizeOf371
 v222:=zeroValue371
 t228:=underlying383
 a228:=isAgg383
 z228:=sizeOf383
 v228:=zeroValue383
 t229:=underlying244
 a229:=isAgg244
 z229:=sizeOf244
 v229:=zeroValue244 }
open Go.Sort Go.RowKit in
theorem Tryz.slices_Sort_int(blk off cap:Nat)(zs:List Int)(w:World)(hH:Holds (Value.int .i64) w blk off zs.toArray)(hblk:blk<w.heap.size)(hsz:zs.length<4611686018427387904):
  Calls prog 156 #[.slice (some ⟨blk,off,none⟩) zs.length cap] w fun e w' =>
   e=.returned (.tuple #[])/\∃n os,w'=grow (putRow (Value.int .i64) (Sort.ahead w n) blk off (zs.mergeSort fun x y=>decide (x<=y)).toArray) os:=Any.slices_Sort_int Tryz.lays189 blk off cap zs w hH hblk hsz
def Tryz.laysNm215_ren:Go.Shelf.Ren:=⟨fun|15=>126|n=>n,fun|22=>26|3=>3|4=>4|n=>n,fun|n=>n⟩
theorem Tryz.laysNm215:Go.Proofs.Lays2.n15 prog Tryz.laysNm215_ren:={
 mixed:=by kernel_rfl
 f15:=func126.trans (congrArg some (by kernel_rfl))
 t3:=underlying3
 a3:=isAgg3
 z3:=sizeOf3
 v3:=zeroValue3
 t4:=underlying4
 a4:=isAgg4
 z4:=sizeOf4
 v4:=zeroValue4
 t22:=underlying26
 a22:=isAgg26
 z22:=sizeOf26
 v22:=zeroValue26
 i3:=by kernel_rfl }
open Go.RowKit Go.Lib in
theorem Tryz.slices_Clone_int(b off n c:Nat)(zs:List Int)(w:World)(hz:n<=zs.length)(hbig:n*8<=140737488355328)(hc:∀j,j<zs.length->w.cell? ⟨b,off+j,none⟩=some (.int .i64 (zs.getD j 0))):
  Calls prog 126 #[.slice (some ⟨b,off,none⟩) n c] w fun e w'=>∃v',e=.returned v'/\w'.ownsRow w.heap.size 3 1 v' n ((zs.take n).map (Value.int .i64))/\v'≠.slice none 0 0/\Below w.heap.size w w':=Any.slices_Clone_int Tryz.laysNm215 b off n c zs w hz hbig hc
open Go.RowKit Go.Lib in
theorem Tryz.slices_Clone_int_nil(n c:Nat)(w:World):
  Calls prog 126 #[.slice none n c] w fun e w'=>e=.returned (.slice none 0 0)/\w'=w:=Any.slices_Clone_int_nil Tryz.laysNm215 n c w
open Go.RowKit Go.Lib in
theorem Tryz.slices_Clone_int_zero(a:Addr)(c:Nat)(w:World):
  Calls prog 126 #[.slice (some a) 0 c] w fun e w'=>∃v',e=.returned v'/\w'.ownsRow w.heap.size 3 1 v' 0 []/\v'≠.slice none 0 0/\Below w.heap.size w w':=Any.slices_Clone_int_zero Tryz.laysNm215 a c w
def Tryz.laysNm220_ren:Go.Shelf.Ren:=⟨fun|20=>258|n=>n,fun|22=>26|3=>3|4=>4|0=>0|n=>n,fun|n=>n⟩
theorem Tryz.laysNm220:Go.Proofs.Lays2.n20 prog Tryz.laysNm220_ren:={
 mixed:=by kernel_rfl
 f20:=func258.trans (congrArg some (by kernel_rfl))
 t0:=underlying0
 a0:=isAgg0
 z0:=sizeOf0
 v0:=zeroValue0
 t3:=underlying3
 a3:=isAgg3
 z3:=sizeOf3
 v3:=zeroValue3
 t4:=underlying4
 a4:=isAgg4
 z4:=sizeOf4
 v4:=zeroValue4
 t22:=underlying26
 a22:=isAgg26
 z22:=sizeOf26
 v22:=zeroValue26
 i3:=by kernel_rfl }
open Go.RowKit Go.Lib Go.Sort in
theorem Tryz.slices_Compact_int(blk off cap:Nat)(zs:List Int)(w:World)(hH:Holds (Value.int .i64) w blk off zs.toArray)(hsz:zs.length<=9223372036854775807)(hcap:zs.length<=cap):
  Calls prog 258 #[.slice (some ⟨blk,off,none⟩) zs.length cap] w fun e w'=>e=.returned (.slice (some ⟨blk,off,none⟩) (Lib.compact zs).length cap)/\∃q,w'=putRow (Value.int .i64) (Sort.ahead w q) blk off (Lib.compact zs++List.replicate (zs.length-(Lib.compact zs).length) 0).toArray:=Any.slices_Compact_int Tryz.laysNm220 blk off cap zs w hH hsz hcap
open Go.RowKit Go.Lib Go.Sort in
theorem Tryz.slices_Compact_int_empty(a:Option Addr)(cap:Nat)(w:World):
  Calls prog 258 #[.slice a 0 cap] w fun e w'=>e=.returned (.slice a 0 cap)/\w'=w:=Any.slices_Compact_int_empty Tryz.laysNm220 a cap w
open Go.RowKit Go.Sort in
theorem Tryz.slices_Sort_int_none(p:Option Addr)(cap:Nat)(w:World):
  Calls prog 156 #[.slice p 0 cap] w fun e w'=>e=.returned (.tuple #[])/\w'=w:=Any.slices_Sort_int_none Tryz.lays189 p cap w
end Go.Proofs
namespace Go.Proofs.YtainalmfffjnjaaGreatDoorX.images
open Go Go.Proofs Go.RowKit Go.Shelf Go.Sort
open Go.Proofs.Tryz
theorem below_grow{B:Nat}{w0 w:World}{os:Array Obj}(h:Below B w0 w)(hB:B<=w.heap.size):Below B w0 (grow w os) :=
 ⟨h.os,h.tape,h.output,by simp[grow];have:=h.size;omega,fun k hk=>by
  rw[<-h.block k hk];exact heap_grow_old _ _ (by omega)⟩
set_option maxHeartbeats 2000000 in
set_option maxRecDepth 100000 in
theorem any(b off n c:Nat)(zs:List Int)(w:World)(hz:zs.length=n)(hbig:n*8<=140737488355328)(hc:∀j,j<zs.length->w.cell? ⟨b,off+j,none⟩=some (.int .i64 (zs.getD j 0))):
    Calls prog 205 #[.slice (some ⟨b,off,none⟩) n c] w fun e w'=>e=.returned (.int .i64 (Lib.compact (zs.mergeSort fun x y=>decide (x<=y))).length)/\Below w.heap.size w w':=by
  have hclone:=Tryz.slices_Clone_int b off n c zs w (by omega) hbig hc;rw[List.take_of_length_le (by omega)] at hclone;clear hc
  go_enter func205,ntmps205
  go_wp2_with (first
    | (go_at_call 126;refine hclone.mono ?_;rintro e w1 ⟨v1,rfl,hown,hnn,hbel⟩
       obtain⟨g,cap,rfl,hbg,hgl,hncap,hcm,hlen,hH⟩:=Lib.holds_of_ownsRow hown hnn;have hsort:=Tryz.slices_Sort_int g 0 cap zs w1 hH hgl (by omega);rw[hlen] at hsort;have X:Aside (Below w.heap.size w w1/\w.heap.size<=g/\g<w1.heap.size/\n<=cap/\cap<=maxLen/\Holds (Value.int .i64) w1 g 0 zs.toArray):=⟨hbel,hbg,hgl,hncap,hcm,hH⟩
       clear hown hbel hH hnn)
    | (go_at_call 156;refine hsort.mono ?_;rintro e w2 ⟨rfl,nn,os,rfl⟩
       have hl2:(zs.mergeSort fun x y=>decide (x<=y)).length=n:=by rw[List.length_mergeSort];exact hz
       have hH2:Holds (Value.int .i64) (grow (putRow (Value.int .i64) (Sort.ahead w1 nn) g 0 (zs.mergeSort fun x y=>decide (x<=y)).toArray) os) g 0 (zs.mergeSort fun x y=>decide (x<=y)).toArray :=
         holds_grow _ _ os g 0 _ (by simpa[putRow,mapBlock,Sort.ahead] using X.out.2.2.1) (holds_putRow _ _ g 0 _ _ (holds_ahead _ w1 nn g 0 _ X.out.2.2.2.2.2) (by simp))
       have hcomp:=Tryz.slices_Compact_int g 0 cap (zs.mergeSort fun x y=>decide (x<=y)) _ hH2 (by omega) (by have:=X.out.2.2.2.1;omega);rw[hl2] at hcomp;clear hH2 hsort)
    | (go_at_call 258;refine hcomp.mono ?_;rintro e w3 ⟨rfl,q,rfl⟩))
  go_ret
  exact⟨rfl,Lib.below_putRow (below_grow (Lib.below_putRow X.out.1 X.out.2.1) (by have:=X.out.1.size;simp[putRow,mapBlock,Sort.ahead];omega)) X.out.2.1⟩
set_option maxHeartbeats 2000000 in
set_option maxRecDepth 100000 in
theorem zero(a:Addr)(c:Nat)(w:World):Calls prog 205 #[.slice (some a) 0 c] w fun e w'=>e=.returned (.int .i64 0)/\Below w.heap.size w w':=by
  have hclone:=Tryz.slices_Clone_int_zero a c w
  go_enter func205,ntmps205
  go_wp2_with (first
    | (go_at_call 126;refine hclone.mono ?_;rintro e w1 ⟨v1,rfl,hown,hnn,hbel⟩
       obtain⟨g,cap,rfl,_,_,_,_,_,_⟩:=Lib.holds_of_ownsRow (enc:=Value.int .i64) (zs:=[]) hown hnn;have X:Aside (Below w.heap.size w w1):=hbel
       clear hown hbel hnn)
    | (go_at_call 156;refine(Tryz.slices_Sort_int_none _ _ _).mono ?_;rintro e w2 ⟨rfl,rfl⟩)
    | (go_at_call 258;refine(Tryz.slices_Compact_int_empty _ _ _).mono ?_;rintro e w3 ⟨rfl,rfl⟩))
  go_ret
  exact⟨rfl,X.out⟩
set_option maxHeartbeats 2000000 in
set_option maxRecDepth 100000 in
theorem none(n c:Nat)(w:World):Calls prog 205 #[.slice none n c] w fun e w'=>e=.returned (.int .i64 0)/\Below w.heap.size w w':=by
 go_enter func205,ntmps205
 go_wp2_with (first
  | (go_at_call 126;refine(Tryz.slices_Clone_int_nil n c _).mono ?_;rintro e w1 ⟨rfl,rfl⟩)
  | (go_at_call 156;refine(Tryz.slices_Sort_int_none _ _ _).mono ?_;rintro e w2 ⟨rfl,rfl⟩)
  | (go_at_call 258;refine(Tryz.slices_Compact_int_empty _ _ _).mono ?_;rintro e w3 ⟨rfl,rfl⟩))
 go_ret
 exact⟨rfl,Below.refl _ _⟩
end Go.Proofs.YtainalmfffjnjaaGreatDoorX.images
namespace Go.AM
open Go Go.Proofs Go.RowKit
open Go.Proofs.Tryz
theorem le_below{G:Gh}{w w':World}{m:AMem}(hm:RelM G m w)(h:Below w.heap.size w w'):Le G w G w' where
 os:=h.os
 tape:=h.tape
 output:=h.output
 size:=h.size
 whole b hb hk:=⟨hk,h.block b hb⟩
 part b f c hk:=⟨⟨f,nr _,hk⟩,fun a ha _=>by
  have hb:a.block<w.heap.size:=by
   rcases Nat.lt_or_ge a.block w.heap.size with hb|hb
   .exact hb
   .have:=hm.fresh a.block hb
    rw[ha,hk] at this;cases this
  exact World.cell?_of_block (w:=w) (h.block _ hb)⟩
 bx _ _ h:=h
 ty b c0 T f0 hb:=⟨c0,f0,(h.block b (Array.getElem?_eq_some_iff.1 hb).1).trans hb⟩
 nt:=nr _
 tk t _:=.inr ⟨rfl,fun g hg=>⟨rfl,fun _=>h.block g (hm.tlt t g hg)⟩⟩
theorem lt_of_obj{w:World}{b:Nat}{o:Obj}(h:w.heap[b]?=some o):b<w.heap.size:=by
 rcases Nat.lt_or_ge b w.heap.size with hb|hb
 .exact hb
 .rw[Array.getElem?_eq_none hb] at h;cases h
theorem relM_below{G:Gh}{w w':World}{m:AMem}(hm:RelM G m w)(h:Below w.heap.size w w'):RelM G m w':=by
 have hle:=le_below hm h;constructor
 case box =>
  intro k rows b sz h1 h2;obtain⟨g1,cs,e,g2,g3,g4,g5⟩:=hm.box k rows b sz h1 h2;exact⟨g1,cs,e,by rw[h.block b (lt_of_obj g2)];exact g2,g3,g4.mono hle,g5⟩
 case nobox=>exact hm.nobox
 case inj=>exact hm.inj
 case nb=>exact hm.nb
 case nt=>exact hm.nt
 case toks=>exact hm.toks
 case tokb =>
  intro t g hg;obtain⟨f,cur,e,g1,g2⟩:=hm.tokb t g hg;exact⟨f,cur,e,g1,by rw[h.block g (lt_of_obj g2)];exact g2⟩
 case tinj=>exact hm.tinj
 case tnt=>exact hm.tnt
 case glob=>exact hm.glob.mono hle.cells fun g hg hk=>hle.whole g hg hk
 case fresh=>intro b hb;exact hm.fresh b (Nat.le_trans h.size hb)
theorem DCall.of_below{P:Program}{f:FuncId}{args:List AV}{tok:Nat->Bool}{nt:Nat}{v:Value}(hE:Enters P f)(h1:v.oneCell'=true)(h:∀G w vals,RVs G w args vals->Calls P f vals.toArray w fun e w'=>e=.returned v/\Below w.heap.size w w'):DCall P f args tok nt (.d (.raw v)) tok nt:=by
 intro box nb;refine⟨hE,fun G w vals hm hr=>(h G w vals hr).mono ?_⟩;rintro e w' ⟨rfl,hb⟩;exact⟨v,_,_,G,rfl,⟨rfl,rfl⟩,rfl,relM_below hm hb,.d (.raw h1),le_below hm hb,fun k hk=>⟨hk,rfl⟩⟩
theorem rvd_ints{c:Addr->Option Value}{ps:Addr->Prop}{l:List Int}{v:Value}(h:RVd c ps (ints l) v):
  ∃A cap,v=.slice A l.length cap/\l.length<=cap/\cap<=maxLen/\(l≠[]->∃a,A=some a)/\∀a,A=some a->∀i,i<l.length->c (a.add i)=some (.int .i64 (l.getD i 0)):=by
 unfold ints at h;generalize hes:(l.map fun n=>[D.raw (.int .i64 n)])=es at h;cases h with
 | @sl _ _ A cap u hcap hmax hsz hA hc hr =>
  have hl:es.length=l.length:=by rw[<-hes];simp
  refine⟨A,cap,by rw[hl],by omega,hmax,fun hne=>hA (by intro e;rw[e] at hl;exact hne (List.length_eq_zero_iff.1 hl.symm)),fun a ha i hi=>?_⟩;have g:=(hc a ha i 0 (by omega) (by decide)).2;have r:=hr i 0 (by omega) (by rw[hsz _ (List.getElem_mem _)];decide);have e1:es[i][0]'(by rw[hsz _ (List.getElem_mem _)];decide)=D.raw (.int .i64 l[i]):=by
   subst hes;simp
  rw[e1] at r;have e2:u i 0=.int .i64 l[i]:=by
   generalize hu:u i 0=x at r;cases r;rfl
  rw[Nat.mul_one,Nat.add_zero,e2] at g;rw[g];simp[hi]
def imagesN(l:List Int):Nat:=(Lib.compact (l.mergeSort fun x y=>decide (x<=y))).length
theorem imagesN_nil:imagesN []=0:=by
 simp[imagesN,List.mergeSort,Lib.compact];rfl
theorem images88_c(l:List Int)(hl:l.length<=1000000)(tok:Tks)(nt:Nat):DCall prog 205 [.d (ints l)] tok nt (I (imagesN l)) tok nt:=by
 refine DCall.of_below (Enters.mk func205 rfl (by kernel_rfl)) rfl fun G w vals hr=>?_
 obtain⟨hlen,hrv⟩:=hr
 match vals,hlen with
 | [v],_ =>
  have h0:=hrv 0 (by simp) (by simp);simp only[List.getElem_cons_zero] at h0;cases h0 with
  | d h0 =>
   obtain⟨A,cap,rfl,hcap,hmax,hA,hc⟩:=rvd_ints h0;cases A with
   | none =>
    have:l=[]:=by
     by_cases e:l=[]
     .exact e
     .obtain⟨a,ha⟩:=hA e;cases ha
    subst this;exact(YtainalmfffjnjaaGreatDoorX.images.none _ cap w).mono fun e w' h=>by rw[imagesN_nil];exact h
   | some a =>
    by_cases e:l=[]
    .subst e;exact(YtainalmfffjnjaaGreatDoorX.images.zero a cap w).mono fun e w' h=>by rw[imagesN_nil];exact h
    .have hp:0<l.length:=List.length_pos_iff.2 e
     have hc':=hc a rfl
     have hs:a.spot=none:=by
      cases hsp:a.spot with
      | none=>rfl
      | some q =>
       exfalso
       have:=hc' 0 hp
       simp only[World.cell?,Addr.add,hsp,Option.isSome_some,↓reduceIte] at this;split at this<;>simp at this
     obtain⟨b,off,sp⟩:=a;simp only at hs;subst hs;refine(YtainalmfffjnjaaGreatDoorX.images.any b off l.length cap l w rfl (by omega) fun j hj=>?_).mono fun e w' h=>h
     have h1:=hc' j hj;unfold Addr.add at h1;split at h1
     .rename_i e;subst e;exact h1
     .exact h1
end Go.AM
