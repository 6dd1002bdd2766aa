import Derived.Test.YtchfmhhbiealcaaGreatDoorPIB5
import Derived.Test.YtchfmhhbiealcaaGreatDoorRows
set_option linter.unusedSimpArgs false
set_option linter.unusedVariables false
namespace Go.AM
theorem gc.{u}:type_of% @List.findIdx_eq.{u}:=@List.findIdx_eq
theorem cc.{u}:type_of% @List.mem_take_iff_getElem.{u}:=@List.mem_take_iff_getElem
theorem a7.{u}:type_of% @List.mem_singleton.{u}:=@List.mem_singleton
theorem dy.{u}:type_of% @List.any_eq_true.{u}:=@List.any_eq_true
theorem d7.{u}:type_of% @List.any_eq_false.{u}:=@List.any_eq_false
theorem cn:type_of% @List.range_succ:=@List.range_succ
open Go Go.Proofs
open Go.Proofs.Tryz
theorem bS:prog.follows .mixedOrders=true:=by kernel_rfl
@[simp] theorem aRx:(aT prog 2=some 1)/\(aX prog 2=some false)/\(aY prog 2=false)/\(aJ prog 2=false)/\(aF prog 2=none)/\(aW prog 2=none)/\(lZ prog 2=some .i64)/\(aH prog 2=some [.int .i64 0])/\(aT prog 3=some 1)/\(aX prog 3=some false)/\(aY prog 3=false)/\(aJ prog 3=false):=by
 and_intros<;>kernel_rfl
@[simp] theorem aSe:(aF prog 3=none)/\(aW prog 3=none)/\(lZ prog 3=some .i64)/\(aH prog 3=some [.int .i64 0])/\(aT prog 4=some 1)/\(aX prog 4=some false)/\(aY prog 4=false)/\(aJ prog 4=true)/\(aF prog 4=none)/\(aW prog 4=none)/\(aH prog 4=some [.bool false])/\(aT prog 5=some 1):=by
 and_intros<;>kernel_rfl
@[simp] theorem aSc:(aX prog 5=some false)/\(aY prog 5=false)/\(aJ prog 5=false)/\(aF prog 5=none)/\(aW prog 5=none)/\(lZ prog 5=some .u8)/\(aH prog 5=some [.int .u8 0])/\(aT prog 9=some 1)/\(aX prog 9=some false)/\(aY prog 9=true)/\(aJ prog 9=false)/\(aF prog 9=none):=by
 and_intros<;>kernel_rfl
@[simp] theorem aRT:(aW prog 9=none)/\(aH prog 9=some [.string ⟨#[]⟩])/\(aT prog 21=some 1)/\(aX prog 21=some false)/\(aY prog 21=false)/\(aJ prog 21=false)/\(aF prog 21=none)/\(aW prog 21=none)/\(lZ prog 21=some .i32)/\(aH prog 21=some [.int .i32 0])/\(aT prog 22=some 1)/\(aX prog 22=some false):=by
 and_intros<;>kernel_rfl
@[simp] theorem aRc:(aY prog 22=false)/\(aJ prog 22=false)/\(aF prog 22=some 160)/\(aW prog 22=some (160,4,56))/\(cB prog 22=some (4,56,[.string ⟨#[]⟩,.int .i64 0,.bool false,.slice none 0 0]))/\(aH prog 22=some [.slice none 0 0])/\(aT prog 23=some 1)/\(aX prog 23=some false)/\(aY prog 23=false)/\(aJ prog 23=false)/\(aF prog 23=some 162)/\(aW prog 23=some (162,7,64)):=by
 and_intros<;>kernel_rfl
@[simp] theorem aRk:(cB prog 23=some (7,64,[.string ⟨#[]⟩,.int .i64 0,.int .i64 0,.int .i64 0,.int .i64 0,.int .i64 0,.int .i64 0]))/\(aH prog 23=some [.slice none 0 0])/\(aT prog 25=some 2)/\(aX prog 25=some true)/\(aY prog 25=false)/\(aJ prog 25=false)/\(aF prog 25=none)/\(aW prog 25=none)/\(aO prog 25=some [(0,1),(1,1)])/\(aB prog 25 0=some (22,0))/\(aB prog 25 1=some (23,1))/\(aH prog 25=some [.slice none 0 0,.slice none 0 0]):=by
 and_intros<;>kernel_rfl
@[simp] theorem aR5:(aT prog 26=some 1)/\(aX prog 26=some false)/\(aY prog 26=false)/\(aJ prog 26=false)/\(aF prog 26=some 52)/\(aW prog 26=some (52,25,512))/\(cB prog 26=some (25,512,[.string ⟨#[]⟩,.slice none 0 0,.slice none 0 0,.slice none 0 0,.int .i64 0,.slice none 0 0,.slice none 0 0,.slice none 0 0,.slice none 0 0,.int .i64 0,.slice none 0 0,.slice none 0 0,.slice none 0 0,.slice none 0 0,.slice none 0 0,.bool false,.int .i64 0,.slice none 0 0,.slice none 0 0,.slice none 0 0,.slice none 0 0,.slice none 0 0,.slice none 0 0,.int .i64 0,.slice none 0 0]))/\(aH prog 26=some [.slice none 0 0])/\(aT prog 27=some 1)/\(aX prog 27=some false)/\(aY prog 27=false)/\(aJ prog 27=false):=by
 and_intros<;>kernel_rfl
@[simp] theorem aSg:(aF prog 27=some 56)/\(aW prog 27=some (56,5,96))/\(cB prog 27=some (5,96,[.string ⟨#[]⟩,.int .i64 0,.slice none 0 0,.slice none 0 0,.slice none 0 0]))/\(aH prog 27=some [.slice none 0 0])/\(aT prog 29=some 4):=by
 and_intros<;>kernel_rfl
@[simp] theorem aKZ:aX prog 29=some true:=by kernel_rfl
@[simp] theorem aQ0:(aY prog 29=false)/\(aJ prog 29=false)/\(aF prog 29=none)/\(aW prog 29=none)/\(aO prog 29=some [(0,2),(2,1),(3,1)])/\(aB prog 29 0=some (25,0))/\(aB prog 29 1=some (26,2))/\(aB prog 29 2=some (27,3))/\(aH prog 29=some [.slice none 0 0,.slice none 0 0,.slice none 0 0,.slice none 0 0])/\(aT prog 32=some 1)/\(aX prog 32=some false)/\(aY prog 32=false):=by
 and_intros<;>kernel_rfl
@[simp] theorem aSt:(aJ prog 32=false)/\(aF prog 32=some 89)/\(aW prog 32=some (89,5,72))/\(cB prog 32=some (5,72,[.int .i64 0,.int .i64 0,.int .i64 0,.slice none 0 0,.slice none 0 0]))/\(aH prog 32=some [.slice none 0 0])/\(aT prog 33=some 1)/\(aX prog 33=some false)/\(aY prog 33=false)/\(aJ prog 33=false)/\(aF prog 33=none)/\(aW prog 33=none)/\(lZ prog 33=some .i64):=by
 and_intros<;>kernel_rfl
@[simp] theorem aSd:(aH prog 33=some [.int .i64 0])/\(aT prog 37=some 1)/\(aX prog 37=some false)/\(aY prog 37=false)/\(aJ prog 37=false)/\(aF prog 37=some 3)/\(aW prog 37=some (3,1,8))/\(cB prog 37=some (1,8,[.int .i64 0]))/\(aH prog 37=some [.slice none 0 0])/\(aT prog 38=some 1)/\(aX prog 38=some false)/\(aY prog 38=false):=by
 and_intros<;>kernel_rfl
@[simp] theorem aR4:(aJ prog 38=false)/\(aF prog 38=some 164)/\(aW prog 38=some (164,3,24))/\(cB prog 38=some (3,24,[.int .i64 0,.int .i64 0,.int .i64 0]))/\(aH prog 38=some [.slice none 0 0])/\(aT prog 40=some 2)/\(aX prog 40=some true)/\(aY prog 40=false)/\(aJ prog 40=false)/\(aF prog 40=none)/\(aW prog 40=none)/\(aO prog 40=some [(0,1),(1,1)]):=by
 and_intros<;>kernel_rfl
@[simp] theorem aRO:(aB prog 40 0=some (37,0))/\(aB prog 40 1=some (38,1))/\(aH prog 40=some [.slice none 0 0,.slice none 0 0])/\(aT prog 41=some 1)/\(aX prog 41=some false)/\(aY prog 41=false)/\(aJ prog 41=false)/\(aF prog 41=some 381)/\(aW prog 41=some (381,4,32))/\(cB prog 41=some (4,32,[.int .i64 0,.int .i64 0,.int .i64 0,.int .i64 0]))/\(aH prog 41=some [.slice none 0 0])/\(aT prog 42=some 1):=by
 and_intros<;>kernel_rfl
@[simp] theorem aRy:(aX prog 42=some false)/\(aY prog 42=false)/\(aJ prog 42=false)/\(aF prog 42=some 383)/\(aW prog 42=some (383,5,40))/\(cB prog 42=some (5,40,[.int .i64 0,.int .i64 0,.int .i64 0,.int .i64 0,.int .i64 0]))/\(aH prog 42=some [.slice none 0 0])/\(aT prog 44=some 5)/\(aX prog 44=some true)/\(aY prog 44=false)/\(aJ prog 44=false)/\(aF prog 44=none):=by
 and_intros<;>kernel_rfl
@[simp] theorem aRh:(aW prog 44=none)/\(aO prog 44=some [(0,2),(2,1),(3,1),(4,1)])/\(aB prog 44 0=some (40,0))/\(aB prog 44 1=some (41,2))/\(aB prog 44 2=some (3,3))/\(aB prog 44 3=some (42,4))/\(aH prog 44=some [.slice none 0 0,.slice none 0 0,.slice none 0 0,.int .i64 0,.slice none 0 0])/\(aT prog 46=some 2)/\(aX prog 46=some true)/\(aY prog 46=false)/\(aJ prog 46=false)/\(aF prog 46=none):=by
 and_intros<;>kernel_rfl
@[simp] theorem aRN:(aW prog 46=none)/\(aO prog 46=some [(0,1),(1,1)])/\(aB prog 46 0=some (37,0))/\(aB prog 46 1=some (37,1))/\(aH prog 46=some [.slice none 0 0,.slice none 0 0])/\(aT prog 47=some 2)/\(aX prog 47=some true)/\(aY prog 47=false)/\(aJ prog 47=false)/\(aF prog 47=none)/\(aW prog 47=none)/\(aO prog 47=some [(0,1),(1,1)]):=by
 and_intros<;>kernel_rfl
@[simp] theorem aR8:(aB prog 47 0=some (37,0))/\(aB prog 47 1=some (37,1))/\(aH prog 47=some [.slice none 0 0,.slice none 0 0])/\(aT prog 48=some 1)/\(aX prog 48=some false)/\(aY prog 48=false)/\(aJ prog 48=false)/\(aF prog 48=some 50)/\(aW prog 48=some (50,9,184))/\(cB prog 48=some (9,184,[.int .i64 0,.slice none 0 0,.slice none 0 0,.slice none 0 0,.slice none 0 0,.slice none 0 0,.slice none 0 0,.int .i64 0,.slice none 0 0]))/\(aH prog 48=some [.slice none 0 0])/\(aT prog 50=some 9):=by
 and_intros<;>kernel_rfl
@[simp] theorem aRY:(aX prog 50=some true)/\(aY prog 50=false)/\(aJ prog 50=false)/\(aF prog 50=none)/\(aW prog 50=none)/\(aO prog 50=some [(0,1),(1,1),(2,2),(4,5)])/\(aB prog 50 0=some (3,0))/\(aB prog 50 1=some (48,1))/\(aB prog 50 2=some (47,2))/\(aB prog 50 3=some (44,4))/\(aH prog 50=some [.int .i64 0,.slice none 0 0,.slice none 0 0,.slice none 0 0,.slice none 0 0,.slice none 0 0,.slice none 0 0,.int .i64 0,.slice none 0 0])/\(aT prog 52=some 25):=by
 and_intros<;>kernel_rfl
@[simp] theorem aRf:(aX prog 52=some true)/\(aY prog 52=false)/\(aJ prog 52=false)/\(aF prog 52=none)/\(aW prog 52=none)/\(aO prog 52=some [(0,1),(1,5),(6,5),(11,2),(13,2),(15,1),(16,9)])/\(aB prog 52 0=some (9,0))/\(aB prog 52 1=some (44,1))/\(aB prog 52 2=some (44,6))/\(aB prog 52 3=some (46,11))/\(aB prog 52 4=some (47,13))/\(aB prog 52 5=some (4,15)):=by
 and_intros<;>kernel_rfl
@[simp] theorem aRR:(aB prog 52 6=some (50,16))/\(aH prog 52=some [.string ⟨#[]⟩,.slice none 0 0,.slice none 0 0,.slice none 0 0,.int .i64 0,.slice none 0 0,.slice none 0 0,.slice none 0 0,.slice none 0 0,.int .i64 0,.slice none 0 0,.slice none 0 0,.slice none 0 0,.slice none 0 0,.slice none 0 0,.bool false,.int .i64 0,.slice none 0 0,.slice none 0 0,.slice none 0 0,.slice none 0 0,.slice none 0 0,.slice none 0 0,.int .i64 0,.slice none 0 0])/\(aT prog 54=some 1)/\(aX prog 54=some false)/\(aY prog 54=false)/\(aJ prog 54=false)/\(aF prog 54=some 182)/\(aW prog 54=some (182,4,96))/\(cB prog 54=some (4,96,[.slice none 0 0,.slice none 0 0,.slice none 0 0,.slice none 0 0]))/\(aH prog 54=some [.slice none 0 0])/\(aT prog 56=some 5)/\(aX prog 56=some true):=by
 and_intros<;>kernel_rfl
@[simp] theorem aSf:(aY prog 56=false)/\(aJ prog 56=false)/\(aF prog 56=none)/\(aW prog 56=none)/\(aO prog 56=some [(0,1),(1,1),(2,2),(4,1)])/\(aB prog 56 0=some (9,0))/\(aB prog 56 1=some (3,1))/\(aB prog 56 2=some (40,2))/\(aB prog 56 3=some (54,4))/\(aH prog 56=some [.string ⟨#[]⟩,.int .i64 0,.slice none 0 0,.slice none 0 0,.slice none 0 0])/\(aT prog 58=some 1)/\(aX prog 58=some false):=by
 and_intros<;>kernel_rfl
@[simp] theorem aSu:(aY prog 58=false)/\(aJ prog 58=false)/\(aF prog 58=some 98)/\(aW prog 58=some (98,8,128))/\(cB prog 58=some (8,128,[.int .i64 0,.int .i64 0,.int .i64 0,.slice none 0 0,.slice none 0 0,.int .i64 0,.slice none 0 0,.slice none 0 0]))/\(aH prog 58=some [.slice none 0 0])/\(aT prog 60=some 1)/\(aX prog 60=some true)/\(aY prog 60=false)/\(aJ prog 60=false)/\(aF prog 60=none)/\(aW prog 60=none):=by
 and_intros<;>kernel_rfl
@[simp] theorem aRK:(aO prog 60=some [(0,1)])/\(aB prog 60 0=some (58,0))/\(aH prog 60=some [.slice none 0 0])/\(aT prog 71=some 1)/\(aX prog 71=some false)/\(aY prog 71=false)/\(aJ prog 71=false)/\(aF prog 71=some 184)/\(aW prog 71=some (184,2,2))/\(cB prog 71=some (2,2,[.int .u8 0,.int .u8 0]))/\(aH prog 71=some [.slice none 0 0])/\(aT prog 72=some 1):=by
 and_intros<;>kernel_rfl
@[simp] theorem aRH:(aX prog 72=some false)/\(aY prog 72=false)/\(aJ prog 72=false)/\(aF prog 72=some 131)/\(aW prog 72=some (131,4,80))/\(cB prog 72=some (4,80,[.slice none 0 0,.slice none 0 0,.int .u64 0,.slice none 0 0]))/\(aH prog 72=some [.slice none 0 0])/\(aT prog 73=some 1)/\(aX prog 73=some false)/\(aY prog 73=false)/\(aJ prog 73=false)/\(aF prog 73=some 134):=by
 and_intros<;>kernel_rfl
@[simp] theorem aQ9:(aW prog 73=some (134,3,72))/\(cB prog 73=some (3,72,[.slice none 0 0,.slice none 0 0,.slice none 0 0]))/\(aH prog 73=some [.slice none 0 0])/\(aT prog 74=some 1)/\(aX prog 74=some false)/\(aY prog 74=false)/\(aJ prog 74=false)/\(aF prog 74=some 5)/\(aW prog 74=some (5,1,1))/\(cB prog 74=some (1,1,[.int .u8 0]))/\(aH prog 74=some [.slice none 0 0])/\(aT prog 75=some 1):=by
 and_intros<;>kernel_rfl
@[simp] theorem aRJ:(aX prog 75=some false)/\(aY prog 75=false)/\(aJ prog 75=false)/\(aF prog 75=some 189)/\(aW prog 75=some (189,3,3))/\(cB prog 75=some (3,3,[.int .u8 0,.int .u8 0,.int .u8 0]))/\(aH prog 75=some [.slice none 0 0])/\(aT prog 77=some 6)/\(aX prog 77=some true)/\(aY prog 77=false)/\(aJ prog 77=false)/\(aF prog 77=none):=by
 and_intros<;>kernel_rfl
@[simp] theorem aQ6:(aW prog 77=none)/\(aO prog 77=some [(0,1),(1,1),(2,1),(3,1),(4,1),(5,1)])/\(aB prog 77 0=some (71,0))/\(aB prog 77 1=some (71,1))/\(aB prog 77 2=some (72,2))/\(aB prog 77 3=some (73,3))/\(aB prog 77 4=some (74,4))/\(aB prog 77 5=some (75,5))/\(aH prog 77=some [.slice none 0 0,.slice none 0 0,.slice none 0 0,.slice none 0 0,.slice none 0 0,.slice none 0 0])/\(aT prog 82=some 1)/\(aX prog 82=some false)/\(aY prog 82=false):=by
 and_intros<;>kernel_rfl
@[simp] theorem aRC:(aJ prog 82=false)/\(aF prog 82=some 47)/\(aW prog 82=some (47,2,48))/\(cB prog 82=some (2,48,[.slice none 0 0,.slice none 0 0]))/\(aH prog 82=some [.slice none 0 0])/\(aT prog 89=some 5)/\(aX prog 89=some true)/\(aY prog 89=false)/\(aJ prog 89=false)/\(aF prog 89=none)/\(aW prog 89=none)/\(aO prog 89=some [(0,1),(1,1),(2,1),(3,2)]):=by
 and_intros<;>kernel_rfl
@[simp] theorem aRj:(aB prog 89 0=some (3,0))/\(aB prog 89 1=some (3,1))/\(aB prog 89 2=some (3,2))/\(aB prog 89 3=some (40,3))/\(aH prog 89=some [.int .i64 0,.int .i64 0,.int .i64 0,.slice none 0 0,.slice none 0 0])/\(aT prog 98=some 8)/\(aX prog 98=some true)/\(aY prog 98=false)/\(aJ prog 98=false)/\(aF prog 98=none)/\(aW prog 98=none)/\(aO prog 98=some [(0,5),(5,1),(6,2)]):=by
 and_intros<;>kernel_rfl
@[simp] theorem aR6:(aB prog 98 0=some (89,0))/\(aB prog 98 1=some (3,5))/\(aB prog 98 2=some (47,6))/\(aH prog 98=some [.int .i64 0,.int .i64 0,.int .i64 0,.slice none 0 0,.slice none 0 0,.int .i64 0,.slice none 0 0,.slice none 0 0])/\(aT prog 99=some 1)/\(aX prog 99=some false)/\(aY prog 99=false)/\(aJ prog 99=false)/\(aF prog 99=some 106)/\(aW prog 99=some (106,6,80))/\(cB prog 99=some (6,80,[.int .i64 0,.int .i64 0,.int .i64 0,.slice none 0 0,.slice none 0 0,.bool false]))/\(aH prog 99=some [.slice none 0 0]):=by
 and_intros<;>kernel_rfl
@[simp] theorem aSp:(aT prog 106=some 6)/\(aX prog 106=some true)/\(aY prog 106=false)/\(aJ prog 106=false)/\(aF prog 106=none)/\(aW prog 106=none)/\(aO prog 106=some [(0,5),(5,1)])/\(aB prog 106 0=some (89,0))/\(aB prog 106 1=some (4,5))/\(aH prog 106=some [.int .i64 0,.int .i64 0,.int .i64 0,.slice none 0 0,.slice none 0 0,.bool false])/\(aT prog 117=some 1)/\(aX prog 117=some false):=by
 and_intros<;>kernel_rfl
@[simp] theorem aSk:(aY prog 117=false)/\(aJ prog 117=false)/\(aF prog 117=some 121)/\(aW prog 117=some (121,6,80))/\(cB prog 117=some (6,80,[.int .i64 0,.int .i64 0,.int .i64 0,.slice none 0 0,.slice none 0 0,.bool false]))/\(aH prog 117=some [.slice none 0 0])/\(aT prog 121=some 6)/\(aX prog 121=some true)/\(aY prog 121=false)/\(aJ prog 121=false)/\(aF prog 121=none)/\(aW prog 121=none):=by
 and_intros<;>kernel_rfl
@[simp] theorem aRW:(aO prog 121=some [(0,5),(5,1)])/\(aB prog 121 0=some (89,0))/\(aB prog 121 1=some (4,5))/\(aH prog 121=some [.int .i64 0,.int .i64 0,.int .i64 0,.slice none 0 0,.slice none 0 0,.bool false])/\(aT prog 129=some 1)/\(aX prog 129=some false)/\(aY prog 129=false)/\(aJ prog 129=false)/\(aF prog 129=none)/\(aW prog 129=none)/\(lZ prog 129=some .u64)/\(aH prog 129=some [.int .u64 0]):=by
 and_intros<;>kernel_rfl
@[simp] theorem aRL:(aT prog 131=some 4)/\(aX prog 131=some true)/\(aY prog 131=false)/\(aJ prog 131=false)/\(aF prog 131=none)/\(aW prog 131=none)/\(aO prog 131=some [(0,1),(1,1),(2,1),(3,1)])/\(aB prog 131 0=some (74,0))/\(aB prog 131 1=some (75,1))/\(aB prog 131 2=some (129,2))/\(aB prog 131 3=some (74,3))/\(aH prog 131=some [.slice none 0 0,.slice none 0 0,.int .u64 0,.slice none 0 0]):=by
 and_intros<;>kernel_rfl
@[simp] theorem aRe:(aT prog 132=some 1)/\(aX prog 132=some false)/\(aY prog 132=false)/\(aJ prog 132=false)/\(aF prog 132=some 74)/\(aW prog 132=some (74,1,24))/\(cB prog 132=some (1,24,[.slice none 0 0]))/\(aH prog 132=some [.slice none 0 0])/\(aT prog 134=some 3)/\(aX prog 134=some true)/\(aY prog 134=false)/\(aJ prog 134=false):=by
 and_intros<;>kernel_rfl
@[simp] theorem aQ8:(aF prog 134=none)/\(aW prog 134=none)/\(aO prog 134=some [(0,1),(1,1),(2,1)])/\(aB prog 134 0=some (74,0))/\(aB prog 134 1=some (75,1))/\(aB prog 134 2=some (132,2))/\(aH prog 134=some [.slice none 0 0,.slice none 0 0,.slice none 0 0])/\(aT prog 148=some 10)/\(aX prog 148=some true)/\(aY prog 148=false)/\(aJ prog 148=false)/\(aF prog 148=none):=by
 and_intros<;>kernel_rfl
@[simp] theorem aRA:(aW prog 148=none)/\(aO prog 148=some [(0,2),(2,2),(4,2),(6,2),(8,2)])/\(aB prog 148 0=some (40,0))/\(aB prog 148 1=some (40,2))/\(aB prog 148 2=some (40,4))/\(aB prog 148 3=some (47,6))/\(aB prog 148 4=some (47,8))/\(aH prog 148=some [.slice none 0 0,.slice none 0 0,.slice none 0 0,.slice none 0 0,.slice none 0 0,.slice none 0 0,.slice none 0 0,.slice none 0 0,.slice none 0 0,.slice none 0 0])/\(aT prog 155=some 1)/\(aX prog 155=some false)/\(aY prog 155=false)/\(aJ prog 155=false):=by
 and_intros<;>kernel_rfl
@[simp] theorem aRX:(aF prog 155=some 9)/\(aW prog 155=some (9,1,16))/\(cB prog 155=some (1,16,[.string ⟨#[]⟩]))/\(aH prog 155=some [.slice none 0 0])/\(aT prog 157=some 4)/\(aX prog 157=some true)/\(aY prog 157=false)/\(aJ prog 157=false)/\(aF prog 157=none)/\(aW prog 157=none)/\(aO prog 157=some [(0,1),(1,1),(2,1),(3,1)])/\(aB prog 157 0=some (9,0)):=by
 and_intros<;>kernel_rfl
@[simp] theorem aRb:(aB prog 157 1=some (3,1))/\(aB prog 157 2=some (3,2))/\(aB prog 157 3=some (155,3))/\(aH prog 157=some [.string ⟨#[]⟩,.int .i64 0,.int .i64 0,.slice none 0 0])/\(aT prog 158=some 1)/\(aX prog 158=some false)/\(aY prog 158=false)/\(aJ prog 158=false)/\(aF prog 158=some 157)/\(aW prog 158=some (157,4,56))/\(cB prog 158=some (4,56,[.string ⟨#[]⟩,.int .i64 0,.int .i64 0,.slice none 0 0]))/\(aH prog 158=some [.slice none 0 0]):=by
 and_intros<;>kernel_rfl
@[simp] theorem aRi:(aT prog 160=some 4)/\(aX prog 160=some true)/\(aY prog 160=false)/\(aJ prog 160=false)/\(aF prog 160=none)/\(aW prog 160=none)/\(aO prog 160=some [(0,1),(1,1),(2,1),(3,1)])/\(aB prog 160 0=some (9,0))/\(aB prog 160 1=some (3,1))/\(aB prog 160 2=some (4,2))/\(aB prog 160 3=some (158,3))/\(aH prog 160=some [.string ⟨#[]⟩,.int .i64 0,.bool false,.slice none 0 0]):=by
 and_intros<;>kernel_rfl
@[simp] theorem aRS:(aT prog 162=some 7)/\(aX prog 162=some true)/\(aY prog 162=false)/\(aJ prog 162=false)/\(aF prog 162=none)/\(aW prog 162=none)/\(aO prog 162=some [(0,1),(1,1),(2,1),(3,1),(4,1),(5,1),(6,1)])/\(aB prog 162 0=some (9,0))/\(aB prog 162 1=some (3,1))/\(aB prog 162 2=some (3,2))/\(aB prog 162 3=some (3,3))/\(aB prog 162 4=some (3,4)):=by
 and_intros<;>kernel_rfl
@[simp] theorem aRl:(aB prog 162 5=some (3,5))/\(aB prog 162 6=some (3,6))/\(aH prog 162=some [.string ⟨#[]⟩,.int .i64 0,.int .i64 0,.int .i64 0,.int .i64 0,.int .i64 0,.int .i64 0])/\(aT prog 164=some 3)/\(aX prog 164=some true)/\(aY prog 164=false)/\(aJ prog 164=false)/\(aF prog 164=none)/\(aW prog 164=none)/\(eqT prog 164=some 3)/\(aO prog 164=some [(0,1),(1,1),(2,1)])/\(aB prog 164 0=some (3,0)):=by
 and_intros<;>kernel_rfl
@[simp] theorem aRg:(aB prog 164 1=some (3,1))/\(aB prog 164 2=some (3,2))/\(aH prog 164=some [.int .i64 0,.int .i64 0,.int .i64 0])/\(aT prog 175=some 1)/\(aX prog 175=some false)/\(aY prog 175=false)/\(aJ prog 175=false)/\(aF prog 175=some 179)/\(aW prog 175=some (179,6,144))/\(cB prog 175=some (6,144,[.slice none 0 0,.slice none 0 0,.slice none 0 0,.slice none 0 0,.slice none 0 0,.slice none 0 0]))/\(aH prog 175=some [.slice none 0 0])/\(aT prog 179=some 6):=by
 and_intros<;>kernel_rfl
@[simp] theorem aRr:(aX prog 179=some true)/\(aY prog 179=false)/\(aJ prog 179=false)/\(aF prog 179=none)/\(aW prog 179=none)/\(aO prog 179=some [(0,2),(2,2),(4,2)])/\(aB prog 179 0=some (40,0))/\(aB prog 179 1=some (47,2))/\(aB prog 179 2=some (47,4))/\(aH prog 179=some [.slice none 0 0,.slice none 0 0,.slice none 0 0,.slice none 0 0,.slice none 0 0,.slice none 0 0])/\(aT prog 182=some 4)/\(aX prog 182=some true):=by
 and_intros<;>kernel_rfl
@[simp] theorem aRd:(aY prog 182=false)/\(aJ prog 182=false)/\(aF prog 182=none)/\(aW prog 182=none)/\(aO prog 182=some [(0,2),(2,2)])/\(aB prog 182 0=some (47,0))/\(aB prog 182 1=some (40,2))/\(aH prog 182=some [.slice none 0 0,.slice none 0 0,.slice none 0 0,.slice none 0 0])/\(aT prog 184=some 2)/\(aX prog 184=some true)/\(aY prog 184=false)/\(aJ prog 184=false):=by
 and_intros<;>kernel_rfl
@[simp] theorem aRt:(aF prog 184=none)/\(aW prog 184=none)/\(qC prog 184=some (2,5))/\(aO prog 184=none)/\(aH prog 184=some [.int .u8 0,.int .u8 0])/\(aT prog 189=some 3)/\(aX prog 189=some true)/\(aY prog 189=false)/\(aJ prog 189=false)/\(aF prog 189=none)/\(aW prog 189=none)/\(qC prog 189=some (3,5)):=by
 and_intros<;>kernel_rfl
@[simp] theorem aSs:(aO prog 189=none)/\(aH prog 189=some [.int .u8 0,.int .u8 0,.int .u8 0])/\(aT prog 196=some 1)/\(aX prog 196=some false)/\(aY prog 196=false)/\(aJ prog 196=false)/\(aF prog 196=none)/\(aW prog 196=none)/\(aH prog 196=some [.pointer none])/\(aT prog 198=some 11)/\(aX prog 198=some true)/\(aY prog 198=false):=by
 and_intros<;>kernel_rfl
@[simp] theorem aQ1:(aJ prog 198=false)/\(aF prog 198=none)/\(aW prog 198=none)/\(aO prog 198=some [(0,2),(2,2),(4,2),(6,2),(8,1),(9,1),(10,1)])/\(aB prog 198 0=some (25,0))/\(aB prog 198 1=some (40,2))/\(aB prog 198 2=some (40,4))/\(aB prog 198 3=some (47,6))/\(aB prog 198 4=some (4,8))/\(aB prog 198 5=some (3,9))/\(aB prog 198 6=some (82,10))/\(aH prog 198=some [.slice none 0 0,.slice none 0 0,.slice none 0 0,.slice none 0 0,.slice none 0 0,.slice none 0 0,.slice none 0 0,.slice none 0 0,.bool false,.int .i64 0,.slice none 0 0]):=by
 and_intros<;>kernel_rfl
@[simp] theorem aRu:(aT prog 201=some 8)/\(aX prog 201=some true)/\(aY prog 201=false)/\(aJ prog 201=false)/\(aF prog 201=none)/\(aW prog 201=none)/\(aO prog 201=some [(0,2),(2,2),(4,2),(6,2)])/\(aB prog 201 0=some (40,0))/\(aB prog 201 1=some (40,2))/\(aB prog 201 2=some (46,4))/\(aB prog 201 3=some (47,6))/\(aH prog 201=some [.slice none 0 0,.slice none 0 0,.slice none 0 0,.slice none 0 0,.slice none 0 0,.slice none 0 0,.slice none 0 0,.slice none 0 0]):=by
 and_intros<;>kernel_rfl
@[simp] theorem aRs:(aT prog 203=some 1)/\(aX prog 203=some false)/\(aY prog 203=false)/\(aJ prog 203=false)/\(aF prog 203=some 277)/\(aW prog 203=some (277,2,16))/\(cB prog 203=some (2,16,[.int .i64 0,.int .i64 0]))/\(aH prog 203=some [.slice none 0 0])/\(aT prog 227=some 1)/\(aX prog 227=some false)/\(aY prog 227=false)/\(aJ prog 227=false):=by
 and_intros<;>kernel_rfl
@[simp] theorem aRw:(aF prog 227=some 4)/\(aW prog 227=some (4,1,1))/\(cB prog 227=some (1,1,[.bool false]))/\(aH prog 227=some [.slice none 0 0])/\(aT prog 233=some 1)/\(aX prog 233=some false)/\(aH prog 233=some [.nilFunc])/\(aF prog 238=none)/\(lZ prog 238=some .u64)/\(aT prog 247=some 1)/\(aX prog 247=some false)/\(aY prog 247=false):=by
 and_intros<;>kernel_rfl
@[simp] theorem aSh:(aJ prog 247=false)/\(aF prog 247=some 40)/\(aW prog 247=some (40,2,48))/\(cB prog 247=some (2,48,[.slice none 0 0,.slice none 0 0]))/\(aH prog 247=some [.slice none 0 0])/\(aT prog 251=some 1)/\(aX prog 251=some false)/\(aY prog 251=false)/\(aJ prog 251=false)/\(aF prog 251=none)/\(aW prog 251=none)/\(aH prog 251=some [.pointer none]):=by
 and_intros<;>kernel_rfl
@[simp] theorem aR9:(aT prog 252=some 1)/\(aX prog 252=some false)/\(aY prog 252=false)/\(aJ prog 252=false)/\(aF prog 252=some 227)/\(aW prog 252=some (227,1,24))/\(cB prog 252=some (1,24,[.slice none 0 0]))/\(aH prog 252=some [.slice none 0 0])/\(aT prog 255=some 12)/\(aX prog 255=some true)/\(aY prog 255=false)/\(aJ prog 255=false):=by
 and_intros<;>kernel_rfl
@[simp] theorem aSo:(aF prog 255=none)/\(aW prog 255=none)/\(aO prog 255=some [(0,2),(2,2),(4,1),(5,2),(7,1),(8,1),(9,1),(10,1),(11,1)])/\(aB prog 255 0=some (40,0))/\(aB prog 255 1=some (40,2))/\(aB prog 255 2=some (252,4))/\(aB prog 255 3=some (47,5))/\(aB prog 255 4=some (4,7))/\(aB prog 255 5=some (3,8))/\(aB prog 255 6=some (37,9))/\(aB prog 255 7=some (37,10))/\(aB prog 255 8=some (82,11)):=by
 and_intros<;>kernel_rfl
@[simp] theorem aQ2:(aH prog 255=some [.slice none 0 0,.slice none 0 0,.slice none 0 0,.slice none 0 0,.slice none 0 0,.slice none 0 0,.slice none 0 0,.bool false,.int .i64 0,.slice none 0 0,.slice none 0 0,.slice none 0 0])/\(aT prog 257=some 1)/\(aX prog 257=some false)/\(aY prog 257=false)/\(aJ prog 257=false)/\(aF prog 257=none)/\(aW prog 257=none)/\(aH prog 257=some [.pointer none])/\(aT prog 259=some 5)/\(aX prog 259=some true)/\(aY prog 259=false)/\(aJ prog 259=false):=by
 and_intros<;>kernel_rfl
@[simp] theorem aRG:(aF prog 259=none)/\(aW prog 259=none)/\(aO prog 259=some [(0,2),(2,2),(4,1)])/\(aB prog 259 0=some (40,0))/\(aB prog 259 1=some (40,2))/\(aB prog 259 2=some (175,4))/\(aH prog 259=some [.slice none 0 0,.slice none 0 0,.slice none 0 0,.slice none 0 0,.slice none 0 0])/\(aT prog 261=some 1)/\(aX prog 261=some false)/\(aY prog 261=false)/\(aJ prog 261=false)/\(aF prog 261=none):=by
 and_intros<;>kernel_rfl
@[simp] theorem aR1:(aW prog 261=none)/\(aH prog 261=some [.pointer none])/\(aT prog 263=some 5)/\(aX prog 263=some true)/\(aY prog 263=false)/\(aJ prog 263=false)/\(aF prog 263=none)/\(aW prog 263=none)/\(aO prog 263=some [(0,2),(2,2),(4,1)])/\(aB prog 263 0=some (40,0))/\(aB prog 263 1=some (40,2))/\(aB prog 263 2=some (175,4)):=by
 and_intros<;>kernel_rfl
@[simp] theorem aRV:(aH prog 263=some [.slice none 0 0,.slice none 0 0,.slice none 0 0,.slice none 0 0,.slice none 0 0])/\(aT prog 269=some 1)/\(aX prog 269=some false)/\(aY prog 269=false)/\(aJ prog 269=false)/\(aF prog 269=none)/\(aW prog 269=none)/\(aH prog 269=some [.nilFunc])/\(aT prog 275=some 3)/\(aX prog 275=some true)/\(aY prog 275=false)/\(aJ prog 275=false):=by
 and_intros<;>kernel_rfl
@[simp] theorem aR2:(aF prog 275=none)/\(aW prog 275=none)/\(aO prog 275=some [(0,1),(1,1),(2,1)])/\(aB prog 275 0=some (3,0))/\(aB prog 275 1=some (9,1))/\(aB prog 275 2=some (3,2))/\(aH prog 275=some [.int .i64 0,.string ⟨#[]⟩,.int .i64 0])/\(aT prog 277=some 2)/\(aX prog 277=some true)/\(aY prog 277=false)/\(aJ prog 277=false)/\(aF prog 277=none):=by
 and_intros<;>kernel_rfl
@[simp] theorem aSb:(aW prog 277=none)/\(eqT prog 277=some 2)/\(aO prog 277=some [(0,1),(1,1)])/\(aB prog 277 0=some (3,0))/\(aB prog 277 1=some (3,1))/\(aH prog 277=some [.int .i64 0,.int .i64 0])/\(aT prog 299=some 24)/\(aX prog 299=some true)/\(aY prog 299=false)/\(aJ prog 299=false)/\(aF prog 299=none)/\(aW prog 299=none):=by
 and_intros<;>kernel_rfl
@[simp] theorem aSa:(qC prog 299=some (24,5))/\(aO prog 299=none)/\(aH prog 299=some [.int .u8 0,.int .u8 0,.int .u8 0,.int .u8 0,.int .u8 0,.int .u8 0,.int .u8 0,.int .u8 0,.int .u8 0,.int .u8 0,.int .u8 0,.int .u8 0,.int .u8 0,.int .u8 0,.int .u8 0,.int .u8 0,.int .u8 0,.int .u8 0,.int .u8 0,.int .u8 0,.int .u8 0,.int .u8 0,.int .u8 0,.int .u8 0])/\(aT prog 304=some 1)/\(aX prog 304=some false)/\(aY prog 304=false)/\(aJ prog 304=false)/\(aF prog 304=some 44)/\(aW prog 304=some (44,5,104))/\(cB prog 304=some (5,104,[.slice none 0 0,.slice none 0 0,.slice none 0 0,.int .i64 0,.slice none 0 0]))/\(aH prog 304=some [.slice none 0 0])/\(aT prog 311=some 1):=by
 and_intros<;>kernel_rfl
@[simp] theorem aSl:(aX prog 311=some false)/\(aY prog 311=false)/\(aJ prog 311=false)/\(aF prog 311=some 37)/\(aW prog 311=some (37,1,24))/\(cB prog 311=some (1,24,[.slice none 0 0]))/\(aH prog 311=some [.slice none 0 0])/\(aT prog 321=some 1)/\(aX prog 321=some false)/\(aY prog 321=false)/\(aJ prog 321=false)/\(aF prog 321=none):=by
 and_intros<;>kernel_rfl
@[simp] theorem aQ4:(aW prog 321=none)/\(lZ prog 321=some .u32)/\(aH prog 321=some [.int .u32 0])/\(aT prog 328=some 20)/\(aX prog 328=some true)/\(aY prog 328=false)/\(aJ prog 328=false)/\(aF prog 328=none)/\(aW prog 328=none)/\(qC prog 328=some (20,129))/\(aO prog 328=none)/\(aH prog 328=some [.int .u64 0,.int .u64 0,.int .u64 0,.int .u64 0,.int .u64 0,.int .u64 0,.int .u64 0,.int .u64 0,.int .u64 0,.int .u64 0,.int .u64 0,.int .u64 0,.int .u64 0,.int .u64 0,.int .u64 0,.int .u64 0,.int .u64 0,.int .u64 0,.int .u64 0,.int .u64 0]):=by
 and_intros<;>kernel_rfl
@[simp] theorem aR3:(aT prog 329=some 65)/\(aX prog 329=some true)/\(aY prog 329=false)/\(aJ prog 329=false)/\(aF prog 329=none)/\(aW prog 329=none)/\(qC prog 329=some (65,5))/\(aO prog 329=none)/\(aH prog 329=some [.int .u8 0,.int .u8 0,.int .u8 0,.int .u8 0,.int .u8 0,.int .u8 0,.int .u8 0,.int .u8 0,.int .u8 0,.int .u8 0,.int .u8 0,.int .u8 0,.int .u8 0,.int .u8 0,.int .u8 0,.int .u8 0,.int .u8 0,.int .u8 0,.int .u8 0,.int .u8 0,.int .u8 0,.int .u8 0,.int .u8 0,.int .u8 0,.int .u8 0,.int .u8 0,.int .u8 0,.int .u8 0,.int .u8 0,.int .u8 0,.int .u8 0,.int .u8 0,.int .u8 0,.int .u8 0,.int .u8 0,.int .u8 0,.int .u8 0,.int .u8 0,.int .u8 0,.int .u8 0,.int .u8 0,.int .u8 0,.int .u8 0,.int .u8 0,.int .u8 0,.int .u8 0,.int .u8 0,.int .u8 0,.int .u8 0,.int .u8 0,.int .u8 0,.int .u8 0,.int .u8 0,.int .u8 0,.int .u8 0,.int .u8 0,.int .u8 0,.int .u8 0,.int .u8 0,.int .u8 0,.int .u8 0,.int .u8 0,.int .u8 0,.int .u8 0,.int .u8 0])/\(aT prog 339=some 1)/\(aX prog 339=some false)/\(aH prog 339=some [.nilFunc]):=by
 and_intros<;>kernel_rfl
@[simp] theorem aSi:(aT prog 354=some 1)/\(aX prog 354=some false)/\(aY prog 354=false)/\(aJ prog 354=false)/\(aF prog 354=none)/\(aW prog 354=none)/\(aH prog 354=some [.pointer none])/\(aT prog 358=some 32)/\(aX prog 358=some true)/\(aY prog 358=false)/\(aJ prog 358=false)/\(aF prog 358=none):=by
 and_intros<;>kernel_rfl
@[simp] theorem aRU:(aW prog 358=none)/\(qC prog 358=some (32,5))/\(aO prog 358=none)/\(aH prog 358=some [.int .u8 0,.int .u8 0,.int .u8 0,.int .u8 0,.int .u8 0,.int .u8 0,.int .u8 0,.int .u8 0,.int .u8 0,.int .u8 0,.int .u8 0,.int .u8 0,.int .u8 0,.int .u8 0,.int .u8 0,.int .u8 0,.int .u8 0,.int .u8 0,.int .u8 0,.int .u8 0,.int .u8 0,.int .u8 0,.int .u8 0,.int .u8 0,.int .u8 0,.int .u8 0,.int .u8 0,.int .u8 0,.int .u8 0,.int .u8 0,.int .u8 0,.int .u8 0])/\(aT prog 359=some 64)/\(aX prog 359=some true)/\(aY prog 359=false)/\(aJ prog 359=false)/\(aF prog 359=none)/\(aW prog 359=none)/\(qC prog 359=some (64,5))/\(aO prog 359=none):=by
 and_intros<;>kernel_rfl
@[simp] theorem aRp:(aH prog 359=some [.int .u8 0,.int .u8 0,.int .u8 0,.int .u8 0,.int .u8 0,.int .u8 0,.int .u8 0,.int .u8 0,.int .u8 0,.int .u8 0,.int .u8 0,.int .u8 0,.int .u8 0,.int .u8 0,.int .u8 0,.int .u8 0,.int .u8 0,.int .u8 0,.int .u8 0,.int .u8 0,.int .u8 0,.int .u8 0,.int .u8 0,.int .u8 0,.int .u8 0,.int .u8 0,.int .u8 0,.int .u8 0,.int .u8 0,.int .u8 0,.int .u8 0,.int .u8 0,.int .u8 0,.int .u8 0,.int .u8 0,.int .u8 0,.int .u8 0,.int .u8 0,.int .u8 0,.int .u8 0,.int .u8 0,.int .u8 0,.int .u8 0,.int .u8 0,.int .u8 0,.int .u8 0,.int .u8 0,.int .u8 0,.int .u8 0,.int .u8 0,.int .u8 0,.int .u8 0,.int .u8 0,.int .u8 0,.int .u8 0,.int .u8 0,.int .u8 0,.int .u8 0,.int .u8 0,.int .u8 0,.int .u8 0,.int .u8 0,.int .u8 0,.int .u8 0])/\(eqT prog 379=some 2)/\(aO prog 379=some [(0,1),(1,1)])/\(aB prog 379 0=some (3,0))/\(aB prog 379 1=some (3,1))/\(aT prog 381=some 4)/\(aX prog 381=some true)/\(aY prog 381=false)/\(aJ prog 381=false)/\(aF prog 381=none)/\(aW prog 381=none)/\(aO prog 381=some [(0,1),(1,1),(2,2)]):=by
 and_intros<;>kernel_rfl
@[simp] theorem aRa:(aB prog 381 0=some (3,0))/\(aB prog 381 1=some (3,1))/\(aB prog 381 2=some (379,2))/\(aH prog 381=some [.int .i64 0,.int .i64 0,.int .i64 0,.int .i64 0])/\(aT prog 383=some 5)/\(aX prog 383=some true)/\(aY prog 383=false)/\(aJ prog 383=false)/\(aF prog 383=none)/\(aW prog 383=none)/\(aO prog 383=some [(0,1),(1,2),(3,2)])/\(aB prog 383 0=some (3,0)):=by
 and_intros<;>kernel_rfl
@[simp] theorem aRB:(aB prog 383 1=some (379,1))/\(aB prog 383 2=some (379,3))/\(aH prog 383=some [.int .i64 0,.int .i64 0,.int .i64 0,.int .i64 0,.int .i64 0]):=by
 and_intros<;>kernel_rfl
variable {P:Program}
attribute [simp] yT uU aLs aLL Own.live sQ aE1 aDc zR qU Gd.tt Gd.tf Gd.ft Gd.ff fN fR fW fA AS.ev aLp aHr jJ jP aNl aGc cF aLy aKJ aBq gK iA gP aKQ unF aGp rB aQ cC aNQ aJ0 dS AV.cells? AV.elems? zS AV.toD nU qP setCells aGo rH
@[simp] theorem aPT{cx:Cx}{ops:Array Oper}{dr:Bool}{K:AS->Prop}{t:Nat->AV}{b:Bxs}{k:Nat->Bool}{n:Nat}:kU P cx ops dr [] K ⟨t,b,k,n⟩=K ⟨t,b,k,n⟩:=by simp only[kU]
@[simp] theorem aOb{cx:Cx}{ops:Array Oper}{dr:Bool}{o:Oper}{r:List Oper}{K:AS->Prop}{t:Nat->AV}{b:Bxs}{k:Nat->Bool}{n:Nat}:kU P cx ops dr (o::r) K ⟨t,b,k,n⟩=match o.guard with
  | none=>zR P cx dr o (kU P cx ops dr r K) ⟨t,b,k,n⟩
  | some (j,want)=>match dS ops ⟨t,b,k,n⟩ j with
   | some (some c)=>Gd c want (zR P cx dr o (kU P cx ops dr r K)) (qU o.dst (kU P cx ops dr r K)) ⟨t,b,k,n⟩
   | some none=>qU o.dst (kU P cx ops dr r K) ⟨t,b,k,n⟩
   | none=>False:=by
 simp only[kU];all_goals rfl
@[simp] theorem aN4{tok:Nat->Bool}:Own.full.liveP tok=True:=rfl
@[simp] theorem aOa{tok:Nat->Bool}:Own.full.kill tok=tok:=rfl
@[simp] theorem aCL{tok:Nat->Bool}{t:Nat}:(Own.tok t).liveP tok=(tok t=true):=rfl
@[simp] theorem aDT{tok:Nat->Bool}{t:Nat}:(Own.tok t).kill tok=upd tok t false:=rfl
def ToL(p q:Nat->Prop)(fz:Option (Nat × Nat × List (List D)))(l:List (Nat × AV)):List (Nat × AV)->Prop
 | []=>True
 | (i,v)::r=>To p q fz (tl l i) v/\ToL p q fz l r
theorem ToL.all{p q:Nat->Prop}{fz:Option (Nat × Nat × List (List D))}{l:List (Nat × AV)}:∀{l':List (Nat × AV)},ToL p q fz l l'->∀t,To p q fz (tl l t) (tl l' t)
 | [],_,t=>.bot
 | (i,v)::r,h,t=>by
  rw[jP];split
  .rename_i e;subst e;exact h.1
  .exact ToL.all h.2 t
def aC(p q:Nat->Prop)(fz:Option (Nat × Nat × List (List D)))(loc:List (Nat × List (List AV))):List (Nat × List (List AV))->Prop
 | []=>True
 | (s,rows')::r=>(∃rows,lk loc s=some rows/\gN p q fz rows rows')/\aC p q fz loc r
theorem aC.all{p q:Nat->Prop}{fz:Option (Nat × Nat × List (List D))}{loc:List (Nat × List (List AV))}:∀{loc':List (Nat × List (List AV))},aC p q fz loc loc'->∀s rows',lk loc' s=some rows'->∃rows,lk loc s=some rows/\gN p q fz rows rows'
 | [],_,s,rows',h=>by simp[lk] at h
 | (i,v)::r,h,s,rows',hs=>by
  rw[cC] at hs;split at hs
  .rename_i e;subst e;cases hs;exact h.1
  .exact aC.all h.2 s rows' hs
theorem aS.mk'{cx:Cx}{nt0 nt:Nat}{l l':List (Nat × AV)}{out:Bxs}{loc loc':List (Nat × List (List AV))}{tok:Nat->Bool}(pk:nt0<=nt)(hl:ToL (fun k=>lb cx.base out loc' k≠none) (fun _=>True) none l l')(hb:aC (fun k=>lb cx.base out loc' k≠none) (fun _=>True) none loc loc')(ho:∀k rows,k<cx.base->out k=some rows->cx.B0 k=some rows∨∀r∈rows,∀x∈r,bF (fun k=>lb cx.base out loc' k≠none) (fun _=>True) x):
  aS cx nt0 ⟨tl l,lb cx.base out loc,tok,nt⟩ ⟨tl l',lb cx.base out loc',tok,nt⟩:=by
 refine⟨out,loc,loc',none,rfl,rfl,nr0 _,pk,fun t h=>⟨h,.inl rfl⟩,?_,?_,(fun _ _ _ h=>by cases h),?_⟩
 .simp only[true_or,fu];exact hl.all
 .simp only[true_or,fu];exact hb.all
 .simp only[true_or];exact ho
theorem wM{cx:Cx}{nt0 nt:Nat}{l l':List (Nat × AV)}{out:Bxs}{loc loc':List (Nat × List (List AV))}{tok:Nat->Bool}(pk:nt0<=nt)(ho:out=cx.B0)(hl:ToL (fun k=>lb cx.base out loc' k≠none) (fun _=>True) none l l')(hb:aC (fun k=>lb cx.base out loc' k≠none) (fun _=>True) none loc loc'):
  aS cx nt0 ⟨tl l,lb cx.base out loc,tok,nt⟩ ⟨tl l',lb cx.base out loc',tok,nt⟩ :=
 aS.mk' pk hl hb fun k rows _ h=>.inl (by rw[<-ho];exact h)
theorem Fin.data{cx:Cx}{nt0 nt:Nat}{rs:List ResultVar}{l:List (Nat × AV)}{out:Bxs}{loc:List (Nat × List (List AV))}{tok mtok:Nat->Bool}{vs:List AV}{av:AV}(hres:aP P ⟨tl l,lb cx.base out loc,tok,nt⟩ rs=some vs)(Hb:lb cx.base out []=out)(ho:out=cx.B0)(hm:∀t,mtok t=true->t<nt0)(Ht:∀t,mtok t=true->tok t=true)(pk:nt0<=nt)(hto:To (fun k=>lb cx.base out [] k≠none) (fun t=>nt0=nt∨t<nt0) none (rO vs) av):Fin P cx nt0 rs (fun v' m'=>v'=av/\m'=⟨out,cx.base,mtok,nt0⟩) ⟨tl l,lb cx.base out loc,tok,nt⟩ :=
 ⟨vs,out,loc,none,av,⟨out,cx.base,mtok,nt0⟩,hres,⟨rfl,rfl,pk,nr0 _,fun t h=>⟨Ht t h,.inr (hm t h)⟩,fun _=>.bot,fun s rows' h=>by simp[lk] at h,(fun _ _ _ h=>by cases h),
  fun k rows _ h=>.inl (by rw[<-ho];exact h)⟩,Hb.symm,rfl,by simpa using hto,rfl,rfl⟩
section
variable {p q:Nat->Prop} {fz:Option (Nat × Nat × List (List D))}
@[simp] theorem aSD(x:AV):To p q fz x .bot:=.bot
@[simp] theorem aS2(x:D):To p q fz (.d x) (.d x):=.same .d
@[simp] theorem aRF(sz:Nat)(es:List (List D))(o:Own):To p q fz (.osl sz es o) (.d (.sl sz es)):=.data
@[simp] theorem aSC(sz:Nat)(es:List (List D))(o:Own):To p (fun _=>True) fz (.osl sz es o) (.osl sz es o):=.same (.osl fun _ _=>trivial)
theorem aFq{sz:Nat}{es:List (List D)}{r r':List D}(h:DS1 r r')(o:Own):To p (fun _=>True) fz (.osl sz (es++[r]) o) (.osl sz (es++[r']) o):=.otok ((DSs.snoc h).sub sz) fun _ _=>trivial
@[simp] theorem aRM(sz:Nat)(es:List (List D)):To p q fz (.osl sz es .full) (.osl sz es .full):=.same (.osl fun _ h=>by cases h)
@[simp] theorem aR0(sz sz':Nat)(h:sz'=0->sz=0):To p q fz (.osl sz [] .full) (.osl sz' [] .full):=.nil h rfl
@[simp] theorem aRv(sz sz':Nat)(o:Own):To p q fz (.osl sz [] o) (.d (.sl sz' [])):=.odsub .emp
@[simp] theorem aRm(sz sz':Nat):To p q fz (.d (.sl sz [])) (.d (.sl sz' [])):=.dsub .emp
@[simp] theorem aRq(sz sz':Nat):To p q fz (.osl 1 [[.sl sz []]] .full) (.osl 1 [[.sl sz' []]] .full) :=
 .osub (fun e=>by cases e) (.sl rfl (fun i h1 h2=>by simp at h1;subst h1;rfl) (fun i h1 h2 j g1 g2=>by simp at h1;subst h1;simp at g1;subst g1;exact .emp))
@[simp] theorem aRZ(sz sz':Nat)(o:Own):To p q fz (.osl 1 [[.sl sz []]] o) (.d (.sl 1 [[.sl sz' []]])) :=
 .odsub (.sl rfl (fun i h1 h2=>by simp at h1;subst h1;rfl) (fun i h1 h2 j g1 g2=>by simp at h1;subst h1;simp at g1;subst g1;exact .emp))
@[simp] theorem aRE(cs:List D)(off:Nat):To p q fz (.cptr cs off) (.cptr cs off):=.same .cptr
theorem aI{k i off:Nat}(h:p k):To p q fz (.ptr k i off) (.ptr k i off):=.same (.ptr h)
@[simp] theorem aGO{base s i off:Nat}{out:Bxs}{loc:List (Nat × List (List AV))}:To (fun k=>lb base out loc k≠none) q fz (.ptr (base+s) i off) (.ptr (base+s) i off)↔lk loc s≠none:=by
 constructor
 .intro h;cases h with
  | same h=>cases h with|ptr h=>rw[aQ] at h;exact h
 .intro h;exact aI (by rw[aQ];exact h)
@[simp] theorem aSJ(E:TypeId)(t:Nat)(es:List (List D)):To p (fun _=>True) fz (.buf E t es) (.buf E t es):=.same (.buf trivial)
@[simp] theorem aNx{base s:Nat}{T:TypeId}{out:Bxs}{loc:List (Nat × List (List AV))}:To (fun k=>lb base out loc k≠none) q fz (.here (base+s) T) (.here (base+s) T)↔lk loc s≠none:=by
 constructor
 .intro h;cases h with
  | same h=>cases h with|here h=>rw[aQ] at h;exact h
 .intro h;exact .same (.here (by rw[aQ];exact h))
@[simp] theorem aOc{base s off n sz:Nat}{out:Bxs}{loc:List (Nat × List (List AV))}:To (fun k=>lb base out loc k≠none) q fz (.msl (base+s) off n sz) (.msl (base+s) off n sz)↔lk loc s≠none:=by
 constructor
 .intro h;cases h with
  | same h=>cases h with|msl h=>rw[aQ] at h;exact h
 .intro h;exact .same (.msl (by rw[aQ];exact h))
@[simp] theorem aSx(x:D):bF p q (.d x):=.d
@[simp] theorem aQx:bF p q .bot:=.bot
@[simp] theorem aOK(sz:Nat)(es:List (List D))(o:Own):bF p (fun _=>True) (.osl sz es o):=.osl fun _ _=>trivial
@[simp] theorem aOR{k i off:Nat}:bF p q (.ptr k i off)↔p k:=⟨fun h=>by cases h;assumption,.ptr⟩
@[simp] theorem yB{cs:List AV}:bF p q (.agg cs)↔∀c∈cs,bF p q c:=⟨fun h=>by cases h;assumption,.agg⟩
@[simp] theorem aSn{f:Fn}{cs:List AV}:bF p q (.fn f cs)↔∀c∈cs,bF p q c:=⟨fun h=>by cases h;assumption,.fn⟩
@[simp] theorem aNA:To p q fz (.tup []) (.tup []):=.tup rfl fun i h=>by simp at h
theorem aC9{a b:AV}{k9 bs:List AV}(h:To p q fz a b)(k:To p q fz (.agg k9) (.agg bs)):To p q fz (.agg (a::k9)) (.agg (b::bs)):=by
 cases k with
 | same k =>
  refine .agg rfl fun i h1 h2=>?_
  cases i with
  | zero=>exact h
  | succ i=>exact .same ((yB.1 k) _ (aa _))
 | agg hl k =>
  refine .agg (by simp[hl]) fun i h1 h2=>?_
  cases i with
  | zero=>exact h
  | succ i=>exact k i (by simpa using h1) (by simpa using h2)
theorem aDU{a b:AV}{k9 bs:List AV}(h:To p q fz a b)(k:To p q fz (.tup k9) (.tup bs)):To p q fz (.tup (a::k9)) (.tup (b::bs)):=by
 cases k with
 | same k =>
  refine .tup rfl fun i h1 h2=>?_
  cases i with
  | zero=>exact h
  | succ i=>cases k with|tup k=>exact .same (k _ (aa _))
 | tup hl k =>
  refine .tup (by simp[hl]) fun i h1 h2=>?_
  cases i with
  | zero=>exact h
  | succ i=>exact k i (by simpa using h1) (by simpa using h2)
@[simp] theorem aHA{a b:AV}{k9 bs:List AV}:To p q fz (.agg (a::k9)) (.agg (b::bs))↔To p q fz a b/\To p q fz (.agg k9) (.agg bs):=by
 constructor
 .intro h;cases h with
  | same h=>have:=yB.1 h;exact⟨.same (this _ (by simp)),.same (yB.2 fun c hc=>this c (by simp[hc]))⟩
  | agg hl h=>exact⟨h 0 (by simp) (by simp),.agg (by simpa using hl) fun i h1 h2=>h (i+1) (by simpa using h1) (by simpa using h2)⟩
 .exact fun ⟨h,k⟩=>aC9 h k
@[simp] theorem aHB{a b:AV}{k9 bs:List AV}:To p q fz (.tup (a::k9)) (.tup (b::bs))↔To p q fz a b/\To p q fz (.tup k9) (.tup bs):=by
 constructor
 .intro h;cases h with
  | same h =>
   cases h with
   | tup this=>exact⟨.same (this _ (by simp)),.same (.tup fun c hc=>this c (by simp[hc]))⟩
  | tup hl h=>exact⟨h 0 (by simp) (by simp),.tup (by simpa using hl) fun i h1 h2=>h (i+1) (by simpa using h1) (by simpa using h2)⟩
 .exact fun ⟨h,k⟩=>aDU h k
@[simp] theorem aNg:To p q fz (.agg []) (.agg []):=.agg rfl fun i h=>by simp at h
end
def aA9(t:List (Nat × AV)):List Oper->Prop
 | []=>True
 | o::r=>(match o.dst with|some d=>NP (tl t d)|none=>True)/\aA9 t r
theorem aA9.all{t:List (Nat × AV)}{l:List Oper}(h:aA9 t l):∀o∈l,∀d,o.dst=some d->NP (tl t d):=by
 induction l with
 | nil=>intro o ho;simp at ho
 | cons o r ih =>
  intro x hx d hd;unfold aA9 at h;rcases ca.1 hx with e|hx
  .subst e;have:=h.1
   rw[hd] at this;exact this
  .exact ih h.2 x hx d hd
theorem mH.of{ops:Array Oper}{l:List (Nat × AV)}{b:Bxs}{k:Nat->Bool}{n:Nat}(h:aA9 l ops.toList):mH ops ⟨tl l,b,k,n⟩ :=
 fun o ho d hd=>h.all o ho d hd
attribute [simp] aA9 NP NK oA Far aJg
theorem sL{cx:Cx}{nt0:Nat}{K:Exit->AS->Prop}{r:List CI}{S:AS}{c:Code}{α:Type}(T:α->AS)(inv:α->Prop)(μ:α->Nat)(a0:α)(h0:inv a0)(hw:aS cx nt0 S (T a0))(jl:∀a S,inv a->S=T a->AL P cx nt0 (fun e S'=>match e with
   | .normal=>∃a',inv a'/\μ a'<μ a/\aS cx nt0 S' (T a')
   | e=>AU P cx nt0 K r e S') [.c c] S):AL P cx nt0 K (.c (.loop c)::r) S:=by
 refine AL.loop (fun n S=>∃a,inv a/\n=μ a/\S=T a) ⟨_,_,hw,a0,h0,rfl,rfl⟩ ?_;rintro n S ⟨a,ha,rfl,hS⟩;have:=AL.start (jl a S ha hS)
 simp only[AL];refine this.mono fun e S' h=>?_
 cases e with
 | normal =>
  obtain⟨a',h1,h2,h3⟩:=h;exact⟨μ a',T a',h2,h3,a',h1,rfl,rfl⟩
 | _=>simpa only[AU] using h
structure TK (mtok:Tks) (nt0:Nat) (tok:Tks) (nt:Nat) (os:List Own):Prop where
 old:∀t,mtok t=true->tok t=true
 lt:∀t,mtok t=true->t<nt0
 le:nt0<=nt
 own:∀o∈os,∀t,o=.tok t->tok t=true/\nt0<=t/\t<nt
 ne:os.Pairwise fun a b=>∀t,a=.tok t->b≠.tok t
theorem TK.start{mtok:Nat->Bool}{nt0:Nat}(h:∀t,mtok t=true->t<nt0):TK mtok nt0 mtok nt0 []:=⟨fun _ h=>h,h,nr0 _,by simp,.nil⟩
theorem TK.full{mtok:Nat->Bool}{nt0:Nat}{tok:Nat->Bool}{nt:Nat}{os:List Own}(h:TK mtok nt0 tok nt os):TK mtok nt0 tok nt (.full::os) :=
 ⟨h.old,h.lt,h.le,fun o ho t e=>by
  rcases ca.1 ho with rfl|ho
  .cases e
  .exact h.own o ho t e,.cons (fun b _ t e=>by cases e) h.ne⟩
theorem TK.live{mtok:Nat->Bool}{nt0:Nat}{tok:Nat->Bool}{nt:Nat}{o:Own}{os:List Own}(h:TK mtok nt0 tok nt (o::os)):o.liveP tok:=by
 cases o with
 | full=>trivial
 | tok t=>exact(h.own _ (by simp) t rfl).1
theorem TK.tail{mtok:Nat->Bool}{nt0:Nat}{tok:Nat->Bool}{nt:Nat}{o:Own}{os:List Own}(h:TK mtok nt0 tok nt (o::os)):TK mtok nt0 tok nt os :=
 ⟨h.old,h.lt,h.le,fun o' ho=>h.own o' (by simp[ho]),(du.1 h.ne).2⟩
theorem TK.swap{mtok:Nat->Bool}{nt0:Nat}{tok:Nat->Bool}{nt:Nat}{a b:Own}{os:List Own}(h:TK mtok nt0 tok nt (a::b::os)):TK mtok nt0 tok nt (b::a::os):=by
 have h1:=du.1 h.ne;have h2:=du.1 h1.2;refine⟨h.old,h.lt,h.le,fun o' ho=>h.own o' (by simp at ho ⊢;rcases ho with h|h|h<;>simp[h]),?_⟩;refine du.2 ⟨fun c hc t e=>?_,du.2 ⟨fun c hc=>h1.1 c (by simp[hc]),h2.2⟩⟩;rcases ca.1 hc with rfl|hc
 .intro e';exact h1.1 b (by simp) t e' e
 .exact h2.1 c hc t e
theorem TK.app{mtok:Nat->Bool}{nt0:Nat}{tok:Nat->Bool}{nt:Nat}{o:Own}{os:List Own}(h:TK mtok nt0 tok nt (o::os)):TK mtok nt0 (upd (o.kill tok) nt true) (nt+1) (.tok nt::os):=by
 have hp:=du.1 h.ne;have key:∀t,t<nt->(∀t',o=.tok t'->t≠t')->(upd (o.kill tok) nt true) t=tok t:=by
  intro t ht hne;rw[uO _ _ (by omega)];cases o with
  | full=>rfl
  | tok t'=>simp only[Own.kill];rw[uO _ _ (hne t' rfl)]
 have iv:=h.le;refine⟨fun t ht=>?_,h.lt,by omega,fun o' ho t e=>?_,?_⟩
 .have hlt:=h.lt t ht;rw[key t (by omega) (fun t' e=>by have:=(h.own o (by simp) t' e).2.1;omega)];exact h.old t ht
 .rcases ca.1 ho with rfl|ho
  .cases e;exact⟨by rw[uS],iv,by omega⟩
  .obtain⟨h1,h2,h3⟩:=h.own o' (by simp[ho]) t e;refine⟨?_,h2,by omega⟩;rw[key t h3 (fun t' e'=>fun e2=>by subst e2;exact hp.1 o' ho t e' e)];exact h1
 .refine du.2 ⟨fun b hb t e e'=>?_,hp.2⟩;cases e;have:=(h.own b (by simp[hb]) _ e').2.2
  omega
theorem aN.of_b{cx:Cx}{fid:FuncId}{args:List AV}{S:AS}{dst:Option Tmp}{K:AS->Prop}{v:AV}{tok':Nat->Bool}{nt':Nat}(h:aD P fid args ⟨S.box,cx.nb,S.tok,S.nt⟩ fun v' m'=>v'=v/\m'=⟨S.box,cx.nb,tok',nt'⟩)(hk:K ⟨bX S.tmps dst v,S.box,tok',nt'⟩):aN P cx false fid args S dst K:=by
 refine h.mono ?_;rintro v' m' ⟨rfl,rfl⟩;exact hk
theorem bC{nb k:Nat}{box:Bxs}{r:List (List AV)}(Hb:lb nb box []=box)(h:box k=some r):k<nb:=by
 rcases ew k nb with h1|h1
 .exact h1
 .rw[<-Hb] at h;have:¬k<nb:=by omega
  simp[lb,lk,this] at h
abbrev ints(xs:List Int):D:=.sl 1 (xs.map fun n=>[D.raw (.int .i64 n)])
abbrev I(n:Int):AV:=.d (.raw (.int .i64 n))
abbrev B(b:Bool):AV:=.d (.raw (.bool b))
structure E where
 ty:Int
 fr:Int
 to:Int
 deriving DecidableEq,Inhabited
abbrev E.cells(e:E):List D:=[.raw (.int .i64 e.ty),.raw (.int .i64 e.fr),.raw (.int .i64 e.to)]
abbrev edges(es:List E):D:=.sl 3 (es.map E.cells)
structure Gr where
 nodes:List Int
 edges:List E
 deriving DecidableEq,Inhabited
structure Mo where
 nodes:List Int
 edges:List Int
 deriving DecidableEq,Inhabited
abbrev Gr.av(g:Gr):AV:=.agg [.d (ints g.nodes),.d (AM.edges g.edges)]
abbrev Mo.av(m:Mo):AV:=.agg [.d (ints m.nodes),.d (ints m.edges)]
@[simp] theorem aSN{α β:Type}(f:α->β)(l:List α)(i:Nat)(d:β)(h:i<l.length):((l.map f)[i]?).getD d=f l[i]:=by simp[h]
class Nrm (l:List CI) (l':outParam (List CI)):Prop where
 h:∀{P:Program} {cx:Cx} {nt0:Nat} {K:Exit->AS->Prop} {S:AS},AL P cx nt0 K l' S->AL P cx nt0 K l S
instance (priority:=low) Nrm.base {l:List CI}:Nrm l l:=⟨id⟩
instance Nrm.seq {a b:Code} {r l':List CI} [h:Nrm (.c a::.c b::r) l']:Nrm (.c (.seq a b)::r) l':=⟨fun x=>AL.seq (h.h x)⟩
instance Nrm.block {id:Nat} {c:Code} {r l':List CI} [h:Nrm (.c c::.blk id::r) l']:Nrm (.c (.block id c)::r) l':=⟨fun x=>AL.block (h.h x)⟩
instance Nrm.skip {r l':List CI} [h:Nrm r l']:Nrm (.c .skip::r) l':=⟨fun x=>AL.skip (h.h x)⟩
instance Nrm.blk {id:Nat} {r l':List CI} [h:Nrm r l']:Nrm (.blk id::r) l':=⟨fun x=>AL.blk (h.h x)⟩
section
variable {P:Program} {cx:Cx} {nt0:Nat} {K:Exit->AS->Prop} {S:AS} {l l' r:List CI}
abbrev DC(f:FuncId)(a:List AV)(v:AV):Prop:=∀(tok:Tks) (nt:Nat),cZ prog f a tok nt v tok nt
theorem sN[h:Nrm l l'](k:AL P cx nt0 K l' S):AL P cx nt0 K l S:=h.h k
theorem sR{id:Nat}{ops:Array Oper}{draw:Bool}[h:Nrm l (.c (.region id ops draw)::r)](k:aE1 prog cx ops draw (AL prog cx nt0 K r) S)(j8:cx.base+cx.n<=cx.nb:=by exact nr0 _)(ia:iP cx.n ops draw=true:=by kernel_rfl):AL prog cx nt0 K l S :=
 h.h (AL.region bS j8 ia k)
theorem sC{x:Operand}{a b:Code}[h:Nrm l (.c (.cond x a b)::r)](k:aGo P cx nt0 K r a b S (S.ev x)):AL P cx nt0 K l S:=h.h (AL.cond k)
theorem sT[h:Nrm l (.c .ret::r)](k:K .ret S):AL P cx nt0 K l S:=h.h (AL.ret k)
theorem sE[h:Nrm l []](k:K .normal S):AL P cx nt0 K l S:=h.h (AL.nil k)
@[simp] theorem aS3 {P:Program}{cx:Cx}{nt0:Nat}{K:Exit->AS->Prop}{x:Code}{r:List CI}{j:Nat}{S:AS}:AU P cx nt0 K (.c x::r) (.exit j) S=AU P cx nt0 K r (.exit j) S:=by simp only[AU]
@[simp] theorem aS4 {P:Program}{cx:Cx}{nt0:Nat}{K:Exit->AS->Prop}{r:List CI}{i j:Nat}{S:AS}:AU P cx nt0 K (.blk i::r) (.exit j) S=if j=i then AL P cx nt0 K r S else AU P cx nt0 K r (.exit j) S:=by simp only[AU]
theorem sX{id:Nat}[h:Nrm l (.c (.exit id)::r)](k:AU P cx nt0 K r (.exit id) S):AL P cx nt0 K l S:=h.h (AL.exit k)
theorem sF{nt:Nat}{rs:List ResultVar}{l:List (Nat × AV)}{out:Bxs}{loc:List (Nat × List (List AV))}{tok mtok:Nat->Bool}{vs:List AV}{av:AV}(Hb:lb cx.base out []=out)(hm:∀t,mtok t=true->t<nt0)(Ht:∀t,mtok t=true->tok t=true)(pk:nt0<=nt)(hto:To (fun k=>lb cx.base out [] k≠none) (fun t=>nt0=nt∨t<nt0) none (rO vs) av)(hres:aP P ⟨tl l,lb cx.base out loc,tok,nt⟩ rs=some vs:=by (simp[aP,bI];rfl))(ho:out=cx.B0:=by rfl):Fin P cx nt0 rs (fun v' m'=>v'=av/\m'=⟨out,cx.base,mtok,nt0⟩) ⟨tl l,lb cx.base out loc,tok,nt⟩ :=
 Fin.data hres Hb ho hm Ht pk hto
end
theorem sW{i:Nat}(h:i<9223372036854775807):IntKind.i64.wrap (↑i+1)=((i+1:Nat):Int):=by rw[aM (by omega) (by omega)];rfl
theorem sB{f:FuncId}{fn:Func}{c:Code}{args:List AV}{m:bH}{Q:AV->bH->Prop}{k:Nat}(ue:prog.funcs[f]?=some fn)(hk:fn.ntmps=k)(h:lb m.nb m.box []=m.box->(∀t,m.tok t=true->t<m.nt)->AT prog ⟨m.nb,m.nb+fn.ntmps,fn.ntmps,m.box⟩ m.nt c ⟨tl (jJ 0 args),lb m.nb m.box [],m.tok,m.nt⟩
   fun e S=>(e=.normal∨e=.ret)/\Fin prog ⟨m.nb,m.nb+fn.ntmps,fn.ntmps,m.box⟩ m.nt fn.results.toList Q S)(hb:fn.body=some c:=by rfl)(q9:(fn.name == "runtime.NumGoroutine")=false:=by kernel_rfl)(hl:args.length<=k:=by simp):aD prog f args m Q :=
 aD.of_body ue hb q9 bS rfl (hk ▸ hl) h
theorem sI{f:FuncId}{fn:Func}{c:Code}{args:List AV}{box:Nat->Option (List (List AV))}{nb:Nat}{tok:Nat->Bool}{nt:Nat}{Q:AV->bH->Prop}{k:Nat}(ue:prog.funcs[f]?=some fn)(hk:fn.ntmps=k)(h:lb nb box []=box->(∀t,tok t=true->t<nt)->AL prog ⟨nb,nb+k,k,box⟩ nt (fun e S=>(e=.normal∨e=.ret)/\Fin prog ⟨nb,nb+k,k,box⟩ nt fn.results.toList Q S) [.c c] ⟨tl (jJ 0 args),lb nb box [],tok,nt⟩)(hb:fn.body=some c:=by rfl)(q9:(fn.name == "runtime.NumGoroutine")=false:=by kernel_rfl)(hl:args.length<=k:=by simp):aD prog f args ⟨box,nb,tok,nt⟩ Q:=by
 subst hk;exact sB (m:=⟨box,nb,tok,nt⟩) ue rfl (fun h1 h2=>AL.start (h h1 h2)) hb q9 hl
theorem sG{P:Program}{cx:Cx}{nt0:Nat}{rs:List ResultVar}{l:List (Nat × AV)}{out:Nat->Option (List (List AV))}{loc:List (Nat × List (List AV))}{tok mtok:Nat->Bool}{vs:List AV}{av:AV}{nt:Nat}(Hb:lb cx.base out []=out)(hm:∀t,mtok t=true->t<nt0)(Ht:∀t,mtok t=true->tok t=true)(pk:nt0<=nt)(hto:To (fun k=>lb cx.base out [] k≠none) (fun t=>nt0=nt∨t<nt0) none (rO vs) av)(hres:aP P ⟨tl l,lb cx.base out loc,tok,nt⟩ rs=some vs:=by (simp[aP,bI];rfl))(ho:out=cx.B0:=by rfl):
 (Exit.ret=Exit.normal∨Exit.ret=Exit.ret)/\Fin P cx nt0 rs (fun v' m'=>v'=av/\m'=⟨out,cx.base,mtok,nt0⟩) ⟨tl l,lb cx.base out loc,tok,nt⟩:=⟨.inr rfl,sF Hb hm Ht pk hto hres ho⟩
theorem sH{P:Program}{cx:Cx}{nt0:Nat}{rs:List ResultVar}{l:List (Nat × AV)}{out:Nat->Option (List (List AV))}{loc:List (Nat × List (List AV))}{tok:Nat->Bool}{vs:List AV}{av:AV}(hto:To (fun k=>lb cx.base out [] k≠none) (fun t=>nt0=nt0∨t<nt0) none (rO vs) av)(Hb:lb cx.base out []=out:=by assumption)(hm:∀t,tok t=true->t<nt0:=by assumption)(hres:aP P ⟨tl l,lb cx.base out loc,tok,nt0⟩ rs=some vs:=by (simp[aP,bI];rfl))(ho:out=cx.B0:=by rfl):
 (Exit.ret=Exit.normal∨Exit.ret=Exit.ret)/\Fin P cx nt0 rs (fun v' m'=>v'=av/\m'=⟨out,cx.base,tok,nt0⟩) ⟨tl l,lb cx.base out loc,tok,nt0⟩:=sG Hb hm (fun _ h=>h) (nr0 _) hto hres ho
theorem wkA{cx:Cx}{nt0 nt:Nat}{l l':List (Nat × AV)}{out:Nat->Option (List (List AV))}{loc loc':List (Nat × List (List AV))}{tok:Nat->Bool}(hl:ToL (fun k=>lb cx.base out loc' k≠none) (fun _=>True) none l l':=by simp[ToL,lk,aQ])(hb:aC (fun k=>lb cx.base out loc' k≠none) (fun _=>True) none loc loc':=by simp[aC,lk])(pk:nt0<=nt:=by exact nr0 _)(ho:out=cx.B0:=by rfl):aS cx nt0 ⟨tl l,lb cx.base out loc,tok,nt⟩ ⟨tl l',lb cx.base out loc',tok,nt⟩:=wM pk ho hl hb
def bA(n most:Int):Bool:=decide (0<=n)&&decide (n<=most)
def dW(e:E)(nodes:Int):Bool:=bA e.ty 99&&(bA e.fr (nodes-1)&&bA e.to (nodes-1))
theorem rR(n most:Int):DC 224 [I n,I most] (B (bA n most)):=by
 intro tok nt box nb;refine sI func224 ntmps224 fun Hb Ht=>?_
 refine sR ?_;simp;refine sR ?_;simp;first|refine Gd.dt (fun h=>?_) (fun h=>?_)|refine Gd.df (fun h=>?_) (fun h=>?_)|refine Gd.t (fun h=>?_) (fun h=>?_)|refine Gd.f (fun h=>?_) (fun h=>?_)
 .simp[h];refine sT (sH ?_);simp[bA,h]
 .simp[h];refine sT (sH ?_);simp[bA,h]
theorem aNt(e:E)(nodes:Int)(h0:0<=nodes)(h1:nodes<=1000000):DC 226 [.agg [I e.ty,I e.fr,I e.to],I nodes] (B (dW e nodes)):=by
 intro tok nt box nb;have hw:IntKind.i64.wrap (nodes-1)=nodes-1:=aM (by omega) (by omega)
 refine sI func226 ntmps226 fun Hb Ht=>?_
 refine sR ?_;simp;refine sR ?_;simp[hw];refine sD (rR _ _ _ _) ?_;simp[hw];first|refine Gd.dt (fun h2=>?_) (fun h2=>?_)|refine Gd.df (fun h2=>?_) (fun h2=>?_)|refine Gd.t (fun h2=>?_) (fun h2=>?_)|refine Gd.f (fun h2=>?_) (fun h2=>?_)
 .simp[hw,h2];refine sD (rR _ _ _ _) ?_;simp[hw,h2];first|refine Gd.dt (fun h3=>?_) (fun h3=>?_)|refine Gd.df (fun h3=>?_) (fun h3=>?_)|refine Gd.t (fun h3=>?_) (fun h3=>?_)|refine Gd.f (fun h3=>?_) (fun h3=>?_)
  .simp[hw,h3];refine sD (rR _ _ _ _) ?_;simp[hw,h2,h3];refine sT (sH ?_);simp[dW,h2,h3]
  .simp[h3];refine sT (sH ?_);simp[dW,h2,h3]
 .simp[h2];refine sT (sH ?_);simp[dW,h2]
theorem aIf(n:Int):DC 223 [I n] (B (!bA n 99)):=by
 intro tok nt box nb;refine sI func223 ntmps223 fun Hb Ht=>?_
 refine sR ?_;simp;refine sR ?_;simp;refine sD (rR _ _ _ _) ?_;simp;refine sT (sH ?_);simp
theorem aH8(e:E)(g:Gr)(hg:g.nodes.length<=1000000)(tok:Tks)(nt:Nat)(box:Bxs)(nb k:Nat)(hk:box k=some [[.d (ints g.nodes),.d (AM.edges g.edges)]]):
  aD prog 225 [.agg [I e.ty,I e.fr,I e.to],.ptr k 0 0] ⟨box,nb,tok,nt⟩ fun v m=>v=B (!dW e g.nodes.length)/\m=⟨box,nb,tok,nt⟩:=by
 refine sI func225 ntmps225 fun Hb Ht=>?_
 have g9:=bC Hb hk;refine sR ?_;simp;refine sR ?_;simp[lO g9,hk];refine sD (aNt e g.nodes.length (by omega) (by omega) _ _) ?_;simp;refine sT (sH ?_);simp
variable {P:Program}
def aFm(p q:Nat->Prop)(fz:Option (Nat × Nat × List (List D)))(r r':List AV):Prop :=
 r.length=r'.length/\∀j (g1:j<r.length) (g2:j<r'.length),To p q fz r[j] r'[j]
section
variable {p q:Nat->Prop} {fz:Option (Nat × Nat × List (List D))}
@[simp] theorem aOh:aFm p q fz [] []:=⟨rfl,fun j h=>by simp at h⟩
@[simp] theorem aNN{x y:AV}{xs ys:List AV}:aFm p q fz (x::xs) (y::ys)↔To p q fz x y/\aFm p q fz xs ys:=by
 constructor
 .rintro⟨h1,h2⟩;refine⟨h2 0 (by simp) (by simp),by simpa using h1,fun j g1 g2=>?_⟩;exact h2 (j+1) (by simpa using g1) (by simpa using g2)
 .rintro⟨h1,h2,h3⟩;refine⟨by simp[h2],fun j g1 g2=>?_⟩;cases j with
  | zero=>exact h1
  | succ j=>exact h3 j (by simpa using g1) (by simpa using g2)
@[simp] theorem aNd:gN p q fz [] []:=⟨rfl,fun j h=>by simp at h⟩
@[simp] theorem aMm{x y:List AV}{xs ys:List (List AV)}:gN p q fz (x::xs) (y::ys)↔aFm p q fz x y/\gN p q fz xs ys:=by
 constructor
 .rintro⟨h1,h2⟩;refine⟨h2 0 (by simp) (by simp),by simpa using h1,fun j g1 g2=>?_⟩;exact h2 (j+1) (by simpa using g1) (by simpa using g2)
 .rintro⟨h1,h2,h3⟩;refine⟨by simp[h2],fun j g1 g2=>?_⟩;cases j with
  | zero=>exact h1
  | succ j=>exact h3 j (by simpa using g1) (by simpa using g2)
theorem mZ{rows:List (List AV)}(h:∀r∈rows,∀x∈r,bF p q x):gN p q fz rows rows :=
 ⟨rfl,fun i h1 h2=>⟨rfl,fun j g1 g2=>.same (h _ (aa _) _ (aa _))⟩⟩
end
def cI(es:List (List D)):List (List AV):=es.map fun e=>e.map AV.d
@[simp] theorem aK8(es:List (List D)):(cI es).length=es.length:=by simp[cI]
@[simp] theorem aN8{es:List (List D)}{i:Nat}(h:i<es.length):(cI es)[i]?=some ((es[i]).map AV.d):=by simp[cI,h]
@[simp] theorem aPe{p q:Nat->Prop}{fz:Option (Nat × Nat × List (List D))}(es:List (List D)):gN p q fz (cI es) (cI es):=by
 refine mZ fun r hr x hx=>?_
 obtain⟨e,_,rfl⟩:=bc.1 hr;obtain⟨d,_,rfl⟩:=bc.1 hx;exact .d
abbrev rI(xs:List Int):List (List D):=xs.map fun n=>[D.raw (.int .i64 n)]
abbrev rE(es:List E):List (List D):=es.map E.cells
def dL(xs:List Int):List (List AV):=xs.map fun n=>[AV.d (.raw (.int .i64 n))]
def kY(xs:List E):List (List AV):=xs.map fun e=>[AV.d (.raw (.int .i64 e.ty)),AV.d (.raw (.int .i64 e.fr)),AV.d (.raw (.int .i64 e.to))]
theorem rA(xs:List Int):dL xs=cI (rI xs):=by simp[dL,cI,rI]
theorem aJx(xs:List E):kY xs=cI (rE xs):=by simp[kY,cI,rE,E.cells]
@[simp] theorem aSF(n:Nat):List.replicate n [AV.d (.raw (.int .i64 0))]=dL (List.replicate n 0):=by simp[dL]
@[simp] theorem aSz(n:Nat):List.replicate n [AV.d (.raw (.int .i64 0)),AV.d (.raw (.int .i64 0)),AV.d (.raw (.int .i64 0))]=kY (List.replicate n ⟨0,0,0⟩):=by simp[kY]
@[simp] theorem aSA(xs:List Int)(i:Nat)(v:Int):(dL xs).set i [AV.d (.raw (.int .i64 v))]=dL (xs.set i v):=by simp[dL,List.map_set]
@[simp] theorem aSG(xs:List E)(i:Nat)(a b c:Int):(kY xs).set i [AV.d (.raw (.int .i64 a)),AV.d (.raw (.int .i64 b)),AV.d (.raw (.int .i64 c))]=kY (xs.set i ⟨a,b,c⟩):=by simp[kY,List.map_set]
@[simp] theorem aKk(xs:List Int):(dL xs).length=xs.length:=by simp[dL]
@[simp] theorem aLH(xs:List E):(kY xs).length=xs.length:=by simp[kY]
@[simp high] theorem aOe{xs:List Int}{i:Nat}(h:i<xs.length):(dL xs)[i]?=some [AV.d (.raw (.int .i64 xs[i]))]:=by simp[dL,h]
@[simp high] theorem aN7{xs:List E}{i:Nat}(h:i<xs.length):(kY xs)[i]?=some [AV.d (.raw (.int .i64 xs[i].ty)),AV.d (.raw (.int .i64 xs[i].fr)),AV.d (.raw (.int .i64 xs[i].to))]:=by simp[kY,h]
@[simp] theorem aQA{p q:Nat->Prop}{fz:Option (Nat × Nat × List (List D))}(xs:List Int):gN p q fz (dL xs) (dL xs):=by rw[rA];simp
@[simp] theorem aPU{p q:Nat->Prop}{fz:Option (Nat × Nat × List (List D))}(xs:List E):gN p q fz (kY xs) (kY xs):=by rw[aJx];simp
theorem vY:∀(e:List D),zS (e.map AV.d)=some e
 | []=>rfl
 | d::e=>by simp[zS,AV.toD,vY e]
theorem aS.frz{cx:Cx}{nt0 nt:Nat}{l l':List (Nat × AV)}{out:Bxs}{loc loc':List (Nat × List (List AV))}{tok:Nat->Bool}(s sz:Nat)(es:List (List D))(pk:nt0<=nt)(ho:out=cx.B0)(hs:lk loc s=some (cI es))(pw:lk loc' s=none)(hsz:∀e∈es,e.length=sz)(hl:ToL (fun k=>lb cx.base out loc' k≠none) (fun _=>True) (some (cx.base+s,sz,es)) l l')(hb:aC (fun k=>lb cx.base out loc' k≠none) (fun _=>True) (some (cx.base+s,sz,es)) loc loc'):
  aS cx nt0 ⟨tl l,lb cx.base out loc,tok,nt⟩ ⟨tl l',lb cx.base out loc',tok,nt⟩:=by
 refine⟨out,loc,loc',some (s,sz,es),rfl,rfl,nr0 _,pk,fun t h=>⟨h,.inl rfl⟩,?_,?_,?_,?_⟩
 .simp only[true_or,dc];exact hl.all
 .simp only[true_or,dc];exact hb.all
 .rintro s' sz' es' h;cases h;refine⟨pw,cI es,hs,by simp,?_,?_⟩
  .intro r hr;obtain⟨e,he,rfl⟩:=bc.1 hr;simpa using hsz e he
  .intro i h1 h2;have:(cI es)[i]=(es[i]).map AV.d:=by simp[cI]
   rw[this];exact vY _
 .intro k rows _ h;exact .inl (by rw[<-ho];exact h)
@[simp] theorem aSW{p q:Nat->Prop}{k n sz:Nat}{es:List (List D)}(h:n=es.length):To p q (some (k,sz,es)) (.msl k 0 n sz) (.d (.sl sz es)):=by
 subst h;exact .frz rfl
theorem Fin.gen{cx:Cx}{nt0 nt nt':Nat}{rs:List ResultVar}{l:List (Nat × AV)}{out:Bxs}{loc:List (Nat × List (List AV))}{tok tok':Nat->Bool}{vs:List AV}{av:AV}(hres:aP P ⟨tl l,lb cx.base out loc,tok,nt⟩ rs=some vs)(Hb:lb cx.base out []=out)(h0:nt0<=nt')(pk:nt'<=nt)(Ht:∀t,tok' t=true->tok t=true/\(nt'=nt∨t<nt'))(ho:∀k rows,k<cx.base->out k=some rows->cx.B0 k=some rows∨∀r∈rows,∀x∈r,bF (fun k=>lb cx.base out [] k≠none) (fun t=>nt'=nt∨t<nt') x)(hto:To (fun k=>lb cx.base out [] k≠none) (fun t=>nt'=nt∨t<nt') none (rO vs) av):Fin P cx nt0 rs (fun v' m'=>v'=av/\m'=⟨out,cx.base,tok',nt'⟩) ⟨tl l,lb cx.base out loc,tok,nt⟩ :=
 ⟨vs,out,loc,none,av,⟨out,cx.base,tok',nt'⟩,hres,⟨rfl,rfl,pk,h0,Ht,fun _=>.bot,fun s rows' h=>by simp[lk] at h,(fun _ _ _ h=>by cases h),
  ho⟩,Hb.symm,rfl,by simpa using hto,rfl,rfl⟩
theorem Fin.own{cx:Cx}{nt0 nt:Nat}{rs:List ResultVar}{l:List (Nat × AV)}{out:Bxs}{loc:List (Nat × List (List AV))}{tok:Nat->Bool}{vs:List AV}{av:AV}(hres:aP P ⟨tl l,lb cx.base out loc,tok,nt⟩ rs=some vs)(Hb:lb cx.base out []=out)(ho:out=cx.B0)(pk:nt0<=nt)(hto:To (fun k=>lb cx.base out [] k≠none) (fun _=>True) none (rO vs) av):Fin P cx nt0 rs (fun v' m'=>v'=av/\m'=⟨out,cx.base,tok,nt⟩) ⟨tl l,lb cx.base out loc,tok,nt⟩ :=
 Fin.gen hres Hb pk (nr0 _) (fun t h=>⟨h,.inl rfl⟩) (fun k rows _ h=>.inl (by rw[<-ho];exact h)) (by simpa using hto)
theorem Ext.lb{box box':Bxs}{nb:Nat}(h:Ext box box')(hb:lb nb box' []=box')(loc:List (Nat × List (List AV))):Ext box (AM.lb nb box' loc):=fun k r hk=>by
 have h1:=h k r hk;rw[lO (bC hb h1)];exact h1
theorem bF.mono{p p' q q':Nat->Prop}(hp:∀k,p k->p' k)(hq:∀k,q k->q' k){x:AV}(h:bF p q x):bF p' q' x:=by
 induction h with
 | bot=>exact .bot
 | d=>exact .d
 | osl h=>exact .osl fun t e=>hq _ (h t e)
 | cptr=>exact .cptr
 | ptr h=>exact .ptr (hp _ h)
 | here h=>exact .here (hp _ h)
 | buf h=>exact .buf (hq _ h)
 | msl h=>exact .msl (hp _ h)
 | fn h ih=>exact .fn ih
 | agg h ih=>exact .agg ih
 | tup h ih=>exact .tup ih
 | ex h=>exact .ex (hq _ h)
 | stk h=>exact .stk (hq _ h)
 | que h=>exact .que (hq _ h)
 | mp h hs=>exact .mp (hq _ h) fun e he t ht=>hq _ (hs e he t ht)
 | mpd=>exact .mpd
theorem lI{box:Bxs}{nb:Nat}{caps:List AV}(h:∀c∈caps,bF (fun k=>box k≠none) (fun _=>True) c)(hb:lb nb box []=box)(loc:List (Nat × List (List AV))){p q:Nat->Prop}(hp:p=fun k=>lb nb box loc k≠none)(hq:q=fun _=>True)(f:Fn):bF p q (.fn f caps):=by
 subst hp;subst hq;refine .fn fun c hc=>(h c hc).mono (fun k hk=>?_) fun _ h=>h
 obtain⟨r,hr⟩:=Option.ne_none_iff_exists'.1 hk;rw[lO (bC hb hr),hr];simp
theorem Fin.mono{cx:Cx}{nt0:Nat}{rs:List ResultVar}{Q Q':AV->bH->Prop}{S:AS}(h:Fin P cx nt0 rs Q S)(hq:∀v m,Q v m->Q' v m):Fin P cx nt0 rs Q' S:=by
 obtain⟨vs,out,loc,fz,av,m',h1,h2,h3,h4,h5,h6⟩:=h;exact⟨vs,out,loc,fz,av,m',h1,h2,h3,h4,h5,hq _ _ h6⟩
def Conv(v:AV)(m:bH)(v':AV)(m':bH):Prop:=m'.nb=m.nb/\m'.box=m.box/\∀G w u,aV G m w->RV G w v u->∃G',aV G' m' w/\RV G' w v' u/\Le G w G' w/\∀k,G.bx k=none->G'.bx k=none
theorem Conv.refl(v:AV)(m:bH):Conv v m v m:=⟨rfl,rfl,fun G w u h1 h2=>⟨G,h1,h2,Le.refl G w,fun _ h=>h⟩⟩
theorem Conv.newtok(sz sz':Nat)(box:Bxs)(nb:Nat)(tok:Tks)(nt:Nat):Conv (.osl sz [] .full) ⟨box,nb,tok,nt⟩ (.osl sz' [] (.tok nt)) ⟨box,nb,upd tok nt true,nt+1⟩:=by
 refine⟨rfl,rfl,fun G w u hm hv=>⟨G.newtok none,hm.newtok none (fun g h=>by cases h),?_,Le.newtok none,fun k h=>h⟩⟩;have pk:G.nt=nt:=hm.nt
 cases hv with
 | osl h ho =>
  cases h with
  | sl u i8 i9 hsz hA hc hr =>
   refine .osl (.sl (fun _ _=>default) i8 i9 (by simp) (by simp) (fun a _ i j hi _=>by simp at hi) (fun i j hi _=>by simp at hi)) ⟨by simp[Gh.newtok,pk],fun x hx=>?_⟩;simp only[Gh.newtok,pk,uS,ad] at hx;subst hx;exact ho.imp fun _ h=>h.1
theorem aD.conv{f:FuncId}{args:List AV}{m:bH}{Q Q':AV->bH->Prop}(h:aD P f args m Q)(hq:∀v m1,Q v m1->∃v' m',Conv v m1 v' m'/\Q' v' m'):aD P f args m Q' :=
 ⟨h.1,fun G w vals hm hr=>(h.2 G w vals hm hr).mono fun e w' ⟨v,av,m1,G1,h1,h2,h3,h4,h5,h6,h7⟩=>by
  obtain⟨v',m',⟨c1,c2,c3⟩,BG⟩:=hq _ _ h2;obtain⟨G2,k1,k2,k3,k4⟩:=c3 G1 w' v h4 h5;exact⟨v,v',m',G2,h1,BG,c1.trans h3,k1,k2,h6.trans k3,fun k hk=>⟨k4 k (h7 k hk).1,by rw[c2];exact(h7 k hk).2⟩⟩⟩
theorem TK.perm{mtok:Nat->Bool}{nt0:Nat}{tok:Nat->Bool}{nt:Nat}{os os':List Own}(h:TK mtok nt0 tok nt os)(hp:os.Perm os'):TK mtok nt0 tok nt os' :=
 ⟨h.old,h.lt,h.le,fun o ho=>h.own o (hp.mem_iff.2 ho),(List.Perm.pairwise_iff (fun {a b} sg t e e'=>sg t e' e) hp).1 h.ne⟩
theorem TK.pick3{mtok:Nat->Bool}{nt0:Nat}{tok:Nat->Bool}{nt:Nat}{a b c:Own}{os:List Own}(h:TK mtok nt0 tok nt (a::b::c::os)):TK mtok nt0 tok nt (c::a::b::os) :=
 h.perm (((List.Perm.swap c b os).cons a).trans (List.Perm.swap c a (b::os)))
theorem TK.put3{mtok:Nat->Bool}{nt0:Nat}{tok:Nat->Bool}{nt:Nat}{a b c:Own}{os:List Own}(h:TK mtok nt0 tok nt (c::a::b::os)):TK mtok nt0 tok nt (a::b::c::os) :=
 h.perm (((List.Perm.swap c b os).cons a).trans (List.Perm.swap c a (b::os))).symm
attribute [simp] pS aFz
theorem gT(xs:List Int)(hx:xs.length<=1000000)(tok:Tks)(nt:Nat):cZ prog 83 [.d (ints xs)] tok nt (.osl 1 (rI xs) (.tok nt)) (upd tok nt true) (nt+1):=by
 intro box nb;have main:aD prog 83 [.d (ints xs)] ⟨box,nb,tok,nt⟩ fun v m=>(v=.osl 1 (rI xs) (.tok nt)/\m=⟨box,nb,upd tok nt true,nt+1⟩)∨(xs=[]/\v=.osl 0 [] .full/\m=⟨box,nb,tok,nt⟩):=by
  refine sI func83 ntmps83 fun Hb Ht=>?_
  refine sR ?_;simp;refine sR ?_;simp;refine⟨?_,fun h=>?_⟩
  .apply sC;simp;refine sR ?_;simp;refine⟨by omega,?_⟩;apply sN;refine AL.ret ?_;try simp only[AU]
   refine⟨by simp,(Fin.own (by simp[aP,bI];rfl) Hb rfl (by simp) ?_).mono fun v m hq=>.inl hq⟩;simp
  .apply sC;simp;refine sR ?_;simp;apply sN;refine AL.ret ?_;try simp only[AU]
   refine⟨by simp,(Fin.own (by simp[aP,bI];rfl) Hb rfl (nr0 _) ?_).mono fun v m hq=>.inr ⟨h,hq.1,hq.2⟩⟩;simp
 refine main.conv fun v m h=>?_
 rcases h with ⟨rfl,rfl⟩|⟨rfl,rfl,rfl⟩
 .exact⟨_,_,Conv.refl _ _,rfl,rfl⟩
 .exact⟨_,_,Conv.newtok 0 1 box nb tok nt,rfl,rfl⟩
theorem aDg(xs:List E)(hx:xs.length<=1000000)(tok:Tks)(nt:Nat):cZ prog 84 [.d (AM.edges xs)] tok nt (.osl 3 (rE xs) (.tok nt)) (upd tok nt true) (nt+1):=by
 intro box nb;have main:aD prog 84 [.d (AM.edges xs)] ⟨box,nb,tok,nt⟩ fun v m=>(v=.osl 3 (rE xs) (.tok nt)/\m=⟨box,nb,upd tok nt true,nt+1⟩)∨(xs=[]/\v=.osl 0 [] .full/\m=⟨box,nb,tok,nt⟩):=by
  refine sI func84 ntmps84 fun Hb Ht=>?_
  refine sR ?_;simp;refine sR ?_;simp;refine⟨?_,fun h=>?_⟩
  .apply sC;simp;refine sR ?_;simp;refine⟨by omega,?_⟩;apply sN;refine AL.ret ?_;try simp only[AU]
   refine⟨by simp,(Fin.own (by simp[aP,bI];rfl) Hb rfl (by simp) ?_).mono fun v m hq=>.inl hq⟩;simp
  .apply sC;simp;refine sR ?_;simp;apply sN;refine AL.ret ?_;try simp only[AU]
   refine⟨by simp,(Fin.own (by simp[aP,bI];rfl) Hb rfl (nr0 _) ?_).mono fun v m hq=>.inr ⟨h,hq.1,hq.2⟩⟩;simp
 refine main.conv fun v m h=>?_
 rcases h with ⟨rfl,rfl⟩|⟨rfl,rfl,rfl⟩
 .exact⟨_,_,Conv.refl _ _,rfl,rfl⟩
 .exact⟨_,_,Conv.newtok 0 3 box nb tok nt,rfl,rfl⟩
def aU(xs:List Int)(v:Int):Int:=if v∈xs then (xs.idxOf v:Int) else -1
def aQV(xs:List Int)(v:Int)(nb:Nat)(box:Bxs)(tok:Tks)(nt:Nat)(i:Nat):AS:=⟨tl [(0,.d (ints xs)),(1,I v),(7,I xs.length),(8,I i)],lb nb box [],tok,nt⟩
theorem aGk(xs:List Int)(v:Int)(hx:xs.length<=1000000):DC 70 [.d (ints xs),I v] (I (aU xs v)):=by
 intro tok nt box nb;refine sI func70 ntmps70 fun Hb Ht=>?_
 refine sR ?_;simp;refine sR ?_;simp;apply sN;refine sL (aQV xs v nb box tok nt) (fun i=>i<=xs.length/\v∉xs.take i) (fun i=>xs.length-i) 0 ⟨ai _,by simp⟩ (wM (nr0 _) rfl (by simp[ToL]) trivial) ?_;rintro i S ⟨hi,htk⟩ hS;simp only[aQV] at hS;subst hS;have hw:=sW (i:=i) (by omega);refine sR ?_;simp;apply sC;simp;refine⟨fun hlt=>?_,fun hge=>?_⟩
 .have qf:xs=xs.take i++xs[i]::xs.drop (i+1):=by simp
  refine sR ?_;simp;refine sR ?_;simp[hlt];apply sC;simp;refine⟨fun he=>?_,fun hne=>?_⟩
  .refine sR ?_;simp;have jg:v∈xs:=by rw[he];exact aa _
   have y8:xs.idxOf v=i:=by
    unfold List.idxOf;rw[gc hlt];refine⟨by simp[he],fun j hj=>?_⟩;have:xs[j]≠v:=fun e=>htk (by rw[<-e,cc];exact⟨j,by omega,rfl⟩)
    simpa using this
   refine sT (sH ?_);simp[aU,jg,y8]
  .refine sR ?_;simp[hw];apply sE;refine⟨i+1,⟨hlt,?_⟩,by omega,wM (nr0 _) rfl (by simp[ToL]) trivial⟩;rw[ah hlt];simp only[ap,a7,not_or];exact⟨htk,hne⟩
 .apply sX;simp only[AU,↓reduceIte];refine sR ?_;simp;have hn:v∉xs:=by rwa [ak hge] at htk
  refine sT (sH ?_);simp[aU,hn]
theorem pL(xs:List Int)(v:Int):(0<=aU xs v)↔v∈xs:=by
 unfold aU;split<;>simp[*]
theorem bQ(xs:List Int)(v:Int)(hx:xs.length<=1000000):DC 173 [.d (ints xs),I v] (B (decide (v∈xs))):=by
 intro tok nt box nb;refine sI func173 ntmps173 fun Hb Ht=>?_
 refine sR ?_;simp;refine sR ?_;simp;refine sD (aGk xs v hx _ _) ?_;simp;refine sT (sH ?_);simp[pL]
def fQ{α:Type}(p:α->Bool)(xs:List α):Int:=if xs.any p then (xs.findIdx p:Int) else -1
def bB{α:Type}(p:α->Bool)(xs:List α):Bool:=xs.any p
theorem rS{α:Type}(p:α->Bool)(xs:List α):(0<=fQ p xs)↔xs.any p=true:=by
 unfold fQ;split<;>simp[*]
theorem vX{α:Type}{p:α->Bool}{xs:List α}{i:Nat}(h:i<xs.length)(h1:∀x∈xs.take i,p x=false)(h2:p xs[i]=true):xs.any p=true/\xs.findIdx p=i:=by
 have j7:xs.any p=true:=dy.2 ⟨_,aa h,h2⟩
 refine⟨j7,?_⟩;rw[gc h];refine⟨h2,fun j hj=>?_⟩;have:=h1 xs[j] (by
  rw[cc];exact⟨j,by omega,rfl⟩)
 simpa using this
def aOQ(xs:List Int)(f:FuncId)(caps:List AV)(nb:Nat)(box:Bxs)(tok:Tks)(nt:Nat)(i:Nat):AS:=⟨tl [(0,.d (ints xs)),(1,.fn (.func f) caps),(7,I xs.length),(8,I i)],lb nb box [],tok,nt⟩
theorem aDP(xs:List Int)(f:FuncId)(caps:List AV)(p:Int->Bool)(hx:xs.length<=1000000)(box:Bxs)(nb:Nat)(tok:Tks)(nt:Nat)(hc:∀c∈caps,bF (fun k=>box k≠none) (fun _=>True) c)(hf:∀x∈xs,∀box' nb',Ext box box'->aD prog f (I x::caps) ⟨box',nb',tok,nt⟩ fun v m=>v=B (p x)/\m=⟨box',nb',tok,nt⟩):
  aD prog 273 [.d (ints xs),.fn (.func f) caps] ⟨box,nb,tok,nt⟩ fun v m=>v=I (fQ p xs)/\m=⟨box,nb,tok,nt⟩:=by
 refine sI func273 ntmps273 fun Hb Ht=>?_
 refine sR ?_;simp;refine sR ?_;simp;apply sN;refine sL (aOQ xs f caps nb box tok nt) (fun i=>i<=xs.length/\∀x∈xs.take i,p x=false) (fun i=>xs.length-i) 0 ⟨ai _,by simp⟩ (wM (nr0 _) rfl (by simp[ToL];exact .same (lI hc Hb [] (by simp) rfl _)) trivial) ?_;rintro i S ⟨hi,htk⟩ hS;simp only[aOQ] at hS;subst hS;have hw:=sW (i:=i) (by omega);refine sR ?_;simp;apply sC;simp;refine⟨fun hlt=>?_,fun hge=>?_⟩
 .refine sR ?_;simp;refine sR ?_;simp[hlt];refine aN.of_b (hf xs[i] (aa _) _ _ ((Ext.refl box).lb Hb [])) ?_;simp;apply sC;simp;refine⟨fun he=>?_,fun hne=>?_⟩
  .refine sR ?_;simp;obtain⟨h1,h2⟩:=vX hlt htk he;refine sT (sH ?_);simp[fQ,h1,h2]
  .refine sR ?_;simp[hw];apply sE;refine⟨i+1,⟨hlt,?_⟩,by omega,wM (nr0 _) rfl (by simp[ToL];exact .same (lI hc Hb [] (by simp) rfl _)) trivial⟩;rw[ah hlt];intro x hx;rcases ap.1 hx with hx|hx
   .exact htk x hx
   .simp at hx;rw[hx];exact hne
 .apply sX;simp only[AU,↓reduceIte];refine sR ?_;simp;have hn:xs.any p=false:=by
   rw[ak hge] at htk;simpa using htk
  refine sT (sH ?_);simp[fQ,hn]
theorem iY(xs:List Int)(f:FuncId)(caps:List AV)(p:Int->Bool)(hx:xs.length<=1000000)(box:Bxs)(nb:Nat)(tok:Tks)(nt:Nat)(hc:∀c∈caps,bF (fun k=>box k≠none) (fun _=>True) c)(hf:∀x∈xs,∀box' nb',Ext box box'->aD prog f (I x::caps) ⟨box',nb',tok,nt⟩ fun v m=>v=B (p x)/\m=⟨box',nb',tok,nt⟩):
  aD prog 222 [.d (ints xs),.fn (.func f) caps] ⟨box,nb,tok,nt⟩ fun v m=>v=B (bB p xs)/\m=⟨box,nb,tok,nt⟩:=by
 refine sI func222 ntmps222 fun Hb Ht=>?_
 refine sR ?_;simp;refine sR ?_;simp;refine aN.of_b (aDP xs f caps p hx (lb nb box []) _ _ _ (fun c h=>(hc c h).mono (fun k hk=>by rw[Hb];exact hk) fun _ h=>h) (fun x qs box' nb' he=>hf x qs box' nb' (by rw[Hb] at he;exact he))) ?_;simp;have j7:decide (∃x,x∈xs/\p x=true)=bB p xs:=by rw[dp];simp[bB]
 refine sT (sH ?_);simp[rS,j7]
def aO3(xs:List E)(f:FuncId)(caps:List AV)(nb:Nat)(box:Bxs)(tok:Tks)(nt:Nat)(i:Nat):AS:=⟨tl [(0,.d (AM.edges xs)),(1,.fn (.func f) caps),(7,I xs.length),(8,I i)],lb nb box [],tok,nt⟩
theorem aBl(xs:List E)(f:FuncId)(caps:List AV)(p:E->Bool)(hx:xs.length<=1000000)(box:Bxs)(nb:Nat)(tok:Tks)(nt:Nat)(hc:∀c∈caps,bF (fun k=>box k≠none) (fun _=>True) c)(hf:∀x∈xs,∀box' nb',Ext box box'->aD prog f (.agg [I x.ty,I x.fr,I x.to]::caps) ⟨box',nb',tok,nt⟩ fun v m=>v=B (p x)/\m=⟨box',nb',tok,nt⟩):
  aD prog 246 [.d (AM.edges xs),.fn (.func f) caps] ⟨box,nb,tok,nt⟩ fun v m=>v=I (fQ p xs)/\m=⟨box,nb,tok,nt⟩:=by
 refine sI func246 ntmps246 fun Hb Ht=>?_
 refine sR ?_;simp;refine sR ?_;simp;apply sN;refine sL (aO3 xs f caps nb box tok nt) (fun i=>i<=xs.length/\∀x∈xs.take i,p x=false) (fun i=>xs.length-i) 0 ⟨ai _,by simp⟩ (wM (nr0 _) rfl (by simp[ToL];exact .same (lI hc Hb [] (by simp) rfl _)) trivial) ?_;rintro i S ⟨hi,htk⟩ hS;simp only[aO3] at hS;subst hS;have hw:=sW (i:=i) (by omega);refine sR ?_;simp;apply sC;simp;refine⟨fun hlt=>?_,fun hge=>?_⟩
 .refine sR ?_;simp;refine sR ?_;simp[hlt];refine aN.of_b (hf xs[i] (aa _) _ _ ((Ext.refl box).lb Hb [])) ?_;simp;apply sC;simp;refine⟨fun he=>?_,fun hne=>?_⟩
  .refine sR ?_;simp;obtain⟨h1,h2⟩:=vX hlt htk he;refine sT (sH ?_);simp[fQ,h1,h2]
  .refine sR ?_;simp[hw];apply sE;refine⟨i+1,⟨hlt,?_⟩,by omega,wM (nr0 _) rfl (by simp[ToL];exact .same (lI hc Hb [] (by simp) rfl _)) trivial⟩;rw[ah hlt];intro x hx;rcases ap.1 hx with hx|hx
   .exact htk x hx
   .simp at hx;rw[hx];exact hne
 .apply sX;simp only[AU,↓reduceIte];refine sR ?_;simp;have hn:xs.any p=false:=by
   rw[ak hge] at htk;simpa using htk
  refine sT (sH ?_);simp[fQ,hn]
theorem eW(xs:List E)(f:FuncId)(caps:List AV)(p:E->Bool)(hx:xs.length<=1000000)(box:Bxs)(nb:Nat)(tok:Tks)(nt:Nat)(hc:∀c∈caps,bF (fun k=>box k≠none) (fun _=>True) c)(hf:∀x∈xs,∀box' nb',Ext box box'->aD prog f (.agg [I x.ty,I x.fr,I x.to]::caps) ⟨box',nb',tok,nt⟩ fun v m=>v=B (p x)/\m=⟨box',nb',tok,nt⟩):
  aD prog 188 [.d (AM.edges xs),.fn (.func f) caps] ⟨box,nb,tok,nt⟩ fun v m=>v=B (bB p xs)/\m=⟨box,nb,tok,nt⟩:=by
 refine sI func188 ntmps188 fun Hb Ht=>?_
 refine sR ?_;simp;refine sR ?_;simp;refine aN.of_b (aBl xs f caps p hx (lb nb box []) _ _ _ (fun c h=>(hc c h).mono (fun k hk=>by rw[Hb];exact hk) fun _ h=>h) (fun x qs box' nb' he=>hf x qs box' nb' (by rw[Hb] at he;exact he))) ?_;simp;have j7:decide (∃x,x∈xs/\p x=true)=bB p xs:=by rw[dp];simp[bB]
 refine sT (sH ?_);simp[rS,j7]
def vG(g:Gr):Int:=if 40<g.nodes.length∨80<g.edges.length then 3 else if bB (fun n=>!bA n 99) g.nodes then 6 else if bB (fun e=>!dW e g.nodes.length) g.edges then 6 else 0
structure Gr.Fit (g:Gr):Prop where
 n:g.nodes.length<=1000000
 e:g.edges.length<=1000000
theorem bW(g:Gr)(hg:g.Fit):DC 174 [g.av] (I (vG g)):=by
 intro tok nt box nb;have hn:=hg.n;have he:=hg.e;refine sI func174 ntmps174 fun Hb Ht=>?_
 refine sR ?_;simp;refine sR ?_;simp;first|refine Gd.dt (fun h1=>?_) (fun h1=>?_)|refine Gd.df (fun h1=>?_) (fun h1=>?_)|refine Gd.t (fun h1=>?_) (fun h1=>?_)|refine Gd.f (fun h1=>?_) (fun h1=>?_)
 .simp[h1];apply sC;simp;refine sR ?_;simp;refine sT (sH ?_);simp[vG,show 40<g.nodes.length by omega]
 .simp[h1];apply sC;simp;refine⟨fun h2=>?_,fun h2=>?_⟩
  .refine sR ?_;simp;refine sT (sH ?_);simp[vG,show 80<g.edges.length by omega]
  .have xo:¬40<g.nodes.length:=by omega
   have xq:¬80<g.edges.length:=by omega
   refine sR ?_;simp;refine aN.of_b (iY g.nodes 223 [] (fun n=>!bA n 99) hn _ _ _ _ (by simp) (fun x _ box' nb' _=>aIf x _ _ box' nb')) ?_;simp;apply sC;simp;refine⟨fun h3=>?_,fun h3=>?_⟩
   .refine sR ?_;simp;refine sT (sH ?_);simp[vG,xo,xq,h3]
   .refine sR ?_;simp;refine aN.of_b (eW g.edges 225 [.ptr (nb+1) 0 0] (fun e=>!dW e g.nodes.length) he _ _ _ _ (by simp[aQ,lk]) (fun x _ box' nb' hx=>aH8 x g hn _ _ box' nb' (nb+1) (hx _ _ (by simp[aQ,lk])))) ?_;simp;apply sC;simp;refine⟨fun h4=>?_,fun h4=>?_⟩
    .refine sR ?_;simp;refine sT (sH ?_);simp[vG,xo,xq,h3,h4]
    .refine sR ?_;simp;refine sT (sH ?_);simp[vG,xo,xq,h3,h4]
theorem aKb(n:Int):DC 161 [I n] (B (bA n 99)):=by
 intro tok nt box nb;refine sI func161 ntmps161 fun Hb Ht=>?_
 refine sR ?_;simp;refine sR ?_;simp;first|refine Gd.dt (fun h=>?_) (fun h=>?_)|refine Gd.df (fun h=>?_) (fun h=>?_)|refine Gd.t (fun h=>?_) (fun h=>?_)|refine Gd.f (fun h=>?_) (fun h=>?_)
 .simp[h];refine sT (sH ?_);simp[bA,h]
 .simp[h];refine sT (sH ?_);simp[bA,h]
theorem aK2(e:E)(nodes:Int):DC 162 [.agg [I e.ty,I e.fr,I e.to],I nodes] (B (dW e nodes)):=by
 intro tok nt box nb;refine sI func162 ntmps162 fun Hb Ht=>?_
 refine sR ?_;simp;refine sR ?_;simp;refine sD (aKb _ _ _) ?_;simp;first|refine Gd.dt (fun h1=>?_) (fun h1=>?_)|refine Gd.df (fun h1=>?_) (fun h1=>?_)|refine Gd.t (fun h1=>?_) (fun h1=>?_)|refine Gd.f (fun h1=>?_) (fun h1=>?_)
 .simp[h1];first|refine Gd.dt (fun h2=>?_) (fun h2=>?_)|refine Gd.df (fun h2=>?_) (fun h2=>?_)|refine Gd.t (fun h2=>?_) (fun h2=>?_)|refine Gd.f (fun h2=>?_) (fun h2=>?_)
  .simp[h1,h2];first|refine Gd.dt (fun h3=>?_) (fun h3=>?_)|refine Gd.df (fun h3=>?_) (fun h3=>?_)|refine Gd.t (fun h3=>?_) (fun h3=>?_)|refine Gd.f (fun h3=>?_) (fun h3=>?_)
   .simp[h1,h2,h3];first|refine Gd.dt (fun h4=>?_) (fun h4=>?_)|refine Gd.df (fun h4=>?_) (fun h4=>?_)|refine Gd.t (fun h4=>?_) (fun h4=>?_)|refine Gd.f (fun h4=>?_) (fun h4=>?_)
    .simp[h1,h2,h3,h4];have k1:e.fr<=nodes-1:=by omega
     have k2:(e.to<nodes)↔(e.to<=nodes-1):=by omega
     refine sT (sH ?_);simp[dW,h1,h2,h3,h4,bA,k1,k2];simp[bA] at h1;simp[h1]
    .simp[h1,h2,h3,h4];refine sT (sH ?_);simp[dW,h1,h2,h3,h4,bA]
   .simp[h1,h2,h3];have k1:¬e.fr<=nodes-1:=by omega
    refine sT (sH ?_);simp[dW,h1,h2,h3,bA,k1]
  .simp[h1,h2];refine sT (sH ?_);simp[dW,h1,h2,bA]
 .simp[h1];refine sT (sH ?_);simp[dW,h1]
def aMh(g:Gr)(nb:Nat)(box:Bxs)(tok:Tks)(nt:Nat)(i:Nat):AS:=⟨tl [(1,.ptr (nb+1) 0 0),(3,I i)],lb nb box [(1,[[.d (ints g.nodes),.d (AM.edges g.edges)]])],tok,nt⟩
def aM4(g:Gr)(nb:Nat)(box:Bxs)(tok:Tks)(nt:Nat)(i:Nat):AS:=⟨tl [(1,.ptr (nb+1) 0 0),(4,I i)],lb nb box [(1,[[.d (ints g.nodes),.d (AM.edges g.edges)]])],tok,nt⟩
theorem aAp{α:Type}{p:α->Bool}{xs:List α}{i:Nat}(h:i<xs.length)(h2:p xs[i]=true):bB p xs=true:=dy.2 ⟨_,aa h,h2⟩
theorem aCE{α:Type}{p:α->Bool}{xs:List α}{i:Nat}(h:xs.length<=i)(h2:∀x∈xs.take i,p x=false):bB p xs=false:=by
 rw[ak h] at h2;exact d7.2 fun x hx=>by simp[h2 x hx]
theorem aAH{α:Type}{p:α->Bool}{xs:List α}{i:Nat}(h:i<xs.length)(h1:∀x∈xs.take i,p x=false)(h2:p xs[i]=false):∀x∈xs.take (i+1),p x=false:=by
 intro x hx;rw[ah h] at hx;rcases ap.1 hx with hx|hx
 .exact h1 x hx
 .simp at hx;rw[hx];exact h2
theorem dU(g:Gr)(hg:g.Fit):DC 103 [g.av] (I (vG g)):=by
 intro tok nt box nb;have hn:=hg.n;have he:=hg.e;refine sI func103 ntmps103 fun Hb Ht=>?_
 refine sR ?_;simp;refine sR ?_;simp;first|refine Gd.dt (fun h1=>?_) (fun h1=>?_)|refine Gd.df (fun h1=>?_) (fun h1=>?_)|refine Gd.t (fun h1=>?_) (fun h1=>?_)|refine Gd.f (fun h1=>?_) (fun h1=>?_)
 .simp[h1];apply sC;simp;refine sR ?_;simp;refine sT (sH ?_);simp[vG,show 40<g.nodes.length by omega]
 .simp[h1];apply sC;simp;refine⟨fun h2=>?_,fun h2=>?_⟩
  .refine sR ?_;simp;refine sT (sH ?_);simp[vG,show 80<g.edges.length by omega]
  .have xo:¬40<g.nodes.length:=by omega
   have xq:¬80<g.edges.length:=by omega
   refine sR ?_;simp;apply sN;refine sL (aMh g nb box tok nt) (fun i=>i<=g.nodes.length/\∀x∈g.nodes.take i,(!bA x 99)=false) (fun i=>g.nodes.length-i) 0 ⟨ai _,by simp⟩ wkA ?_;rintro i S ⟨hi,htk⟩ hS;simp only[aMh] at hS;subst hS;have hw:=sW (i:=i) (by omega);refine sR ?_;simp;apply sC;simp;refine⟨fun hlt=>?_,fun hge=>?_⟩
   .refine sR ?_;simp[hlt];refine sD (aKb _ _ _) ?_;simp;apply sC;simp;refine⟨fun hb=>?_,fun hb=>?_⟩
    .refine sR ?_;simp;have h3:bB (fun n=>!bA n 99) g.nodes=true:=aAp hlt (by simp[hb])
     refine sT (sH ?_);simp[vG,xo,xq,h3]
    .refine sR ?_;simp[hw];apply sE;refine⟨i+1,⟨hlt,?_⟩,by omega,wkA⟩;have:=aAH (p:=fun n=>!bA n 99) hlt (by simpa using htk) (by simp[hb])
     simpa using this
   .apply sX;simp only[AU,↓reduceIte];have h3:bB (fun n=>!bA n 99) g.nodes=false:=aCE hge (by simpa using htk)
    refine sR ?_;simp;apply sN;refine sL (aM4 g nb box tok nt) (fun i=>i<=g.edges.length/\∀x∈g.edges.take i,(!dW x g.nodes.length)=false) (fun i=>g.edges.length-i) 0 ⟨ai _,by simp⟩ wkA ?_;rintro i S ⟨hi,htk⟩ hS;simp only[aM4] at hS;subst hS;have hw:=sW (i:=i) (by omega);refine sR ?_;simp;apply sC;simp;refine⟨fun hlt=>?_,fun hge=>?_⟩
    .refine sR ?_;simp[hlt];refine sD (aK2 g.edges[i] _ _ _) ?_;simp;apply sC;simp;refine⟨fun hb=>?_,fun hb=>?_⟩
     .refine sR ?_;simp;have h4:bB (fun e=>!dW e g.nodes.length) g.edges=true:=aAp hlt (by simp[hb])
      refine sT (sH ?_);simp[vG,xo,xq,h3,h4]
     .refine sR ?_;simp[hw];apply sE;refine⟨i+1,⟨hlt,?_⟩,by omega,wkA⟩;have:=aAH (p:=fun e=>!dW e g.nodes.length) hlt (by simpa using htk) (by simp[hb])
      simpa using this
    .apply sX;simp only[AU,↓reduceIte];have h4:bB (fun e=>!dW e g.nodes.length) g.edges=false:=aCE hge (by simpa using htk)
     refine sR ?_;simp;refine sT (sH ?_);simp[vG,xo,xq,h3,h4]
def qN(g:Gr):Bool:=decide ((g.nodes.length:Int)<=45)&&decide ((g.edges.length:Int)<=90)
theorem vM(g:Gr):DC 54 [g.av] (B (qN g)):=by
 intro tok nt box nb;refine sI func54 ntmps54 fun Hb Ht=>?_
 refine sR ?_;simp;refine sR ?_;simp;first|refine Gd.dt (fun h1=>?_) (fun h1=>?_)|refine Gd.df (fun h1=>?_) (fun h1=>?_)|refine Gd.t (fun h1=>?_) (fun h1=>?_)|refine Gd.f (fun h1=>?_) (fun h1=>?_)
 .simp[h1];refine sT (sH ?_);simp[qN,h1]
 .simp[h1];refine sT (sH ?_);simp[qN,h1]
theorem sJ{g:Gr}(h:qN g=true):g.Fit:=by
 simp[qN] at h;exact⟨by omega,by omega⟩
structure Ov where
 g:Gr
 l:Mo
 r:Mo
 deriving DecidableEq,Inhabited
structure Qu where
 g:Gr
 o:Mo
 deriving DecidableEq,Inhabited
abbrev Ov.cells(o:Ov):List D:=[ints o.g.nodes,AM.edges o.g.edges,ints o.l.nodes,ints o.l.edges,ints o.r.nodes,ints o.r.edges]
abbrev Ov.av(o:Ov):AV:=.agg [.d (ints o.g.nodes),.d (AM.edges o.g.edges),.d (ints o.l.nodes),.d (ints o.l.edges),.d (ints o.r.nodes),.d (ints o.r.edges)]
abbrev ovs(l:List Ov):D:=.sl 6 (l.map Ov.cells)
abbrev Qu.cells(o:Qu):List D:=[ints o.g.nodes,AM.edges o.g.edges,ints o.o.nodes,ints o.o.edges]
abbrev Qu.av(o:Qu):AV:=.agg [.d (ints o.g.nodes),.d (AM.edges o.g.edges),.d (ints o.o.nodes),.d (ints o.o.edges)]
structure Mo.Fit (m:Mo):Prop where
 n:m.nodes.length<=1000000
 e:m.edges.length<=1000000
def aPc(xs ys:List Int)(nb:Nat)(box:Bxs)(tok:Tks)(nt:Nat)(i:Nat):AS:=⟨tl [(0,.d (ints xs)),(1,.d (ints ys)),(5,I i)],lb nb box [],tok,nt⟩
theorem rJ(xs ys:List Int)(hx:xs.length<=1000000):DC 93 [.d (ints xs),.d (ints ys)] (B (decide (xs=ys))):=by
 intro tok nt box nb;refine sI func93 ntmps93 fun Hb Ht=>?_
 refine sR ?_;simp;refine sR ?_;simp;apply sC;simp;refine⟨fun hne=>?_,fun he=>?_⟩
 .refine sR ?_;simp;have:¬xs=ys:=fun e=>hne (by rw[e])
  refine sT (sH ?_);simp[this]
 .refine sR ?_;simp;apply sN;refine sL (aPc xs ys nb box tok nt) (fun i=>i<=xs.length/\xs.take i=ys.take i) (fun i=>xs.length-i) 0 ⟨ai _,rfl⟩ (wM (nr0 _) rfl (by simp[ToL]) trivial) ?_;rintro i S ⟨hi,htk⟩ hS;simp only[aPc] at hS;subst hS;refine sR ?_;simp;apply sC;simp;have hw:=sW (i:=i) (by omega);refine⟨fun hlt=>?_,fun hge=>?_⟩
  .have x7:i<ys.length:=by omega
   refine sR ?_;simp[hlt,x7];apply sC;simp;refine⟨fun hne=>?_,fun mt=>?_⟩
   .refine sR ?_;simp;have:¬xs=ys:=fun e=>hne (by simp[e])
    refine sT (sH ?_);simp[this]
   .refine sR ?_;simp[hw];apply sE;refine⟨i+1,⟨hlt,?_⟩,by omega,wM (nr0 _) rfl (by simp[ToL]) trivial⟩;rw[ah hlt,ah x7,htk,mt]
  .apply sX;simp only[AU,↓reduceIte];refine sR ?_;simp;have:xs=ys:=by
    rw[ak hge,ak (by omega)] at htk;exact htk
   refine sT (sH ?_);simp[this]
def aPx(xs ys:List Int)(nb:Nat)(box:Bxs)(tok:Tks)(nt:Nat)(i:Nat):AS:=⟨tl [(0,.d (ints xs)),(1,.d (ints ys)),(5,I i)],lb nb box [],tok,nt⟩
theorem aBn(xs ys:List Int)(hx:xs.length<=1000000):DC 132 [.d (ints xs),.d (ints ys)] (B (decide (xs=ys))):=by
 intro tok nt box nb;refine sI func132 ntmps132 fun Hb Ht=>?_
 refine sR ?_;simp;refine sR ?_;simp;apply sC;simp;refine⟨fun hne=>?_,fun he=>?_⟩
 .refine sR ?_;simp;have:¬xs=ys:=fun e=>hne (by rw[e])
  refine sT (sH ?_);simp[this]
 .refine sR ?_;simp;apply sN;refine sL (aPx xs ys nb box tok nt) (fun i=>i<=xs.length/\xs.take i=ys.take i) (fun i=>xs.length-i) 0 ⟨ai _,rfl⟩ (wM (nr0 _) rfl (by simp[ToL]) trivial) ?_;rintro i S ⟨hi,htk⟩ hS;simp only[aPx] at hS;subst hS;refine sR ?_;simp;apply sC;simp;have hw:=sW (i:=i) (by omega);refine⟨fun hlt=>?_,fun hge=>?_⟩
  .have x7:i<ys.length:=by omega
   refine sR ?_;simp[hlt,x7];apply sC;simp;refine⟨fun hne=>?_,fun mt=>?_⟩
   .refine sR ?_;simp;have:¬xs=ys:=fun e=>hne (by simp[e])
    refine sT (sH ?_);simp[this]
   .refine sR ?_;simp[hw];apply sE;refine⟨i+1,⟨hlt,?_⟩,by omega,wM (nr0 _) rfl (by simp[ToL]) trivial⟩;rw[ah hlt,ah x7,htk,mt]
  .apply sX;simp only[AU,↓reduceIte];refine sR ?_;simp;have:xs=ys:=by
    rw[ak hge,ak (by omega)] at htk;exact htk
   refine sT (sH ?_);simp[this]
theorem aJd(a b:Mo)(ha:a.Fit):DC 52 [a.av,b.av] (B (decide (a=b))):=by
 intro tok nt box nb;refine sI func52 ntmps52 fun Hb Ht=>?_
 refine sR ?_;simp;refine sR ?_;simp;refine sD (rJ a.nodes b.nodes ha.n _ _) ?_;simp;have sg:a=b↔a.nodes=b.nodes/\a.edges=b.edges:=by cases a;cases b;simp
 first|refine Gd.dt (fun h1=>?_) (fun h1=>?_)|refine Gd.df (fun h1=>?_) (fun h1=>?_)|refine Gd.t (fun h1=>?_) (fun h1=>?_)|refine Gd.f (fun h1=>?_) (fun h1=>?_)
 .simp[h1];refine sD (rJ a.edges b.edges ha.e _ _) ?_;simp[h1];refine sT (sH ?_);simp[sg,h1]
 .simp[h1];refine sT (sH ?_);simp[sg,h1]
def aO9(a b:Gr)(nb:Nat)(box:Bxs)(tok:Tks)(nt:Nat)(i:Nat):AS :=
 ⟨tl [(2,.ptr (nb+2) 0 0),(3,.ptr (nb+3) 0 0),(5,I i)],lb nb box [(2,[[.d (ints a.nodes),.d (AM.edges a.edges)]]),(3,[[.d (ints b.nodes),.d (AM.edges b.edges)]])],tok,nt⟩
theorem aJG(a b:Gr)(ha:a.Fit):DC 80 [a.av,b.av] (B (decide (a=b))):=by
 intro tok nt box nb;have hn:=ha.n;have he:=ha.e;have sg:a=b↔a.nodes=b.nodes/\a.edges=b.edges:=by cases a;cases b;simp
 refine sI func80 ntmps80 fun Hb Ht=>?_
 refine sR ?_;simp;refine sR ?_;simp;refine sD (aBn a.nodes b.nodes hn _ _) ?_;by_cases h1:a.nodes=b.nodes
 .simp[h1];apply sC;simp;refine⟨fun h2=>?_,fun h2=>?_⟩
  .refine sR ?_;simp;have:¬a.edges=b.edges:=fun e=>h2 (by rw[e])
   refine sT (sH ?_);simp[sg,h1,this]
  .refine sR ?_;simp;apply sN;refine sL (aO9 a b nb box tok nt) (fun i=>i<=a.edges.length/\a.edges.take i=b.edges.take i) (fun i=>a.edges.length-i) 0 ⟨ai _,rfl⟩ (wM (nr0 _) rfl (by simp[ToL,lk,h1]) (by simp[aC,lk,h1])) ?_;rintro i S ⟨hi,htk⟩ hS;simp only[aO9] at hS;subst hS;have hw:=sW (i:=i) (by omega);refine sR ?_;simp;apply sC;simp;refine⟨fun hlt=>?_,fun hge=>?_⟩
   .have x7:i<b.edges.length:=by omega
    have mt:a.edges[i]=b.edges[i]↔a.edges[i].ty=b.edges[i].ty/\a.edges[i].fr=b.edges[i].fr/\a.edges[i].to=b.edges[i].to:=by cases a.edges[i];cases b.edges[i];simp
    refine sR ?_;simp[hlt,x7];apply sC;simp;refine⟨fun hne=>?_,fun e1 e2 e3=>?_⟩
    .refine sR ?_;simp;have:¬a.edges=b.edges:=fun e=>by
      have e2:a.edges[i]=b.edges[i]:=by simp[e]
      have e3:=mt.1 e2;simp[e3] at hne
     refine sT (sH ?_);simp[sg,this]
    .refine sR ?_;simp[hw];apply sE;refine⟨i+1,⟨hlt,?_⟩,by omega,wM (nr0 _) rfl (by simp[ToL,lk,h1]) (by simp[aC,lk,h1])⟩;rw[ah hlt,ah x7,htk,mt.2 ⟨e1,e2,e3⟩]
   .apply sX;simp only[AU,↓reduceIte];refine sR ?_;simp;have:a.edges=b.edges:=by
     rw[ak hge,ak (by omega)] at htk;exact htk
    refine sT (sH ?_);simp[sg,h1,this]
 .simp[h1];apply sC;simp;refine sR ?_;simp;refine sT (sH ?_);simp[sg,h1]
structure Ov.Fit (o:Ov):Prop where
 g:o.g.Fit
 l:o.l.Fit
 r:o.r.Fit
structure Qu.Fit (o:Qu):Prop where
 g:o.g.Fit
 o:o.o.Fit
def aOG(xs:List Int)(v:Int)(nb:Nat)(box:Bxs)(tok:Tks)(nt:Nat)(i:Nat):AS:=⟨tl [(0,.d (ints xs)),(1,I v),(5,I i)],lb nb box [],tok,nt⟩
theorem aPn(xs:List Int)(v:Int)(hx:xs.length<=1000000):DC 267 [.d (ints xs),I v] (B (decide (v∈xs))):=by
 intro tok nt box nb;refine sI func267 ntmps267 fun Hb Ht=>?_
 refine sR ?_;simp;refine sR ?_;simp;apply sN;refine sL (aOG xs v nb box tok nt) (fun i=>i<=xs.length/\v∉xs.take i) (fun i=>xs.length-i) 0 ⟨ai _,by simp⟩ (wM (nr0 _) rfl (by simp[ToL]) trivial) ?_;rintro i S ⟨hi,htk⟩ hS;simp only[aOG] at hS;subst hS;have hw:=sW (i:=i) (by omega);refine sR ?_;simp;apply sC;simp;refine⟨fun hlt=>?_,fun hge=>?_⟩
 .refine sR ?_;simp[hlt];apply sC;simp;refine⟨fun he=>?_,fun hne=>?_⟩
  .refine sR ?_;simp;have jg:v∈xs:=by rw[<-he];exact aa _
   refine sT (sH ?_);simp[jg]
  .refine sR ?_;simp[hw];apply sE;refine⟨i+1,⟨hlt,?_⟩,by omega,wM (nr0 _) rfl (by simp[ToL]) trivial⟩;rw[ah hlt];simp only[ap,a7,not_or];exact⟨htk,fun e=>hne e.symm⟩
 .apply sX;simp only[AU,↓reduceIte];refine sR ?_;simp;have hn:v∉xs:=by rwa [ak hge] at htk
  refine sT (sH ?_);simp[hn]
def fD(n:Nat):List Int:=(List.range n).map fun (i:Nat)=>(i:Int)
theorem aAB(n:Nat):fD (n+1)=fD n++[(n:Int)]:=by simp[fD,cn]
@[simp] theorem tW(n:Nat):(fD n).length=n:=by simp[fD]
@[simp] theorem aN5:fD 0=[]:=rfl
structure Acc where
 i:Nat
 own:Own
 tok:Nat->Bool
 nt:Nat
def aO4(n:Nat)(nb:Nat)(box:Bxs)(a:Acc):AS:=⟨tl [(0,I n),(3,.osl 1 (rI (fD a.i)) a.own),(4,I a.i)],lb nb box [],a.tok,a.nt⟩
theorem aDd(n:Nat)(hn:n<=1000000):DC 218 [I n] (.d (ints (fD n))):=by
 intro tok nt box nb;refine sI func218 ntmps218 fun Hb Ht=>?_
 refine sR ?_;simp;refine sR ?_;simp;refine sR ?_;simp;apply sN;refine sL (aO4 n nb box) (fun a=>a.i<=n/\TK tok nt a.tok a.nt [a.own]) (fun a=>n-a.i) ⟨0,.full,tok,nt⟩ ⟨ai _,(TK.start Ht).full⟩ (wM (nr0 _) rfl (by simp[ToL]) trivial) ?_;rintro⟨i,own,tok',nt'⟩ S ⟨hi,htk⟩ hS;simp only[aO4] at hS hi htk;subst hS;have hw:=sW (i:=i) (by omega);refine sR ?_;simp;apply sC;simp;refine⟨fun hlt=>?_,fun hge=>?_⟩
 .refine sR ?_;simp;refine⟨⟨by omega,htk.live⟩,?_⟩;refine sR ?_;simp[hw];apply sE;refine⟨⟨i+1,_,_,_⟩,⟨hlt,htk.app⟩,by simp;omega,wM htk.app.le rfl (by simp[ToL,aAB]) trivial⟩
 .apply sX;simp only[AU,↓reduceIte];refine sR ?_;simp;have:i=n:=by omega
  subst this;refine sT (sG Hb Ht htk.old htk.le ?_);simp
theorem aSy(g:Gr)(hg:g.Fit):DC 156 [g.av] (Mo.av ⟨fD g.nodes.length,fD g.edges.length⟩):=by
 intro tok nt box nb;refine sI func156 ntmps156 fun Hb Ht=>?_
 refine sR ?_;simp;refine sR ?_;simp;refine sD (aDd g.nodes.length hg.n _ _) ?_;simp;refine sD (aDd g.edges.length hg.e _ _) ?_;simp;refine sT (sH ?_);simp
theorem aJq(g:Gr)(hg:g.Fit)(tok:Tks)(nt:Nat):cZ prog 331 [g.av] tok nt (.agg [.osl 1 (rI g.nodes) (.tok nt),.osl 3 (rE g.edges) (.tok (nt+1))]) (upd (upd tok nt true) (nt+1) true) (nt+2):=by
 intro box nb;have h1:=hg.n;have h2:=hg.e;refine sI func331 ntmps331 fun Hb Ht=>?_
 refine sR ?_;simp;refine sR ?_;simp;refine⟨by omega,by omega,?_⟩;apply sN;refine AL.ret ?_;try simp only[AU]
 refine⟨by simp,Fin.own (by simp[aP,bI];rfl) Hb rfl (by simp) ?_⟩;simp
def gW(n i:Nat):List Int:=fD i++List.replicate (n-i) 0
@[simp] theorem uQ{n i:Nat}(h:i<=n):(gW n i).length=n:=by simp[gW];omega
@[simp] theorem aOg(n:Nat):gW n 0=List.replicate n 0:=by simp[gW]
@[simp] theorem aCX(n:Nat):gW n n=fD n:=by simp[gW]
def aM0(n:Nat)(nb:Nat)(box:Bxs)(tok:Tks)(nt:Nat)(i:Nat):AS:=⟨tl [(3,.msl (nb+6) 0 n 1),(8,I n),(9,I i)],lb nb box [(6,dL (gW n i))],tok,nt⟩
theorem aHD{n i:Nat}(h:i<n):(gW n i).set i (i:Int)=gW n (i+1):=by
 unfold gW;rw[List.set_append];simp only[tW,Nat.lt_irrefl,↓reduceIte,Nat.sub_self,aAB,cw];have:n-i=(n-(i+1))+1:=by omega
 rw[this,List.replicate_succ];simp
theorem aAv(n:Nat)(hn:n<=1000000):DC 335 [I n] (.d (ints (fD n))):=by
 intro tok nt box nb;refine sI func335 ntmps335 fun Hb Ht=>?_
 refine sR ?_;simp;refine sR ?_;simp;refine⟨by omega,?_⟩;refine sR ?_;simp;apply sN;refine sL (aM0 n nb box tok nt) (fun i=>i<=n) (fun i=>n-i) 0 (ai _) wkA ?_;rintro i S hi hS;simp only[aM0] at hS;subst hS;have hw:=sW (i:=i) (by omega);refine sR ?_;simp;apply sC;simp;refine⟨fun hlt=>?_,fun hge=>?_⟩
 .refine sR ?_;simp;refine sR ?_;simp[hlt,hi];refine sR ?_;simp[hw];apply sE;refine⟨i+1,hlt,by omega,wM (nr0 _) rfl (by simp[ToL,lk]) (by simp[aC,lk,aHD hlt])⟩
 .apply sX;simp only[AU,↓reduceIte];have:i=n:=by omega
  subst this;refine AL.weak (aS.frz (l':=[(3,.d (ints (fD i)))]) (loc':=[]) 6 1 (rI (fD i)) (nr0 _) rfl (by simp[lk,rA]) (by simp[lk]) (by simp) (by simp[ToL]) (by simp[aC])) ?_;refine sR ?_;simp;refine sT (sH ?_);simp
def idM(g:Gr):Mo:=⟨fD g.nodes.length,fD g.edges.length⟩
theorem aEA(g:Gr)(hg:g.Fit)(hv:vG g=0):DC 325 [g.av] (.tup [(idM g).av,I 0]):=by
 intro tok nt box nb;refine sI func325 ntmps325 fun Hb Ht=>?_
 refine sR ?_;simp;refine sR ?_;simp;refine sD (bW g hg _ _) ?_;simp;refine sR ?_;simp[hv];apply sC;simp;refine sR ?_;simp;refine sD (aAv g.nodes.length hg.n _ _) ?_;simp;refine sD (aAv g.edges.length hg.e _ _) ?_;simp;refine sT (sH ?_);simp[idM]
def bZ(an bn l:List Int):Nat->List Int × List Int
 | 0=>(an,[])
 | i+1=>if l.getD i 0<0 then ((bZ an bn l i).1++[bn.getD i 0],(bZ an bn l i).2++[((bZ an bn l i).1.length:Int)]) else ((bZ an bn l i).1,(bZ an bn l i).2++[l.getD i 0])
def dV(ae be:List E)(rn l:List Int):Nat->List E × List Int
 | 0=>(ae,[])
 | i+1=>if l.getD i 0<0 then ((dV ae be rn l i).1++[⟨(be.getD i default).ty,rn.getD (be.getD i default).fr.toNat 0,rn.getD (be.getD i default).to.toNat 0⟩],(dV ae be rn l i).2++[((dV ae be rn l i).1.length:Int)])
  else ((dV ae be rn l i).1,(dV ae be rn l i).2++[l.getD i 0])
def bV(a b:Gr)(nodes edges:List Int):Ov :=
 let n:=bZ a.nodes b.nodes nodes nodes.length
 let e:=dV a.edges b.edges n.2 edges edges.length
 ⟨⟨n.1,e.1⟩,idM a,⟨n.2,e.2⟩⟩
theorem kO(an bn l:List Int):∀i,(bZ an bn l i).1.length<=an.length+i/\(bZ an bn l i).2.length=i
 | 0=>by simp[bZ]
 | i+1=>by
  have:=kO an bn l i
  simp only[bZ];split<;>simp<;>omega
theorem kN(ae be:List E)(rn l:List Int):∀i,(dV ae be rn l i).1.length<=ae.length+i/\(dV ae be rn l i).2.length=i
 | 0=>by simp[dV]
 | i+1=>by
  have:=kN ae be rn l i
  simp only[dV];split<;>simp<;>omega
structure aOs where
 i:Nat
 o1:Own
 o2:Own
 o3:Own
 o4:Own
 tok:Nat->Bool
 nt:Nat
def aMX(a b:Gr)(l k:List Int)(nb:Nat)(box:Bxs)(x:aOs):AS :=
 ⟨tl [(2,.d (ints l)),(3,.d (ints k)),(4,.ptr (nb+4) 0 0),(5,.ptr (nb+5) 0 0),(8,.ptr (nb+8) 0 0),(11,.ptr (nb+11) 0 0),(31,.d (ints l)),(32,I l.length),(33,I x.i)],
  lb nb box [(4,[[.d (ints a.nodes),.d (AM.edges a.edges)]]),(5,[[.d (ints b.nodes),.d (AM.edges b.edges)]]),(8,[[.bot,.bot,.bot,.bot,.bot,.bot]]),
   (11,[[.osl 1 (rI (bZ a.nodes b.nodes l x.i).1) x.o1,.osl 3 (rE a.edges) x.o2,.d (ints (idM a).nodes),.d (ints (idM a).edges),.osl 1 (rI (bZ a.nodes b.nodes l x.i).2) x.o3,.osl 1 [] x.o4]])],x.tok,x.nt⟩
structure aQm where
 i:Nat
 o1:Own
 o2:Own
 tok:Nat->Bool
 nt:Nat
def aMG(a b:Gr)(l k:List Int)(nb:Nat)(box:Bxs)(x:aQm):AS :=
 ⟨tl [(5,.ptr (nb+5) 0 0),(8,.ptr (nb+8) 0 0),(11,.ptr (nb+11) 0 0),(65,.d (ints k)),(66,I k.length),(67,I x.i)],
  lb nb box [(5,[[.d (ints b.nodes),.d (AM.edges b.edges)]]),(8,[[.bot,.bot,.bot,.bot,.bot,.bot]]),
   (11,[[.d (ints (bZ a.nodes b.nodes l l.length).1),.osl 3 (rE (dV a.edges b.edges (bZ a.nodes b.nodes l l.length).2 k x.i).1) x.o1,.d (ints (idM a).nodes),.d (ints (idM a).edges),.d (ints (bZ a.nodes b.nodes l l.length).2),.osl 1 (rI (dV a.edges b.edges (bZ a.nodes b.nodes l l.length).2 k x.i).2) x.o2]])],x.tok,x.nt⟩
theorem aKo(a b:Gr)(l k:List Int)(ha:a.Fit)(kp:vG a=0)(hl:l.length<=b.nodes.length)(hk:k.length<=b.edges.length)(mh:l.length<=1000000)(jb:k.length<=1000000)(hx:∀i (h:i<k.length) (h2:i<b.edges.length),k[i]<0->0<=b.edges[i].fr/\b.edges[i].fr<l.length/\0<=b.edges[i].to/\b.edges[i].to<l.length):DC 294 [a.av,b.av,.d (ints l),.d (ints k)] (bV a b l k).av:=by
 intro tok nt box nb;have x8:=ha.n;have x9:=ha.e;refine sI func294 ntmps294 fun Hb Ht=>?_
 refine sR ?_;simp;refine sR ?_;simp;refine sD (aEA a ha kp _ _) ?_;simp;refine sR ?_;simp;refine sD (gT a.nodes x8 _ _) ?_;simp;refine sD (aDg a.edges x9 _ _) ?_;simp;refine sR ?_;simp;apply sN;have si:TK tok nt (upd (upd tok nt true) (nt+1) true) (nt+2) [.tok nt,.tok (nt+1),.full,.full]:=((TK.start Ht).full.app.full.app.swap.full.full).perm (List.perm_append_comm (l₁:=[Own.full,Own.full]) (l₂:=[Own.tok nt,Own.tok (nt+1)]))
 refine sL (aMX a b l k nb box) (fun x=>x.i<=l.length/\TK tok nt x.tok x.nt [x.o1,x.o2,x.o3,x.o4]) (fun x=>l.length-x.i) ⟨0,.tok nt,.tok (nt+1),.full,.full,_,_⟩ ⟨ai _,si⟩ (wM si.le rfl (by simp[ToL,lk]) (by simp[aC,lk,bZ,idM])) ?_;rintro⟨i,o1,o2,o3,o4,tok',nt'⟩ S ⟨hi,htk⟩ hS;simp only[aMX] at hS hi htk;subst hS;have hw:=sW (i:=i) (by omega);have lw:=kO a.nodes b.nodes l i;refine sR ?_;simp;apply sC;simp;refine⟨fun hlt=>?_,fun hge=>?_⟩
 .have mh:i<b.nodes.length:=by omega
  refine sR ?_;simp[hlt];refine sR ?_;simp;apply sC;simp;refine⟨fun iu=>?_,fun li=>?_⟩
  .refine sR ?_;simp;refine sR ?_;simp[mh];refine⟨⟨by omega,htk.live⟩,?_⟩;have jw:=htk.app;refine sR ?_;simp;refine⟨⟨by omega,by simpa using jw.pick3.live⟩,?_⟩;have ie:=jw.pick3.app.put3;refine sR ?_;simp[hw];apply sE;have hg:l.getD i 0=l[i]:=by simp[hlt]
   have mj:b.nodes.getD i 0=b.nodes[i]:=by simp[mh]
   refine⟨⟨i+1,_,_,_,_,_,_⟩,⟨hlt,ie⟩,by simp;omega,wM ie.le rfl (by simp[ToL,lk]) (by simp[aC,lk,bZ,hlt,mh,iu])⟩
  .refine sR ?_;simp;refine⟨⟨by omega,htk.pick3.live⟩,?_⟩;have ie:=htk.pick3.app.put3;refine sR ?_;simp[hw];apply sE;refine⟨⟨i+1,_,_,_,_,_,_⟩,⟨hlt,ie⟩,by simp;omega,wM ie.le rfl (by simp[ToL,lk]) (by simp[aC,lk,bZ,hlt,mh,show ¬l[i]<0 by omega])⟩
 .apply sX;simp only[AU,↓reduceIte];have:i=l.length:=by omega
  subst this;refine sR ?_;simp;apply sN;have ie:=htk.tail.swap.tail;refine sL (aMG a b l k nb box) (fun x=>x.i<=k.length/\TK tok nt x.tok x.nt [x.o1,x.o2]) (fun x=>k.length-x.i) ⟨0,o2,o4,tok',nt'⟩ ⟨ai _,ie⟩ (wM ie.le rfl (by simp[ToL,lk]) (by simp[aC,lk,dV])) ?_;rintro⟨i,o1,o2,tok',nt'⟩ S ⟨hi,htk⟩ hS;simp only[aMG] at hS hi htk;subst hS;have hw:=sW (i:=i) (by omega);generalize ww:(bZ a.nodes b.nodes l l.length).2=rn at *;have n9:rn.length=l.length:=lw.2
  have iv:=kN a.edges b.edges rn k i;refine sR ?_;simp;apply sC;simp;refine⟨fun hlt=>?_,fun hge=>?_⟩
  .have mh:i<b.edges.length:=by omega
   refine sR ?_;simp[hlt];refine sR ?_;simp;apply sC;simp;refine⟨fun iu=>?_,fun li=>?_⟩
   .obtain⟨x1,x2,x3,x4⟩:=hx i hlt mh iu;have y1:b.edges[i].fr.toNat<rn.length:=by omega
    have y2:b.edges[i].to.toNat<rn.length:=by omega
    refine sR ?_;simp;refine sR ?_;simp[mh];refine sR ?_;simp[x1,x2,x3,x4,y1,y2,n9];refine⟨⟨by omega,htk.live⟩,?_⟩;have jw:=htk.app;refine sR ?_;simp;refine⟨⟨by omega,by simpa using jw.swap.live⟩,?_⟩;have ie:=jw.swap.app.swap;refine sR ?_;simp[hw];apply sE;have AA:b.edges.getD i default=b.edges[i]:=by simp[mh]
    refine⟨⟨i+1,_,_,_,_⟩,⟨hlt,ie⟩,by simp;omega,wM ie.le rfl (by simp[ToL,lk]) (by simp[aC,lk,dV,ww,hlt,mh,iu,y1,y2])⟩
   .refine sR ?_;simp;refine⟨⟨by omega,htk.swap.live⟩,?_⟩;have ie:=htk.swap.app.swap;refine sR ?_;simp[hw];apply sE;refine⟨⟨i+1,_,_,_,_⟩,⟨hlt,ie⟩,by simp;omega,wM ie.le rfl (by simp[ToL,lk]) (by simp[aC,lk,dV,ww,hlt,mh,show ¬k[i]<0 by omega])⟩
  .apply sX;simp only[AU,↓reduceIte];have:i=k.length:=by omega
   subst this;refine sR ?_;simp;refine sT (sG Hb Ht htk.old htk.le ?_);simp[bV,ww]
end Go.AM
