import Derived.Test.YtchfmhhbiealcaaGreatDoorPIC5
import Derived.Test.YtchfmhhbiealcaaGreatDoorRows
set_option linter.unusedSimpArgs false
set_option linter.unusedVariables false
namespace Go.AM
theorem fw.{u}:type_of% @List.findIdx_eq.{u}:=@List.findIdx_eq
theorem cm.{u}:type_of% @List.mem_take_iff_getElem.{u}:=@List.mem_take_iff_getElem
theorem a7.{u}:type_of% @List.mem_singleton.{u}:=@List.mem_singleton
theorem dv.{u}:type_of% @List.any_eq_true.{u}:=@List.any_eq_true
theorem dz.{u}:type_of% @List.any_eq_false.{u}:=@List.any_eq_false
theorem cu:type_of% @List.range_succ:=@List.range_succ
open Go Go.Proofs
open Go.Proofs.Tryz
theorem cC:prog.follows .mixedOrders=true:=by kernel_rfl
@[simp] theorem aRn:(aP prog 2=some 1)/\(aU prog 2=some false)/\(aW prog 2=false)/\(aI prog 2=false)/\(aF prog 2=none)/\(aS prog 2=none)/\(lK prog 2=some .i64)/\(aH prog 2=some [.int .i64 0])/\(aP prog 3=some 1)/\(aU prog 3=some false)/\(aW prog 3=false)/\(aI prog 3=false):=by
 and_intros<;>kernel_rfl
@[simp] theorem aQY:(aF prog 3=none)/\(aS prog 3=none)/\(lK prog 3=some .i64)/\(aH prog 3=some [.int .i64 0])/\(aP prog 4=some 1)/\(aU prog 4=some false)/\(aW prog 4=false)/\(aI prog 4=true)/\(aF prog 4=none)/\(aS prog 4=none)/\(aH prog 4=some [.bool false])/\(aP prog 5=some 1):=by
 and_intros<;>kernel_rfl
@[simp] theorem aPZ:(aU prog 5=some false)/\(aW prog 5=false)/\(aI prog 5=false)/\(aF prog 5=none)/\(aS prog 5=none)/\(lK prog 5=some .u8)/\(aH prog 5=some [.int .u8 0])/\(aP prog 9=some 1)/\(aU prog 9=some false)/\(aW prog 9=true)/\(aI prog 9=false)/\(aF prog 9=none):=by
 and_intros<;>kernel_rfl
@[simp] theorem aQx:(aS prog 9=none)/\(aH prog 9=some [.string ⟨#[]⟩])/\(aP prog 21=some 1)/\(aU prog 21=some false)/\(aW prog 21=false)/\(aI prog 21=false)/\(aF prog 21=none)/\(aS prog 21=none)/\(lK prog 21=some .i32)/\(aH prog 21=some [.int .i32 0])/\(aP prog 22=some 1)/\(aU prog 22=some false):=by
 and_intros<;>kernel_rfl
@[simp] theorem aQB:(aW prog 22=false)/\(aI prog 22=false)/\(aF prog 22=some 160)/\(aS prog 22=some (160,4,56))/\(bZ prog 22=some (4,56,[.string ⟨#[]⟩,.int .i64 0,.bool false,.slice none 0 0]))/\(aH prog 22=some [.slice none 0 0])/\(aP prog 23=some 1)/\(aU prog 23=some false)/\(aW prog 23=false)/\(aI prog 23=false)/\(aF prog 23=some 162)/\(aS prog 23=some (162,7,64)):=by
 and_intros<;>kernel_rfl
@[simp] theorem aQu:(bZ prog 23=some (7,64,[.string ⟨#[]⟩,.int .i64 0,.int .i64 0,.int .i64 0,.int .i64 0,.int .i64 0,.int .i64 0]))/\(aH prog 23=some [.slice none 0 0])/\(aP prog 25=some 2)/\(aU prog 25=some true)/\(aW prog 25=false)/\(aI prog 25=false)/\(aF prog 25=none)/\(aS prog 25=none)/\(aM prog 25=some [(0,1),(1,1)])/\(aB prog 25 0=some (22,0))/\(aB prog 25 1=some (23,1))/\(aH prog 25=some [.slice none 0 0,.slice none 0 0]):=by
 and_intros<;>kernel_rfl
@[simp] theorem aQN:(aP prog 26=some 1)/\(aU prog 26=some false)/\(aW prog 26=false)/\(aI prog 26=false)/\(aF prog 26=some 52)/\(aS prog 26=some (52,25,512))/\(bZ prog 26=some (25,512,[.string ⟨#[]⟩,.slice none 0 0,.slice none 0 0,.slice none 0 0,.int .i64 0,.slice none 0 0,.slice none 0 0,.slice none 0 0,.slice none 0 0,.int .i64 0,.slice none 0 0,.slice none 0 0,.slice none 0 0,.slice none 0 0,.slice none 0 0,.bool false,.int .i64 0,.slice none 0 0,.slice none 0 0,.slice none 0 0,.slice none 0 0,.slice none 0 0,.slice none 0 0,.int .i64 0,.slice none 0 0]))/\(aH prog 26=some [.slice none 0 0])/\(aP prog 27=some 1)/\(aU prog 27=some false)/\(aW prog 27=false)/\(aI prog 27=false):=by
 and_intros<;>kernel_rfl
@[simp] theorem aP1:(aF prog 27=some 56)/\(aS prog 27=some (56,5,96))/\(bZ prog 27=some (5,96,[.string ⟨#[]⟩,.int .i64 0,.slice none 0 0,.slice none 0 0,.slice none 0 0]))/\(aH prog 27=some [.slice none 0 0])/\(aP prog 29=some 4):=by
 and_intros<;>kernel_rfl
@[simp] theorem aJS:aU prog 29=some true:=by kernel_rfl
@[simp] theorem aQX:(aW prog 29=false)/\(aI prog 29=false)/\(aF prog 29=none)/\(aS prog 29=none)/\(aM prog 29=some [(0,2),(2,1),(3,1)])/\(aB prog 29 0=some (25,0))/\(aB prog 29 1=some (26,2))/\(aB prog 29 2=some (27,3))/\(aH prog 29=some [.slice none 0 0,.slice none 0 0,.slice none 0 0,.slice none 0 0])/\(aP prog 32=some 1)/\(aU prog 32=some false)/\(aW prog 32=false):=by
 and_intros<;>kernel_rfl
@[simp] theorem aQ6:(aI prog 32=false)/\(aF prog 32=some 89)/\(aS prog 32=some (89,5,72))/\(bZ prog 32=some (5,72,[.int .i64 0,.int .i64 0,.int .i64 0,.slice none 0 0,.slice none 0 0]))/\(aH prog 32=some [.slice none 0 0])/\(aP prog 33=some 1)/\(aU prog 33=some false)/\(aW prog 33=false)/\(aI prog 33=false)/\(aF prog 33=none)/\(aS prog 33=none)/\(lK prog 33=some .i64):=by
 and_intros<;>kernel_rfl
@[simp] theorem aQO:(aH prog 33=some [.int .i64 0])/\(aP prog 37=some 1)/\(aU prog 37=some false)/\(aW prog 37=false)/\(aI prog 37=false)/\(aF prog 37=some 3)/\(aS prog 37=some (3,1,8))/\(bZ prog 37=some (1,8,[.int .i64 0]))/\(aH prog 37=some [.slice none 0 0])/\(aP prog 38=some 1)/\(aU prog 38=some false)/\(aW prog 38=false):=by
 and_intros<;>kernel_rfl
@[simp] theorem aQK:(aI prog 38=false)/\(aF prog 38=some 164)/\(aS prog 38=some (164,3,24))/\(bZ prog 38=some (3,24,[.int .i64 0,.int .i64 0,.int .i64 0]))/\(aH prog 38=some [.slice none 0 0])/\(aP prog 40=some 2)/\(aU prog 40=some true)/\(aW prog 40=false)/\(aI prog 40=false)/\(aF prog 40=none)/\(aS prog 40=none)/\(aM prog 40=some [(0,1),(1,1)]):=by
 and_intros<;>kernel_rfl
@[simp] theorem aRs:(aB prog 40 0=some (37,0))/\(aB prog 40 1=some (38,1))/\(aH prog 40=some [.slice none 0 0,.slice none 0 0])/\(aP prog 41=some 1)/\(aU prog 41=some false)/\(aW prog 41=false)/\(aI prog 41=false)/\(aF prog 41=some 381)/\(aS prog 41=some (381,4,32))/\(bZ prog 41=some (4,32,[.int .i64 0,.int .i64 0,.int .i64 0,.int .i64 0]))/\(aH prog 41=some [.slice none 0 0])/\(aP prog 42=some 1):=by
 and_intros<;>kernel_rfl
@[simp] theorem aQe:(aU prog 42=some false)/\(aW prog 42=false)/\(aI prog 42=false)/\(aF prog 42=some 383)/\(aS prog 42=some (383,5,40))/\(bZ prog 42=some (5,40,[.int .i64 0,.int .i64 0,.int .i64 0,.int .i64 0,.int .i64 0]))/\(aH prog 42=some [.slice none 0 0])/\(aP prog 44=some 5)/\(aU prog 44=some true)/\(aW prog 44=false)/\(aI prog 44=false)/\(aF prog 44=none):=by
 and_intros<;>kernel_rfl
@[simp] theorem aRm:(aS prog 44=none)/\(aM prog 44=some [(0,2),(2,1),(3,1),(4,1)])/\(aB prog 44 0=some (40,0))/\(aB prog 44 1=some (41,2))/\(aB prog 44 2=some (3,3))/\(aB prog 44 3=some (42,4))/\(aH prog 44=some [.slice none 0 0,.slice none 0 0,.slice none 0 0,.int .i64 0,.slice none 0 0])/\(aP prog 46=some 2)/\(aU prog 46=some true)/\(aW prog 46=false)/\(aI prog 46=false)/\(aF prog 46=none):=by
 and_intros<;>kernel_rfl
@[simp] theorem aRk:(aS prog 46=none)/\(aM prog 46=some [(0,1),(1,1)])/\(aB prog 46 0=some (37,0))/\(aB prog 46 1=some (37,1))/\(aH prog 46=some [.slice none 0 0,.slice none 0 0])/\(aP prog 47=some 2)/\(aU prog 47=some true)/\(aW prog 47=false)/\(aI prog 47=false)/\(aF prog 47=none)/\(aS prog 47=none)/\(aM prog 47=some [(0,1),(1,1)]):=by
 and_intros<;>kernel_rfl
@[simp] theorem aQw:(aB prog 47 0=some (37,0))/\(aB prog 47 1=some (37,1))/\(aH prog 47=some [.slice none 0 0,.slice none 0 0])/\(aP prog 48=some 1)/\(aU prog 48=some false)/\(aW prog 48=false)/\(aI prog 48=false)/\(aF prog 48=some 50)/\(aS prog 48=some (50,9,184))/\(bZ prog 48=some (9,184,[.int .i64 0,.slice none 0 0,.slice none 0 0,.slice none 0 0,.slice none 0 0,.slice none 0 0,.slice none 0 0,.int .i64 0,.slice none 0 0]))/\(aH prog 48=some [.slice none 0 0])/\(aP prog 50=some 9):=by
 and_intros<;>kernel_rfl
@[simp] theorem aQn:(aU prog 50=some true)/\(aW prog 50=false)/\(aI prog 50=false)/\(aF prog 50=none)/\(aS prog 50=none)/\(aM prog 50=some [(0,1),(1,1),(2,2),(4,5)])/\(aB prog 50 0=some (3,0))/\(aB prog 50 1=some (48,1))/\(aB prog 50 2=some (47,2))/\(aB prog 50 3=some (44,4))/\(aH prog 50=some [.int .i64 0,.slice none 0 0,.slice none 0 0,.slice none 0 0,.slice none 0 0,.slice none 0 0,.slice none 0 0,.int .i64 0,.slice none 0 0])/\(aP prog 52=some 25):=by
 and_intros<;>kernel_rfl
@[simp] theorem aP6:(aU prog 52=some true)/\(aW prog 52=false)/\(aI prog 52=false)/\(aF prog 52=none)/\(aS prog 52=none)/\(aM prog 52=some [(0,1),(1,5),(6,5),(11,2),(13,2),(15,1),(16,9)])/\(aB prog 52 0=some (9,0))/\(aB prog 52 1=some (44,1))/\(aB prog 52 2=some (44,6))/\(aB prog 52 3=some (46,11))/\(aB prog 52 4=some (47,13))/\(aB prog 52 5=some (4,15)):=by
 and_intros<;>kernel_rfl
@[simp] theorem aRa:(aB prog 52 6=some (50,16))/\(aH prog 52=some [.string ⟨#[]⟩,.slice none 0 0,.slice none 0 0,.slice none 0 0,.int .i64 0,.slice none 0 0,.slice none 0 0,.slice none 0 0,.slice none 0 0,.int .i64 0,.slice none 0 0,.slice none 0 0,.slice none 0 0,.slice none 0 0,.slice none 0 0,.bool false,.int .i64 0,.slice none 0 0,.slice none 0 0,.slice none 0 0,.slice none 0 0,.slice none 0 0,.slice none 0 0,.int .i64 0,.slice none 0 0])/\(aP prog 54=some 1)/\(aU prog 54=some false)/\(aW prog 54=false)/\(aI prog 54=false)/\(aF prog 54=some 182)/\(aS prog 54=some (182,4,96))/\(bZ prog 54=some (4,96,[.slice none 0 0,.slice none 0 0,.slice none 0 0,.slice none 0 0]))/\(aH prog 54=some [.slice none 0 0])/\(aP prog 56=some 5)/\(aU prog 56=some true):=by
 and_intros<;>kernel_rfl
@[simp] theorem aQ0:(aW prog 56=false)/\(aI prog 56=false)/\(aF prog 56=none)/\(aS prog 56=none)/\(aM prog 56=some [(0,1),(1,1),(2,2),(4,1)])/\(aB prog 56 0=some (9,0))/\(aB prog 56 1=some (3,1))/\(aB prog 56 2=some (40,2))/\(aB prog 56 3=some (54,4))/\(aH prog 56=some [.string ⟨#[]⟩,.int .i64 0,.slice none 0 0,.slice none 0 0,.slice none 0 0])/\(aP prog 58=some 1)/\(aU prog 58=some false):=by
 and_intros<;>kernel_rfl
@[simp] theorem aQT:(aW prog 58=false)/\(aI prog 58=false)/\(aF prog 58=some 98)/\(aS prog 58=some (98,8,128))/\(bZ prog 58=some (8,128,[.int .i64 0,.int .i64 0,.int .i64 0,.slice none 0 0,.slice none 0 0,.int .i64 0,.slice none 0 0,.slice none 0 0]))/\(aH prog 58=some [.slice none 0 0])/\(aP prog 60=some 1):=by
 and_intros<;>kernel_rfl
@[simp] theorem aJN:aU prog 60=some true:=by kernel_rfl
@[simp] theorem aRl:(aW prog 60=false)/\(aI prog 60=false)/\(aF prog 60=none)/\(aS prog 60=none)/\(aM prog 60=some [(0,1)])/\(aB prog 60 0=some (58,0))/\(aH prog 60=some [.slice none 0 0])/\(aP prog 71=some 1)/\(aU prog 71=some false)/\(aW prog 71=false)/\(aI prog 71=false)/\(aF prog 71=some 184):=by
 and_intros<;>kernel_rfl
@[simp] theorem aQS:(aS prog 71=some (184,2,2))/\(bZ prog 71=some (2,2,[.int .u8 0,.int .u8 0]))/\(aH prog 71=some [.slice none 0 0])/\(aP prog 72=some 1)/\(aU prog 72=some false)/\(aW prog 72=false)/\(aI prog 72=false)/\(aF prog 72=some 131)/\(aS prog 72=some (131,4,80))/\(bZ prog 72=some (4,80,[.slice none 0 0,.slice none 0 0,.int .u64 0,.slice none 0 0]))/\(aH prog 72=some [.slice none 0 0])/\(aP prog 73=some 1):=by
 and_intros<;>kernel_rfl
@[simp] theorem aQg:(aU prog 73=some false)/\(aW prog 73=false)/\(aI prog 73=false)/\(aF prog 73=some 134)/\(aS prog 73=some (134,3,72))/\(bZ prog 73=some (3,72,[.slice none 0 0,.slice none 0 0,.slice none 0 0]))/\(aH prog 73=some [.slice none 0 0])/\(aP prog 74=some 1)/\(aU prog 74=some false)/\(aW prog 74=false)/\(aI prog 74=false)/\(aF prog 74=some 5):=by
 and_intros<;>kernel_rfl
@[simp] theorem aRc:(aS prog 74=some (5,1,1))/\(bZ prog 74=some (1,1,[.int .u8 0]))/\(aH prog 74=some [.slice none 0 0])/\(aP prog 75=some 1)/\(aU prog 75=some false)/\(aW prog 75=false)/\(aI prog 75=false)/\(aF prog 75=some 189)/\(aS prog 75=some (189,3,3))/\(bZ prog 75=some (3,3,[.int .u8 0,.int .u8 0,.int .u8 0]))/\(aH prog 75=some [.slice none 0 0])/\(aP prog 77=some 6):=by
 and_intros<;>kernel_rfl
@[simp] theorem aRo:(aU prog 77=some true)/\(aW prog 77=false)/\(aI prog 77=false)/\(aF prog 77=none)/\(aS prog 77=none)/\(aM prog 77=some [(0,1),(1,1),(2,1),(3,1),(4,1),(5,1)])/\(aB prog 77 0=some (71,0))/\(aB prog 77 1=some (71,1))/\(aB prog 77 2=some (72,2))/\(aB prog 77 3=some (73,3))/\(aB prog 77 4=some (74,4))/\(aB prog 77 5=some (75,5)):=by
 and_intros<;>kernel_rfl
@[simp] theorem aRh:(aH prog 77=some [.slice none 0 0,.slice none 0 0,.slice none 0 0,.slice none 0 0,.slice none 0 0,.slice none 0 0])/\(aP prog 82=some 1)/\(aU prog 82=some false)/\(aW prog 82=false)/\(aI prog 82=false)/\(aF prog 82=some 47)/\(aS prog 82=some (47,2,48))/\(bZ prog 82=some (2,48,[.slice none 0 0,.slice none 0 0]))/\(aH prog 82=some [.slice none 0 0])/\(aP prog 89=some 5)/\(aU prog 89=some true)/\(aW prog 89=false):=by
 and_intros<;>kernel_rfl
@[simp] theorem aRq:(aI prog 89=false)/\(aF prog 89=none)/\(aS prog 89=none)/\(aM prog 89=some [(0,1),(1,1),(2,1),(3,2)])/\(aB prog 89 0=some (3,0))/\(aB prog 89 1=some (3,1))/\(aB prog 89 2=some (3,2))/\(aB prog 89 3=some (40,3))/\(aH prog 89=some [.int .i64 0,.int .i64 0,.int .i64 0,.slice none 0 0,.slice none 0 0])/\(aP prog 98=some 8)/\(aU prog 98=some true)/\(aW prog 98=false):=by
 and_intros<;>kernel_rfl
@[simp] theorem aQ2:(aI prog 98=false)/\(aF prog 98=none)/\(aS prog 98=none)/\(aM prog 98=some [(0,5),(5,1),(6,2)])/\(aB prog 98 0=some (89,0))/\(aB prog 98 1=some (3,5))/\(aB prog 98 2=some (47,6))/\(aH prog 98=some [.int .i64 0,.int .i64 0,.int .i64 0,.slice none 0 0,.slice none 0 0,.int .i64 0,.slice none 0 0,.slice none 0 0])/\(aP prog 99=some 1)/\(aU prog 99=some false)/\(aW prog 99=false)/\(aI prog 99=false):=by
 and_intros<;>kernel_rfl
@[simp] theorem aQs:(aF prog 99=some 106)/\(aS prog 99=some (106,6,80))/\(bZ prog 99=some (6,80,[.int .i64 0,.int .i64 0,.int .i64 0,.slice none 0 0,.slice none 0 0,.bool false]))/\(aH prog 99=some [.slice none 0 0])/\(aP prog 106=some 6)/\(aU prog 106=some true)/\(aW prog 106=false)/\(aI prog 106=false)/\(aF prog 106=none)/\(aS prog 106=none)/\(aM prog 106=some [(0,5),(5,1)])/\(aB prog 106 0=some (89,0)):=by
 and_intros<;>kernel_rfl
@[simp] theorem aQi:(aB prog 106 1=some (4,5))/\(aH prog 106=some [.int .i64 0,.int .i64 0,.int .i64 0,.slice none 0 0,.slice none 0 0,.bool false])/\(aP prog 117=some 1)/\(aU prog 117=some false)/\(aW prog 117=false)/\(aI prog 117=false)/\(aF prog 117=some 121)/\(aS prog 117=some (121,6,80))/\(bZ prog 117=some (6,80,[.int .i64 0,.int .i64 0,.int .i64 0,.slice none 0 0,.slice none 0 0,.bool false]))/\(aH prog 117=some [.slice none 0 0])/\(aP prog 121=some 6)/\(aU prog 121=some true):=by
 and_intros<;>kernel_rfl
@[simp] theorem aQJ:(aW prog 121=false)/\(aI prog 121=false)/\(aF prog 121=none)/\(aS prog 121=none)/\(aM prog 121=some [(0,5),(5,1)])/\(aB prog 121 0=some (89,0))/\(aB prog 121 1=some (4,5))/\(aH prog 121=some [.int .i64 0,.int .i64 0,.int .i64 0,.slice none 0 0,.slice none 0 0,.bool false])/\(aP prog 129=some 1)/\(aU prog 129=some false)/\(aW prog 129=false)/\(aI prog 129=false):=by
 and_intros<;>kernel_rfl
@[simp] theorem aQm:(aF prog 129=none)/\(aS prog 129=none)/\(lK prog 129=some .u64)/\(aH prog 129=some [.int .u64 0])/\(aP prog 131=some 4)/\(aU prog 131=some true)/\(aW prog 131=false)/\(aI prog 131=false)/\(aF prog 131=none)/\(aS prog 131=none)/\(aM prog 131=some [(0,1),(1,1),(2,1),(3,1)])/\(aB prog 131 0=some (74,0)):=by
 and_intros<;>kernel_rfl
@[simp] theorem aQD:(aB prog 131 1=some (75,1))/\(aB prog 131 2=some (129,2))/\(aB prog 131 3=some (74,3))/\(aH prog 131=some [.slice none 0 0,.slice none 0 0,.int .u64 0,.slice none 0 0])/\(aP prog 132=some 1)/\(aU prog 132=some false)/\(aW prog 132=false)/\(aI prog 132=false)/\(aF prog 132=some 74)/\(aS prog 132=some (74,1,24))/\(bZ prog 132=some (1,24,[.slice none 0 0]))/\(aH prog 132=some [.slice none 0 0]):=by
 and_intros<;>kernel_rfl
@[simp] theorem aQR:(aP prog 134=some 3)/\(aU prog 134=some true)/\(aW prog 134=false)/\(aI prog 134=false)/\(aF prog 134=none)/\(aS prog 134=none)/\(aM prog 134=some [(0,1),(1,1),(2,1)])/\(aB prog 134 0=some (74,0))/\(aB prog 134 1=some (75,1))/\(aB prog 134 2=some (132,2))/\(aH prog 134=some [.slice none 0 0,.slice none 0 0,.slice none 0 0])/\(aP prog 148=some 10):=by
 and_intros<;>kernel_rfl
@[simp] theorem aQA:(aU prog 148=some true)/\(aW prog 148=false)/\(aI prog 148=false)/\(aF prog 148=none)/\(aS prog 148=none)/\(aM prog 148=some [(0,2),(2,2),(4,2),(6,2),(8,2)])/\(aB prog 148 0=some (40,0))/\(aB prog 148 1=some (40,2))/\(aB prog 148 2=some (40,4))/\(aB prog 148 3=some (47,6))/\(aB prog 148 4=some (47,8))/\(aH prog 148=some [.slice none 0 0,.slice none 0 0,.slice none 0 0,.slice none 0 0,.slice none 0 0,.slice none 0 0,.slice none 0 0,.slice none 0 0,.slice none 0 0,.slice none 0 0]):=by
 and_intros<;>kernel_rfl
@[simp] theorem aQh:(aP prog 155=some 1)/\(aU prog 155=some false)/\(aW prog 155=false)/\(aI prog 155=false)/\(aF prog 155=some 9)/\(aS prog 155=some (9,1,16))/\(bZ prog 155=some (1,16,[.string ⟨#[]⟩]))/\(aH prog 155=some [.slice none 0 0])/\(aP prog 157=some 4)/\(aU prog 157=some true)/\(aW prog 157=false)/\(aI prog 157=false):=by
 and_intros<;>kernel_rfl
@[simp] theorem aQd:(aF prog 157=none)/\(aS prog 157=none)/\(aM prog 157=some [(0,1),(1,1),(2,1),(3,1)])/\(aB prog 157 0=some (9,0))/\(aB prog 157 1=some (3,1))/\(aB prog 157 2=some (3,2))/\(aB prog 157 3=some (155,3))/\(aH prog 157=some [.string ⟨#[]⟩,.int .i64 0,.int .i64 0,.slice none 0 0])/\(aP prog 158=some 1)/\(aU prog 158=some false)/\(aW prog 158=false)/\(aI prog 158=false):=by
 and_intros<;>kernel_rfl
@[simp] theorem aQ8:(aF prog 158=some 157)/\(aS prog 158=some (157,4,56))/\(bZ prog 158=some (4,56,[.string ⟨#[]⟩,.int .i64 0,.int .i64 0,.slice none 0 0]))/\(aH prog 158=some [.slice none 0 0])/\(aP prog 160=some 4)/\(aU prog 160=some true)/\(aW prog 160=false)/\(aI prog 160=false)/\(aF prog 160=none)/\(aS prog 160=none)/\(aM prog 160=some [(0,1),(1,1),(2,1),(3,1)])/\(aB prog 160 0=some (9,0)):=by
 and_intros<;>kernel_rfl
@[simp] theorem aRd:(aB prog 160 1=some (3,1))/\(aB prog 160 2=some (4,2))/\(aB prog 160 3=some (158,3))/\(aH prog 160=some [.string ⟨#[]⟩,.int .i64 0,.bool false,.slice none 0 0])/\(aP prog 162=some 7)/\(aU prog 162=some true)/\(aW prog 162=false)/\(aI prog 162=false)/\(aF prog 162=none)/\(aS prog 162=none)/\(aM prog 162=some [(0,1),(1,1),(2,1),(3,1),(4,1),(5,1),(6,1)])/\(aB prog 162 0=some (9,0)):=by
 and_intros<;>kernel_rfl
@[simp] theorem aQW:(aB prog 162 1=some (3,1))/\(aB prog 162 2=some (3,2))/\(aB prog 162 3=some (3,3))/\(aB prog 162 4=some (3,4))/\(aB prog 162 5=some (3,5))/\(aB prog 162 6=some (3,6))/\(aH prog 162=some [.string ⟨#[]⟩,.int .i64 0,.int .i64 0,.int .i64 0,.int .i64 0,.int .i64 0,.int .i64 0])/\(aP prog 164=some 3)/\(aU prog 164=some true)/\(aW prog 164=false)/\(aI prog 164=false)/\(aF prog 164=none):=by
 and_intros<;>kernel_rfl
@[simp] theorem aRp:(aS prog 164=none)/\(eqT prog 164=some 3)/\(aM prog 164=some [(0,1),(1,1),(2,1)])/\(aB prog 164 0=some (3,0))/\(aB prog 164 1=some (3,1))/\(aB prog 164 2=some (3,2))/\(aH prog 164=some [.int .i64 0,.int .i64 0,.int .i64 0])/\(aP prog 175=some 1)/\(aU prog 175=some false)/\(aW prog 175=false)/\(aI prog 175=false)/\(aF prog 175=some 179):=by
 and_intros<;>kernel_rfl
@[simp] theorem aQU:(aS prog 175=some (179,6,144))/\(bZ prog 175=some (6,144,[.slice none 0 0,.slice none 0 0,.slice none 0 0,.slice none 0 0,.slice none 0 0,.slice none 0 0]))/\(aH prog 175=some [.slice none 0 0])/\(aP prog 179=some 6)/\(aU prog 179=some true)/\(aW prog 179=false)/\(aI prog 179=false)/\(aF prog 179=none)/\(aS prog 179=none)/\(aM prog 179=some [(0,2),(2,2),(4,2)])/\(aB prog 179 0=some (40,0))/\(aB prog 179 1=some (47,2)):=by
 and_intros<;>kernel_rfl
@[simp] theorem aRe:(aB prog 179 2=some (47,4))/\(aH prog 179=some [.slice none 0 0,.slice none 0 0,.slice none 0 0,.slice none 0 0,.slice none 0 0,.slice none 0 0])/\(aP prog 182=some 4)/\(aU prog 182=some true)/\(aW prog 182=false)/\(aI prog 182=false)/\(aF prog 182=none)/\(aS prog 182=none)/\(aM prog 182=some [(0,2),(2,2)])/\(aB prog 182 0=some (47,0))/\(aB prog 182 1=some (40,2))/\(aH prog 182=some [.slice none 0 0,.slice none 0 0,.slice none 0 0,.slice none 0 0]):=by
 and_intros<;>kernel_rfl
@[simp] theorem aQM:(aP prog 184=some 2)/\(aU prog 184=some true)/\(aW prog 184=false)/\(aI prog 184=false)/\(aF prog 184=none)/\(aS prog 184=none)/\(pE prog 184=some (2,5))/\(aM prog 184=none)/\(aH prog 184=some [.int .u8 0,.int .u8 0])/\(aP prog 189=some 3)/\(aU prog 189=some true)/\(aW prog 189=false):=by
 and_intros<;>kernel_rfl
@[simp] theorem aQP:(aI prog 189=false)/\(aF prog 189=none)/\(aS prog 189=none)/\(pE prog 189=some (3,5))/\(aM prog 189=none)/\(aH prog 189=some [.int .u8 0,.int .u8 0,.int .u8 0])/\(aP prog 196=some 1)/\(aU prog 196=some false)/\(aW prog 196=false)/\(aI prog 196=false)/\(aF prog 196=none)/\(aS prog 196=none):=by
 and_intros<;>kernel_rfl
@[simp] theorem aQ9:(aH prog 196=some [.pointer none])/\(aP prog 198=some 11)/\(aU prog 198=some true)/\(aW prog 198=false)/\(aI prog 198=false)/\(aF prog 198=none)/\(aS prog 198=none)/\(aM prog 198=some [(0,2),(2,2),(4,2),(6,2),(8,1),(9,1),(10,1)])/\(aB prog 198 0=some (25,0))/\(aB prog 198 1=some (40,2))/\(aB prog 198 2=some (40,4))/\(aB prog 198 3=some (47,6)):=by
 and_intros<;>kernel_rfl
@[simp] theorem aQ5:(aB prog 198 4=some (4,8))/\(aB prog 198 5=some (3,9))/\(aB prog 198 6=some (82,10))/\(aH prog 198=some [.slice none 0 0,.slice none 0 0,.slice none 0 0,.slice none 0 0,.slice none 0 0,.slice none 0 0,.slice none 0 0,.slice none 0 0,.bool false,.int .i64 0,.slice none 0 0])/\(aP prog 201=some 8)/\(aU prog 201=some true)/\(aW prog 201=false)/\(aI prog 201=false)/\(aF prog 201=none)/\(aS prog 201=none)/\(aM prog 201=some [(0,2),(2,2),(4,2),(6,2)])/\(aB prog 201 0=some (40,0)):=by
 and_intros<;>kernel_rfl
@[simp] theorem aQy:(aB prog 201 1=some (40,2))/\(aB prog 201 2=some (46,4))/\(aB prog 201 3=some (47,6))/\(aH prog 201=some [.slice none 0 0,.slice none 0 0,.slice none 0 0,.slice none 0 0,.slice none 0 0,.slice none 0 0,.slice none 0 0,.slice none 0 0])/\(aP prog 203=some 1)/\(aU prog 203=some false)/\(aW prog 203=false)/\(aI prog 203=false)/\(aF prog 203=some 277)/\(aS prog 203=some (277,2,16))/\(bZ prog 203=some (2,16,[.int .i64 0,.int .i64 0]))/\(aH prog 203=some [.slice none 0 0]):=by
 and_intros<;>kernel_rfl
@[simp] theorem aQF:(aP prog 227=some 1)/\(aU prog 227=some false)/\(aW prog 227=false)/\(aI prog 227=false)/\(aF prog 227=some 4)/\(aS prog 227=some (4,1,1))/\(bZ prog 227=some (1,1,[.bool false]))/\(aH prog 227=some [.slice none 0 0])/\(aP prog 233=some 1)/\(aU prog 233=some false)/\(aH prog 233=some [.nilFunc])/\(aF prog 238=none):=by
 and_intros<;>kernel_rfl
@[simp] theorem aP2:(lK prog 238=some .u64)/\(aP prog 247=some 1)/\(aU prog 247=some false)/\(aW prog 247=false)/\(aI prog 247=false)/\(aF prog 247=some 40)/\(aS prog 247=some (40,2,48))/\(bZ prog 247=some (2,48,[.slice none 0 0,.slice none 0 0]))/\(aH prog 247=some [.slice none 0 0])/\(aP prog 251=some 1)/\(aU prog 251=some false)/\(aW prog 251=false):=by
 and_intros<;>kernel_rfl
@[simp] theorem aRj:(aI prog 251=false)/\(aF prog 251=none)/\(aS prog 251=none)/\(aH prog 251=some [.pointer none])/\(aP prog 252=some 1)/\(aU prog 252=some false)/\(aW prog 252=false)/\(aI prog 252=false)/\(aF prog 252=some 227)/\(aS prog 252=some (227,1,24))/\(bZ prog 252=some (1,24,[.slice none 0 0]))/\(aH prog 252=some [.slice none 0 0]):=by
 and_intros<;>kernel_rfl
@[simp] theorem aQv:(aP prog 255=some 12)/\(aU prog 255=some true)/\(aW prog 255=false)/\(aI prog 255=false)/\(aF prog 255=none)/\(aS prog 255=none)/\(aM prog 255=some [(0,2),(2,2),(4,1),(5,2),(7,1),(8,1),(9,1),(10,1),(11,1)])/\(aB prog 255 0=some (40,0))/\(aB prog 255 1=some (40,2))/\(aB prog 255 2=some (252,4))/\(aB prog 255 3=some (47,5))/\(aB prog 255 4=some (4,7)):=by
 and_intros<;>kernel_rfl
@[simp] theorem aQq:(aB prog 255 5=some (3,8))/\(aB prog 255 6=some (37,9))/\(aB prog 255 7=some (37,10))/\(aB prog 255 8=some (82,11))/\(aH prog 255=some [.slice none 0 0,.slice none 0 0,.slice none 0 0,.slice none 0 0,.slice none 0 0,.slice none 0 0,.slice none 0 0,.bool false,.int .i64 0,.slice none 0 0,.slice none 0 0,.slice none 0 0])/\(aP prog 257=some 1)/\(aU prog 257=some false)/\(aW prog 257=false)/\(aI prog 257=false)/\(aF prog 257=none)/\(aS prog 257=none)/\(aH prog 257=some [.pointer none]):=by
 and_intros<;>kernel_rfl
@[simp] theorem aRt:(aP prog 259=some 5)/\(aU prog 259=some true)/\(aW prog 259=false)/\(aI prog 259=false)/\(aF prog 259=none)/\(aS prog 259=none)/\(aM prog 259=some [(0,2),(2,2),(4,1)])/\(aB prog 259 0=some (40,0))/\(aB prog 259 1=some (40,2))/\(aB prog 259 2=some (175,4))/\(aH prog 259=some [.slice none 0 0,.slice none 0 0,.slice none 0 0,.slice none 0 0,.slice none 0 0])/\(aP prog 261=some 1):=by
 and_intros<;>kernel_rfl
@[simp] theorem aQz:(aU prog 261=some false)/\(aW prog 261=false)/\(aI prog 261=false)/\(aF prog 261=none)/\(aS prog 261=none)/\(aH prog 261=some [.pointer none])/\(aP prog 263=some 5)/\(aU prog 263=some true)/\(aW prog 263=false)/\(aI prog 263=false)/\(aF prog 263=none)/\(aS prog 263=none):=by
 and_intros<;>kernel_rfl
@[simp] theorem aQH:(aM prog 263=some [(0,2),(2,2),(4,1)])/\(aB prog 263 0=some (40,0))/\(aB prog 263 1=some (40,2))/\(aB prog 263 2=some (175,4))/\(aH prog 263=some [.slice none 0 0,.slice none 0 0,.slice none 0 0,.slice none 0 0,.slice none 0 0])/\(aP prog 269=some 1)/\(aU prog 269=some false)/\(aW prog 269=false)/\(aI prog 269=false)/\(aF prog 269=none)/\(aS prog 269=none)/\(aH prog 269=some [.nilFunc]):=by
 and_intros<;>kernel_rfl
@[simp] theorem aRb:(aP prog 275=some 3)/\(aU prog 275=some true)/\(aW prog 275=false)/\(aI prog 275=false)/\(aF prog 275=none)/\(aS prog 275=none)/\(aM prog 275=some [(0,1),(1,1),(2,1)])/\(aB prog 275 0=some (3,0))/\(aB prog 275 1=some (9,1))/\(aB prog 275 2=some (3,2))/\(aH prog 275=some [.int .i64 0,.string ⟨#[]⟩,.int .i64 0])/\(aP prog 277=some 2):=by
 and_intros<;>kernel_rfl
@[simp] theorem aQL:(aU prog 277=some true)/\(aW prog 277=false)/\(aI prog 277=false)/\(aF prog 277=none)/\(aS prog 277=none)/\(eqT prog 277=some 2)/\(aM prog 277=some [(0,1),(1,1)])/\(aB prog 277 0=some (3,0))/\(aB prog 277 1=some (3,1))/\(aH prog 277=some [.int .i64 0,.int .i64 0])/\(aP prog 299=some 24)/\(aU prog 299=some true):=by
 and_intros<;>kernel_rfl
@[simp] theorem aQ7:(aW prog 299=false)/\(aI prog 299=false)/\(aF prog 299=none)/\(aS prog 299=none)/\(pE prog 299=some (24,5))/\(aM prog 299=none)/\(aH prog 299=some [.int .u8 0,.int .u8 0,.int .u8 0,.int .u8 0,.int .u8 0,.int .u8 0,.int .u8 0,.int .u8 0,.int .u8 0,.int .u8 0,.int .u8 0,.int .u8 0,.int .u8 0,.int .u8 0,.int .u8 0,.int .u8 0,.int .u8 0,.int .u8 0,.int .u8 0,.int .u8 0,.int .u8 0,.int .u8 0,.int .u8 0,.int .u8 0])/\(aP prog 304=some 1)/\(aU prog 304=some false)/\(aW prog 304=false)/\(aI prog 304=false)/\(aF prog 304=some 44):=by
 and_intros<;>kernel_rfl
@[simp] theorem aQk:(aS prog 304=some (44,5,104))/\(bZ prog 304=some (5,104,[.slice none 0 0,.slice none 0 0,.slice none 0 0,.int .i64 0,.slice none 0 0]))/\(aH prog 304=some [.slice none 0 0])/\(aP prog 311=some 1)/\(aU prog 311=some false)/\(aW prog 311=false)/\(aI prog 311=false)/\(aF prog 311=some 37)/\(aS prog 311=some (37,1,24))/\(bZ prog 311=some (1,24,[.slice none 0 0]))/\(aH prog 311=some [.slice none 0 0])/\(aP prog 321=some 1):=by
 and_intros<;>kernel_rfl
@[simp] theorem aQt:(aU prog 321=some false)/\(aW prog 321=false)/\(aI prog 321=false)/\(aF prog 321=none)/\(aS prog 321=none)/\(lK prog 321=some .u32)/\(aH prog 321=some [.int .u32 0])/\(aP prog 328=some 20)/\(aU prog 328=some true)/\(aW prog 328=false)/\(aI prog 328=false)/\(aF prog 328=none):=by
 and_intros<;>kernel_rfl
@[simp] theorem aQE:(aS prog 328=none)/\(pE prog 328=some (20,129))/\(aM prog 328=none)/\(aH prog 328=some [.int .u64 0,.int .u64 0,.int .u64 0,.int .u64 0,.int .u64 0,.int .u64 0,.int .u64 0,.int .u64 0,.int .u64 0,.int .u64 0,.int .u64 0,.int .u64 0,.int .u64 0,.int .u64 0,.int .u64 0,.int .u64 0,.int .u64 0,.int .u64 0,.int .u64 0,.int .u64 0])/\(aP prog 329=some 65)/\(aU prog 329=some true)/\(aW prog 329=false)/\(aI prog 329=false)/\(aF prog 329=none)/\(aS prog 329=none)/\(pE prog 329=some (65,5))/\(aM prog 329=none):=by
 and_intros<;>kernel_rfl
@[simp] theorem aRi:(aH prog 329=some [.int .u8 0,.int .u8 0,.int .u8 0,.int .u8 0,.int .u8 0,.int .u8 0,.int .u8 0,.int .u8 0,.int .u8 0,.int .u8 0,.int .u8 0,.int .u8 0,.int .u8 0,.int .u8 0,.int .u8 0,.int .u8 0,.int .u8 0,.int .u8 0,.int .u8 0,.int .u8 0,.int .u8 0,.int .u8 0,.int .u8 0,.int .u8 0,.int .u8 0,.int .u8 0,.int .u8 0,.int .u8 0,.int .u8 0,.int .u8 0,.int .u8 0,.int .u8 0,.int .u8 0,.int .u8 0,.int .u8 0,.int .u8 0,.int .u8 0,.int .u8 0,.int .u8 0,.int .u8 0,.int .u8 0,.int .u8 0,.int .u8 0,.int .u8 0,.int .u8 0,.int .u8 0,.int .u8 0,.int .u8 0,.int .u8 0,.int .u8 0,.int .u8 0,.int .u8 0,.int .u8 0,.int .u8 0,.int .u8 0,.int .u8 0,.int .u8 0,.int .u8 0,.int .u8 0,.int .u8 0,.int .u8 0,.int .u8 0,.int .u8 0,.int .u8 0,.int .u8 0])/\(aP prog 339=some 1)/\(aU prog 339=some false)/\(aH prog 339=some [.nilFunc])/\(aP prog 354=some 1)/\(aU prog 354=some false)/\(aW prog 354=false)/\(aI prog 354=false)/\(aF prog 354=none)/\(aS prog 354=none)/\(aH prog 354=some [.pointer none])/\(aP prog 358=some 32):=by
 and_intros<;>kernel_rfl
@[simp] theorem aQf:(aU prog 358=some true)/\(aW prog 358=false)/\(aI prog 358=false)/\(aF prog 358=none)/\(aS prog 358=none)/\(pE prog 358=some (32,5))/\(aM prog 358=none)/\(aH prog 358=some [.int .u8 0,.int .u8 0,.int .u8 0,.int .u8 0,.int .u8 0,.int .u8 0,.int .u8 0,.int .u8 0,.int .u8 0,.int .u8 0,.int .u8 0,.int .u8 0,.int .u8 0,.int .u8 0,.int .u8 0,.int .u8 0,.int .u8 0,.int .u8 0,.int .u8 0,.int .u8 0,.int .u8 0,.int .u8 0,.int .u8 0,.int .u8 0,.int .u8 0,.int .u8 0,.int .u8 0,.int .u8 0,.int .u8 0,.int .u8 0,.int .u8 0,.int .u8 0])/\(aP prog 359=some 64)/\(aU prog 359=some true)/\(aW prog 359=false)/\(aI prog 359=false):=by
 and_intros<;>kernel_rfl
@[simp] theorem aQC:(aF prog 359=none)/\(aS prog 359=none)/\(pE prog 359=some (64,5))/\(aM prog 359=none)/\(aH prog 359=some [.int .u8 0,.int .u8 0,.int .u8 0,.int .u8 0,.int .u8 0,.int .u8 0,.int .u8 0,.int .u8 0,.int .u8 0,.int .u8 0,.int .u8 0,.int .u8 0,.int .u8 0,.int .u8 0,.int .u8 0,.int .u8 0,.int .u8 0,.int .u8 0,.int .u8 0,.int .u8 0,.int .u8 0,.int .u8 0,.int .u8 0,.int .u8 0,.int .u8 0,.int .u8 0,.int .u8 0,.int .u8 0,.int .u8 0,.int .u8 0,.int .u8 0,.int .u8 0,.int .u8 0,.int .u8 0,.int .u8 0,.int .u8 0,.int .u8 0,.int .u8 0,.int .u8 0,.int .u8 0,.int .u8 0,.int .u8 0,.int .u8 0,.int .u8 0,.int .u8 0,.int .u8 0,.int .u8 0,.int .u8 0,.int .u8 0,.int .u8 0,.int .u8 0,.int .u8 0,.int .u8 0,.int .u8 0,.int .u8 0,.int .u8 0,.int .u8 0,.int .u8 0,.int .u8 0,.int .u8 0,.int .u8 0,.int .u8 0,.int .u8 0,.int .u8 0])/\(eqT prog 379=some 2)/\(aM prog 379=some [(0,1),(1,1)])/\(aB prog 379 0=some (3,0))/\(aB prog 379 1=some (3,1))/\(aP prog 381=some 4)/\(aU prog 381=some true)/\(aW prog 381=false):=by
 and_intros<;>kernel_rfl
@[simp] theorem aQ1:(aI prog 381=false)/\(aF prog 381=none)/\(aS prog 381=none)/\(aM prog 381=some [(0,1),(1,1),(2,2)])/\(aB prog 381 0=some (3,0))/\(aB prog 381 1=some (3,1))/\(aB prog 381 2=some (379,2))/\(aH prog 381=some [.int .i64 0,.int .i64 0,.int .i64 0,.int .i64 0])/\(aP prog 383=some 5)/\(aU prog 383=some true)/\(aW prog 383=false)/\(aI prog 383=false):=by
 and_intros<;>kernel_rfl
@[simp] theorem aP0:(aF prog 383=none)/\(aS prog 383=none)/\(aM prog 383=some [(0,1),(1,2),(3,2)])/\(aB prog 383 0=some (3,0))/\(aB prog 383 1=some (379,1))/\(aB prog 383 2=some (379,3))/\(aH prog 383=some [.int .i64 0,.int .i64 0,.int .i64 0,.int .i64 0,.int .i64 0]):=by
 and_intros<;>kernel_rfl
variable {P:Program}
attribute [simp] uX tP aJX aJ2 Own.live rU aFR aB9 xS qN Gd.tt Gd.tf Gd.ft Gd.ff fN fR fW fA AS.ev aKF aF6 iQ jG aMo aEL cD aJE aKK aAM gF gI gD aJJ unF aES pT aN cB aMb aIK dN AV.cells? AV.elems? yM AV.toD mL rB setCells aEG qS
@[simp] theorem aNS{cx:Cx}{ops:Array Oper}{dr:Bool}{K:AS->Prop}{t:Nat->AV}{b:Bxs}{k:Nat->Bool}{n:Nat}:kE P cx ops dr [] K ⟨t,b,k,n⟩=K ⟨t,b,k,n⟩:=by simp only[kE]
@[simp] theorem aM7{cx:Cx}{ops:Array Oper}{dr:Bool}{o:Oper}{r:List Oper}{K:AS->Prop}{t:Nat->AV}{b:Bxs}{k:Nat->Bool}{n:Nat}:kE P cx ops dr (o::r) K ⟨t,b,k,n⟩=match o.guard with
  | none=>xS P cx dr o (kE P cx ops dr r K) ⟨t,b,k,n⟩
  | some (j,want)=>match dN ops ⟨t,b,k,n⟩ j with
   | some (some c)=>Gd c want (xS P cx dr o (kE P cx ops dr r K)) (qN o.dst (kE P cx ops dr r K)) ⟨t,b,k,n⟩
   | some none=>qN o.dst (kE P cx ops dr r K) ⟨t,b,k,n⟩
   | none=>False:=by
 simp only[kE];all_goals rfl
@[simp] theorem aNa{tok:Nat->Bool}:Own.full.liveP tok=True:=rfl
@[simp] theorem aNj{tok:Nat->Bool}:Own.full.kill tok=tok:=rfl
@[simp] theorem aIV{tok:Nat->Bool}{t:Nat}:(Own.tok t).liveP tok=(tok t=true):=rfl
@[simp] theorem aBN{tok:Nat->Bool}{t:Nat}:(Own.tok t).kill tok=upd tok t false:=rfl
def ToL(p q:Nat->Prop)(fz:Option (Nat × Nat × List (List D)))(l:List (Nat × AV)):List (Nat × AV)->Prop
 | []=>True
 | (i,v)::r=>To p q fz (tl l i) v/\ToL p q fz l r
theorem ToL.all{p q:Nat->Prop}{fz:Option (Nat × Nat × List (List D))}{l:List (Nat × AV)}:∀{l':List (Nat × AV)},ToL p q fz l l'->∀t,To p q fz (tl l t) (tl l' t)
 | [],_,t=>.bot
 | (i,v)::r,h,t=>by
  rw[jG];split
  .rename_i e;subst e;exact h.1
  .exact ToL.all h.2 t
def aE(p q:Nat->Prop)(fz:Option (Nat × Nat × List (List D)))(loc:List (Nat × List (List AV))):List (Nat × List (List AV))->Prop
 | []=>True
 | (s,rows')::r=>(∃rows,lk loc s=some rows/\gA p q fz rows rows')/\aE p q fz loc r
theorem aE.all{p q:Nat->Prop}{fz:Option (Nat × Nat × List (List D))}{loc:List (Nat × List (List AV))}:∀{loc':List (Nat × List (List AV))},aE p q fz loc loc'->∀s rows',lk loc' s=some rows'->∃rows,lk loc s=some rows/\gA p q fz rows rows'
 | [],_,s,rows',h=>by simp[lk] at h
 | (i,v)::r,h,s,rows',hs=>by
  rw[cB] at hs;split at hs
  .rename_i e;subst e;cases hs;exact h.1
  .exact aE.all h.2 s rows' hs
theorem bB.mk'{cx:Cx}{nt0 nt:Nat}{l l':List (Nat × AV)}{out:Bxs}{loc loc':List (Nat × List (List AV))}{tok:Nat->Bool}(ox:nt0<=nt)(hl:ToL (fun k=>lb cx.base out loc' k≠none) (fun _=>True) none l l')(hb:aE (fun k=>lb cx.base out loc' k≠none) (fun _=>True) none loc loc')(ho:∀k rows,k<cx.base->out k=some rows->cx.B0 k=some rows∨∀r∈rows,∀x∈r,bD (fun k=>lb cx.base out loc' k≠none) (fun _=>True) x):
  bB cx nt0 ⟨tl l,lb cx.base out loc,tok,nt⟩ ⟨tl l',lb cx.base out loc',tok,nt⟩:=by
 refine⟨out,loc,loc',none,rfl,rfl,nr0 _,ox,fun t h=>⟨h,.inl rfl⟩,?_,?_,(fun _ _ _ h=>by cases h),?_⟩
 .simp only[true_or,fj];exact hl.all
 .simp only[true_or,fj];exact hb.all
 .simp only[true_or];exact ho
theorem wM{cx:Cx}{nt0 nt:Nat}{l l':List (Nat × AV)}{out:Bxs}{loc loc':List (Nat × List (List AV))}{tok:Nat->Bool}(ox:nt0<=nt)(ho:out=cx.B0)(hl:ToL (fun k=>lb cx.base out loc' k≠none) (fun _=>True) none l l')(hb:aE (fun k=>lb cx.base out loc' k≠none) (fun _=>True) none loc loc'):
  bB cx nt0 ⟨tl l,lb cx.base out loc,tok,nt⟩ ⟨tl l',lb cx.base out loc',tok,nt⟩ :=
 bB.mk' ox hl hb fun k rows _ h=>.inl (by rw[<-ho];exact h)
theorem Fin.data{cx:Cx}{nt0 nt:Nat}{rs:List ResultVar}{l:List (Nat × AV)}{out:Bxs}{loc:List (Nat × List (List AV))}{tok mtok:Nat->Bool}{vs:List AV}{av:AV}(hres:aV P ⟨tl l,lb cx.base out loc,tok,nt⟩ rs=some vs)(Hb:lb cx.base out []=out)(ho:out=cx.B0)(hm:∀t,mtok t=true->t<nt0)(Ht:∀t,mtok t=true->tok t=true)(ox:nt0<=nt)(hto:To (fun k=>lb cx.base out [] k≠none) (fun t=>nt0=nt∨t<nt0) none (rC vs) av):Fin P cx nt0 rs (fun v' m'=>v'=av/\m'=⟨out,cx.base,mtok,nt0⟩) ⟨tl l,lb cx.base out loc,tok,nt⟩ :=
 ⟨vs,out,loc,none,av,⟨out,cx.base,mtok,nt0⟩,hres,⟨rfl,rfl,ox,nr0 _,fun t h=>⟨Ht t h,.inr (hm t h)⟩,fun _=>.bot,fun s rows' h=>by simp[lk] at h,(fun _ _ _ h=>by cases h),
  fun k rows _ h=>.inl (by rw[<-ho];exact h)⟩,Hb.symm,rfl,by simpa using hto,rfl,rfl⟩
section
variable {p q:Nat->Prop} {fz:Option (Nat × Nat × List (List D))}
@[simp] theorem aRT(x:AV):To p q fz x .bot:=.bot
@[simp] theorem aR6(x:D):To p q fz (.d x) (.d x):=.same .d
@[simp] theorem aRr(sz:Nat)(es:List (List D))(o:Own):To p q fz (.osl sz es o) (.d (.sl sz es)):=.data
@[simp] theorem aRG(sz:Nat)(es:List (List D))(o:Own):To p (fun _=>True) fz (.osl sz es o) (.osl sz es o):=.same (.osl fun _ _=>trivial)
theorem aJ9{sz:Nat}{es:List (List D)}{r r':List D}(h:DS1 r r')(o:Own):To p (fun _=>True) fz (.osl sz (es++[r]) o) (.osl sz (es++[r']) o):=.otok ((DSs.snoc h).sub sz) fun _ _=>trivial
@[simp] theorem aP4(sz:Nat)(es:List (List D)):To p q fz (.osl sz es .full) (.osl sz es .full):=.same (.osl fun _ h=>by cases h)
@[simp] theorem aP9(sz sz':Nat)(h:sz'=0->sz=0):To p q fz (.osl sz [] .full) (.osl sz' [] .full):=.nil h rfl
@[simp] theorem aP8(sz sz':Nat)(o:Own):To p q fz (.osl sz [] o) (.d (.sl sz' [])):=.odsub .emp
@[simp] theorem aQp(sz sz':Nat):To p q fz (.d (.sl sz [])) (.d (.sl sz' [])):=.dsub .emp
@[simp] theorem aRf(sz sz':Nat):To p q fz (.osl 1 [[.sl sz []]] .full) (.osl 1 [[.sl sz' []]] .full) :=
 .osub (fun e=>by cases e) (.sl rfl (fun i h1 h2=>by simp at h1;subst h1;rfl) (fun i h1 h2 j g1 g2=>by simp at h1;subst h1;simp at g1;subst g1;exact .emp))
@[simp] theorem aQV(sz sz':Nat)(o:Own):To p q fz (.osl 1 [[.sl sz []]] o) (.d (.sl 1 [[.sl sz' []]])) :=
 .odsub (.sl rfl (fun i h1 h2=>by simp at h1;subst h1;rfl) (fun i h1 h2 j g1 g2=>by simp at h1;subst h1;simp at g1;subst g1;exact .emp))
@[simp] theorem aQ3(cs:List D)(off:Nat):To p q fz (.cptr cs off) (.cptr cs off):=.same .cptr
theorem bG{k i off:Nat}(h:p k):To p q fz (.ptr k i off) (.ptr k i off):=.same (.ptr h)
@[simp] theorem aGr{base s i off:Nat}{out:Bxs}{loc:List (Nat × List (List AV))}:To (fun k=>lb base out loc k≠none) q fz (.ptr (base+s) i off) (.ptr (base+s) i off)↔lk loc s≠none:=by
 constructor
 .intro h;cases h with
  | same h=>cases h with|ptr h=>rw[aN] at h;exact h
 .intro h;exact bG (by rw[aN];exact h)
@[simp] theorem aR1(E:TypeId)(t:Nat)(es:List (List D)):To p (fun _=>True) fz (.buf E t es) (.buf E t es):=.same (.buf trivial)
@[simp] theorem aMt{base s:Nat}{T:TypeId}{out:Bxs}{loc:List (Nat × List (List AV))}:To (fun k=>lb base out loc k≠none) q fz (.here (base+s) T) (.here (base+s) T)↔lk loc s≠none:=by
 constructor
 .intro h;cases h with
  | same h=>cases h with|here h=>rw[aN] at h;exact h
 .intro h;exact .same (.here (by rw[aN];exact h))
@[simp] theorem aM8{base s off n sz:Nat}{out:Bxs}{loc:List (Nat × List (List AV))}:To (fun k=>lb base out loc k≠none) q fz (.msl (base+s) off n sz) (.msl (base+s) off n sz)↔lk loc s≠none:=by
 constructor
 .intro h;cases h with
  | same h=>cases h with|msl h=>rw[aN] at h;exact h
 .intro h;exact .same (.msl (by rw[aN];exact h))
@[simp] theorem aRY(x:D):bD p q (.d x):=.d
@[simp] theorem aPH:bD p q .bot:=.bot
@[simp] theorem aN6(sz:Nat)(es:List (List D))(o:Own):bD p (fun _=>True) (.osl sz es o):=.osl fun _ _=>trivial
@[simp] theorem aNE{k i off:Nat}:bD p q (.ptr k i off)↔p k:=⟨fun h=>by cases h;assumption,.ptr⟩
@[simp] theorem uK{cs:List AV}:bD p q (.agg cs)↔∀c∈cs,bD p q c:=⟨fun h=>by cases h;assumption,.agg⟩
@[simp] theorem aP5{f:Fn}{cs:List AV}:bD p q (.fn f cs)↔∀c∈cs,bD p q c:=⟨fun h=>by cases h;assumption,.fn⟩
@[simp] theorem aMF:To p q fz (.tup []) (.tup []):=.tup rfl fun i h=>by simp at h
theorem aCK{a b:AV}{kg bs:List AV}(h:To p q fz a b)(k:To p q fz (.agg kg) (.agg bs)):To p q fz (.agg (a::kg)) (.agg (b::bs)):=by
 cases k with
 | same k =>
  refine .agg rfl fun i h1 h2=>?_
  cases i with
  | zero=>exact h
  | succ i=>exact .same ((uK.1 k) _ (aa _))
 | agg hl k =>
  refine .agg (by simp[hl]) fun i h1 h2=>?_
  cases i with
  | zero=>exact h
  | succ i=>exact k i (by simpa using h1) (by simpa using h2)
theorem aCT{a b:AV}{kg bs:List AV}(h:To p q fz a b)(k:To p q fz (.tup kg) (.tup bs)):To p q fz (.tup (a::kg)) (.tup (b::bs)):=by
 cases k with
 | same k =>
  refine .tup rfl fun i h1 h2=>?_
  cases i with
  | zero=>exact h
  | succ i=>cases k with|tup k=>exact .same (k _ (aa _))
 | tup hl k =>
  refine .tup (by simp[hl]) fun i h1 h2=>?_
  cases i with
  | zero=>exact h
  | succ i=>exact k i (by simpa using h1) (by simpa using h2)
@[simp] theorem aGL{a b:AV}{kg bs:List AV}:To p q fz (.agg (a::kg)) (.agg (b::bs))↔To p q fz a b/\To p q fz (.agg kg) (.agg bs):=by
 constructor
 .intro h;cases h with
  | same h=>have:=uK.1 h;exact⟨.same (this _ (by simp)),.same (uK.2 fun c hc=>this c (by simp[hc]))⟩
  | agg hl h=>exact⟨h 0 (by simp) (by simp),.agg (by simpa using hl) fun i h1 h2=>h (i+1) (by simpa using h1) (by simpa using h2)⟩
 .exact fun ⟨h,k⟩=>aCK h k
@[simp] theorem aGM{a b:AV}{kg bs:List AV}:To p q fz (.tup (a::kg)) (.tup (b::bs))↔To p q fz a b/\To p q fz (.tup kg) (.tup bs):=by
 constructor
 .intro h;cases h with
  | same h =>
   cases h with
   | tup this=>exact⟨.same (this _ (by simp)),.same (.tup fun c hc=>this c (by simp[hc]))⟩
  | tup hl h=>exact⟨h 0 (by simp) (by simp),.tup (by simpa using hl) fun i h1 h2=>h (i+1) (by simpa using h1) (by simpa using h2)⟩
 .exact fun ⟨h,k⟩=>aCT h k
@[simp] theorem aML:To p q fz (.agg []) (.agg []):=.agg rfl fun i h=>by simp at h
end
def zL(t:List (Nat × AV)):List Oper->Prop
 | []=>True
 | o::r=>(match o.dst with|some d=>NP (tl t d)|none=>True)/\zL t r
theorem zL.all{t:List (Nat × AV)}{l:List Oper}(h:zL t l):∀o∈l,∀d,o.dst=some d->NP (tl t d):=by
 induction l with
 | nil=>intro o ho;simp at ho
 | cons o r ih =>
  intro x hx d hd;unfold zL at h;rcases cj.1 hx with e|hx
  .subst e;have:=h.1
   rw[hd] at this;exact this
  .exact ih h.2 x hx d hd
theorem rF.of{ops:Array Oper}{l:List (Nat × AV)}{b:Bxs}{k:Nat->Bool}{n:Nat}(h:zL l ops.toList):rF ops ⟨tl l,b,k,n⟩ :=
 fun o ho d hd=>h.all o ho d hd
attribute [simp] zL NP NK qV Far aID
theorem sL{cx:Cx}{nt0:Nat}{K:Exit->AS->Prop}{r:List CI}{S:AS}{c:Code}{α:Type}(T:α->AS)(inv:α->Prop)(μ:α->Nat)(a0:α)(h0:inv a0)(hw:bB cx nt0 S (T a0))(jb:∀a S,inv a->S=T a->AL P cx nt0 (fun e S'=>match e with
   | .normal=>∃a',inv a'/\μ a'<μ a/\bB cx nt0 S' (T a')
   | e=>AU P cx nt0 K r e S') [.c c] S):AL P cx nt0 K (.c (.loop c)::r) S:=by
 refine AL.loop (fun n S=>∃a,inv a/\n=μ a/\S=T a) ⟨_,_,hw,a0,h0,rfl,rfl⟩ ?_;rintro n S ⟨a,ha,rfl,hS⟩;have:=AL.start (jb a S ha hS)
 simp only[AL];refine this.mono fun e S' h=>?_
 cases e with
 | normal =>
  obtain⟨a',h1,h2,h3⟩:=h;exact⟨μ a',T a',h2,h3,a',h1,rfl,rfl⟩
 | _=>simpa only[AU] using h
structure TK (mtok:Tks) (nt0:Nat) (tok:Tks) (nt:Nat) (os:List Own):Prop where
 old:∀t,mtok t=true->tok t=true
 lt:∀t,mtok t=true->t<nt0
 le:nt0<=nt
 own:∀o∈os,∀t,o=.tok t->tok t=true/\nt0<=t/\t<nt
 ne:os.Pairwise fun a b=>∀t,a=.tok t->b≠.tok t
theorem TK.start{mtok:Nat->Bool}{nt0:Nat}(h:∀t,mtok t=true->t<nt0):TK mtok nt0 mtok nt0 []:=⟨fun _ h=>h,h,nr0 _,by simp,.nil⟩
theorem TK.full{mtok:Nat->Bool}{nt0:Nat}{tok:Nat->Bool}{nt:Nat}{os:List Own}(h:TK mtok nt0 tok nt os):TK mtok nt0 tok nt (.full::os) :=
 ⟨h.old,h.lt,h.le,fun o ho t e=>by
  rcases cj.1 ho with rfl|ho
  .cases e
  .exact h.own o ho t e,.cons (fun b _ t e=>by cases e) h.ne⟩
theorem TK.live{mtok:Nat->Bool}{nt0:Nat}{tok:Nat->Bool}{nt:Nat}{o:Own}{os:List Own}(h:TK mtok nt0 tok nt (o::os)):o.liveP tok:=by
 cases o with
 | full=>trivial
 | tok t=>exact(h.own _ (by simp) t rfl).1
theorem TK.tail{mtok:Nat->Bool}{nt0:Nat}{tok:Nat->Bool}{nt:Nat}{o:Own}{os:List Own}(h:TK mtok nt0 tok nt (o::os)):TK mtok nt0 tok nt os :=
 ⟨h.old,h.lt,h.le,fun o' ho=>h.own o' (by simp[ho]),(dn.1 h.ne).2⟩
theorem TK.swap{mtok:Nat->Bool}{nt0:Nat}{tok:Nat->Bool}{nt:Nat}{a b:Own}{os:List Own}(h:TK mtok nt0 tok nt (a::b::os)):TK mtok nt0 tok nt (b::a::os):=by
 have h1:=dn.1 h.ne;have h2:=dn.1 h1.2;refine⟨h.old,h.lt,h.le,fun o' ho=>h.own o' (by simp at ho ⊢;rcases ho with h|h|h<;>simp[h]),?_⟩;refine dn.2 ⟨fun c hc t e=>?_,dn.2 ⟨fun c hc=>h1.1 c (by simp[hc]),h2.2⟩⟩;rcases cj.1 hc with rfl|hc
 .intro e';exact h1.1 b (by simp) t e' e
 .exact h2.1 c hc t e
theorem TK.app{mtok:Nat->Bool}{nt0:Nat}{tok:Nat->Bool}{nt:Nat}{o:Own}{os:List Own}(h:TK mtok nt0 tok nt (o::os)):TK mtok nt0 (upd (o.kill tok) nt true) (nt+1) (.tok nt::os):=by
 have hp:=dn.1 h.ne;have key:∀t,t<nt->(∀t',o=.tok t'->t≠t')->(upd (o.kill tok) nt true) t=tok t:=by
  intro t ht hne;rw[uO _ _ (by omega)];cases o with
  | full=>rfl
  | tok t'=>simp only[Own.kill];rw[uO _ _ (hne t' rfl)]
 have g9:=h.le;refine⟨fun t ht=>?_,h.lt,by omega,fun o' ho t e=>?_,?_⟩
 .have hlt:=h.lt t ht;rw[key t (by omega) (fun t' e=>by have:=(h.own o (by simp) t' e).2.1;omega)];exact h.old t ht
 .rcases cj.1 ho with rfl|ho
  .cases e;exact⟨by rw[uS],g9,by omega⟩
  .obtain⟨h1,h2,h3⟩:=h.own o' (by simp[ho]) t e;refine⟨?_,h2,by omega⟩;rw[key t h3 (fun t' e'=>fun e2=>by subst e2;exact hp.1 o' ho t e' e)];exact h1
 .refine dn.2 ⟨fun b hb t e e'=>?_,hp.2⟩;cases e;have:=(h.own b (by simp[hb]) _ e').2.2
  omega
theorem aT.of_b{cx:Cx}{fid:FuncId}{args:List AV}{S:AS}{dst:Option Tmp}{K:AS->Prop}{v:AV}{tok':Nat->Bool}{nt':Nat}(h:aC P fid args ⟨S.box,cx.nb,S.tok,S.nt⟩ fun v' m'=>v'=v/\m'=⟨S.box,cx.nb,tok',nt'⟩)(hk:K ⟨bU S.tmps dst v,S.box,tok',nt'⟩):aT P cx false fid args S dst K:=by
 refine h.mono ?_;rintro v' m' ⟨rfl,rfl⟩;exact hk
theorem bH{nb k:Nat}{box:Bxs}{r:List (List AV)}(Hb:lb nb box []=box)(h:box k=some r):k<nb:=by
 rcases fo k nb with h1|h1
 .exact h1
 .rw[<-Hb] at h;have:¬k<nb:=by omega
  simp[lb,lk,this] at h
abbrev ints(xs:List Int):D:=.sl 1 (xs.map fun n=>[D.raw (.int .i64 n)])
abbrev I(n:Int):AV:=.d (.raw (.int .i64 n))
abbrev B(b:Bool):AV:=.d (.raw (.bool b))
structure E where
 ty:Int
 fr:Int
 to:Int
 deriving DecidableEq,Inhabited
abbrev E.cells(e:E):List D:=[.raw (.int .i64 e.ty),.raw (.int .i64 e.fr),.raw (.int .i64 e.to)]
abbrev edges(es:List E):D:=.sl 3 (es.map E.cells)
structure Gr where
 nodes:List Int
 edges:List E
 deriving DecidableEq,Inhabited
structure Mo where
 nodes:List Int
 edges:List Int
 deriving DecidableEq,Inhabited
abbrev Gr.av(g:Gr):AV:=.agg [.d (ints g.nodes),.d (AM.edges g.edges)]
abbrev Mo.av(m:Mo):AV:=.agg [.d (ints m.nodes),.d (ints m.edges)]
@[simp] theorem aRF{α β:Type}(f:α->β)(l:List α)(i:Nat)(d:β)(h:i<l.length):((l.map f)[i]?).getD d=f l[i]:=by simp[h]
class Nrm (l:List CI) (l':outParam (List CI)):Prop where
 h:∀{P:Program} {cx:Cx} {nt0:Nat} {K:Exit->AS->Prop} {S:AS},AL P cx nt0 K l' S->AL P cx nt0 K l S
instance (priority:=low) Nrm.base {l:List CI}:Nrm l l:=⟨id⟩
instance Nrm.seq {a b:Code} {r l':List CI} [h:Nrm (.c a::.c b::r) l']:Nrm (.c (.seq a b)::r) l':=⟨fun x=>AL.seq (h.h x)⟩
instance Nrm.block {id:Nat} {c:Code} {r l':List CI} [h:Nrm (.c c::.blk id::r) l']:Nrm (.c (.block id c)::r) l':=⟨fun x=>AL.block (h.h x)⟩
instance Nrm.skip {r l':List CI} [h:Nrm r l']:Nrm (.c .skip::r) l':=⟨fun x=>AL.skip (h.h x)⟩
instance Nrm.blk {id:Nat} {r l':List CI} [h:Nrm r l']:Nrm (.blk id::r) l':=⟨fun x=>AL.blk (h.h x)⟩
section
variable {P:Program} {cx:Cx} {nt0:Nat} {K:Exit->AS->Prop} {S:AS} {l l' r:List CI}
abbrev DC(f:FuncId)(a:List AV)(v:AV):Prop:=∀(tok:Tks) (nt:Nat),cZ prog f a tok nt v tok nt
theorem sN[h:Nrm l l'](k:AL P cx nt0 K l' S):AL P cx nt0 K l S:=h.h k
theorem sR{id:Nat}{ops:Array Oper}{draw:Bool}[h:Nrm l (.c (.region id ops draw)::r)](k:aFR prog cx ops draw (AL prog cx nt0 K r) S)(j5:cx.base+cx.n<=cx.nb:=by exact nr0 _)(gt:iL cx.n ops draw=true:=by kernel_rfl):AL prog cx nt0 K l S :=
 h.h (AL.region cC j5 gt k)
theorem sC{x:Operand}{a b:Code}[h:Nrm l (.c (.cond x a b)::r)](k:aEG P cx nt0 K r a b S (S.ev x)):AL P cx nt0 K l S:=h.h (AL.cond k)
theorem sT[h:Nrm l (.c .ret::r)](k:K .ret S):AL P cx nt0 K l S:=h.h (AL.ret k)
theorem sE[h:Nrm l []](k:K .normal S):AL P cx nt0 K l S:=h.h (AL.nil k)
@[simp] theorem aR4 {P:Program}{cx:Cx}{nt0:Nat}{K:Exit->AS->Prop}{x:Code}{r:List CI}{j:Nat}{S:AS}:AU P cx nt0 K (.c x::r) (.exit j) S=AU P cx nt0 K r (.exit j) S:=by simp only[AU]
@[simp] theorem aR5 {P:Program}{cx:Cx}{nt0:Nat}{K:Exit->AS->Prop}{r:List CI}{i j:Nat}{S:AS}:AU P cx nt0 K (.blk i::r) (.exit j) S=if j=i then AL P cx nt0 K r S else AU P cx nt0 K r (.exit j) S:=by simp only[AU]
theorem sX{id:Nat}[h:Nrm l (.c (.exit id)::r)](k:AU P cx nt0 K r (.exit id) S):AL P cx nt0 K l S:=h.h (AL.exit k)
theorem sF{nt:Nat}{rs:List ResultVar}{l:List (Nat × AV)}{out:Bxs}{loc:List (Nat × List (List AV))}{tok mtok:Nat->Bool}{vs:List AV}{av:AV}(Hb:lb cx.base out []=out)(hm:∀t,mtok t=true->t<nt0)(Ht:∀t,mtok t=true->tok t=true)(ox:nt0<=nt)(hto:To (fun k=>lb cx.base out [] k≠none) (fun t=>nt0=nt∨t<nt0) none (rC vs) av)(hres:aV P ⟨tl l,lb cx.base out loc,tok,nt⟩ rs=some vs:=by (simp[aV,bQ];rfl))(ho:out=cx.B0:=by rfl):Fin P cx nt0 rs (fun v' m'=>v'=av/\m'=⟨out,cx.base,mtok,nt0⟩) ⟨tl l,lb cx.base out loc,tok,nt⟩ :=
 Fin.data hres Hb ho hm Ht ox hto
end
theorem sW{i:Nat}(h:i<9223372036854775807):IntKind.i64.wrap (↑i+1)=((i+1:Nat):Int):=by rw[aL (by omega) (by omega)];rfl
theorem sB{f:FuncId}{fn:Func}{c:Code}{args:List AV}{m:bF}{Q:AV->bF->Prop}{k:Nat}(sx:prog.funcs[f]?=some fn)(hk:fn.ntmps=k)(h:lb m.nb m.box []=m.box->(∀t,m.tok t=true->t<m.nt)->AT prog ⟨m.nb,m.nb+fn.ntmps,fn.ntmps,m.box⟩ m.nt c ⟨tl (iQ 0 args),lb m.nb m.box [],m.tok,m.nt⟩
   fun e S=>(e=.normal∨e=.ret)/\Fin prog ⟨m.nb,m.nb+fn.ntmps,fn.ntmps,m.box⟩ m.nt fn.results.toList Q S)(hb:fn.body=some c:=by rfl)(qn:(fn.name == "runtime.NumGoroutine")=false:=by kernel_rfl)(hl:args.length<=k:=by simp):aC prog f args m Q :=
 aC.of_body sx hb qn cC rfl (hk ▸ hl) h
theorem sI{f:FuncId}{fn:Func}{c:Code}{args:List AV}{box:Nat->Option (List (List AV))}{nb:Nat}{tok:Nat->Bool}{nt:Nat}{Q:AV->bF->Prop}{k:Nat}(sx:prog.funcs[f]?=some fn)(hk:fn.ntmps=k)(h:lb nb box []=box->(∀t,tok t=true->t<nt)->AL prog ⟨nb,nb+k,k,box⟩ nt (fun e S=>(e=.normal∨e=.ret)/\Fin prog ⟨nb,nb+k,k,box⟩ nt fn.results.toList Q S) [.c c] ⟨tl (iQ 0 args),lb nb box [],tok,nt⟩)(hb:fn.body=some c:=by rfl)(qn:(fn.name == "runtime.NumGoroutine")=false:=by kernel_rfl)(hl:args.length<=k:=by simp):aC prog f args ⟨box,nb,tok,nt⟩ Q:=by
 subst hk;exact sB (m:=⟨box,nb,tok,nt⟩) sx rfl (fun h1 h2=>AL.start (h h1 h2)) hb qn hl
theorem sG{P:Program}{cx:Cx}{nt0:Nat}{rs:List ResultVar}{l:List (Nat × AV)}{out:Nat->Option (List (List AV))}{loc:List (Nat × List (List AV))}{tok mtok:Nat->Bool}{vs:List AV}{av:AV}{nt:Nat}(Hb:lb cx.base out []=out)(hm:∀t,mtok t=true->t<nt0)(Ht:∀t,mtok t=true->tok t=true)(ox:nt0<=nt)(hto:To (fun k=>lb cx.base out [] k≠none) (fun t=>nt0=nt∨t<nt0) none (rC vs) av)(hres:aV P ⟨tl l,lb cx.base out loc,tok,nt⟩ rs=some vs:=by (simp[aV,bQ];rfl))(ho:out=cx.B0:=by rfl):
 (Exit.ret=Exit.normal∨Exit.ret=Exit.ret)/\Fin P cx nt0 rs (fun v' m'=>v'=av/\m'=⟨out,cx.base,mtok,nt0⟩) ⟨tl l,lb cx.base out loc,tok,nt⟩:=⟨.inr rfl,sF Hb hm Ht ox hto hres ho⟩
theorem sH{P:Program}{cx:Cx}{nt0:Nat}{rs:List ResultVar}{l:List (Nat × AV)}{out:Nat->Option (List (List AV))}{loc:List (Nat × List (List AV))}{tok:Nat->Bool}{vs:List AV}{av:AV}(hto:To (fun k=>lb cx.base out [] k≠none) (fun t=>nt0=nt0∨t<nt0) none (rC vs) av)(Hb:lb cx.base out []=out:=by assumption)(hm:∀t,tok t=true->t<nt0:=by assumption)(hres:aV P ⟨tl l,lb cx.base out loc,tok,nt0⟩ rs=some vs:=by (simp[aV,bQ];rfl))(ho:out=cx.B0:=by rfl):
 (Exit.ret=Exit.normal∨Exit.ret=Exit.ret)/\Fin P cx nt0 rs (fun v' m'=>v'=av/\m'=⟨out,cx.base,tok,nt0⟩) ⟨tl l,lb cx.base out loc,tok,nt0⟩:=sG Hb hm (fun _ h=>h) (nr0 _) hto hres ho
theorem wkA{cx:Cx}{nt0 nt:Nat}{l l':List (Nat × AV)}{out:Nat->Option (List (List AV))}{loc loc':List (Nat × List (List AV))}{tok:Nat->Bool}(hl:ToL (fun k=>lb cx.base out loc' k≠none) (fun _=>True) none l l':=by simp[ToL,lk,aN])(hb:aE (fun k=>lb cx.base out loc' k≠none) (fun _=>True) none loc loc':=by simp[aE,lk])(ox:nt0<=nt:=by exact nr0 _)(ho:out=cx.B0:=by rfl):bB cx nt0 ⟨tl l,lb cx.base out loc,tok,nt⟩ ⟨tl l',lb cx.base out loc',tok,nt⟩:=wM ox ho hl hb
def aZ(n most:Int):Bool:=decide (0<=n)&&decide (n<=most)
def dZ(e:E)(nodes:Int):Bool:=aZ e.ty 99&&(aZ e.fr (nodes-1)&&aZ e.to (nodes-1))
theorem qE(n most:Int):DC 224 [I n,I most] (B (aZ n most)):=by
 intro tok nt box nb;refine sI func224 ntmps224 fun Hb Ht=>?_
 refine sR ?_;simp;refine sR ?_;simp;first|refine Gd.dt (fun h=>?_) (fun h=>?_)|refine Gd.df (fun h=>?_) (fun h=>?_)|refine Gd.t (fun h=>?_) (fun h=>?_)|refine Gd.f (fun h=>?_) (fun h=>?_)
 .simp[h];refine sT (sH ?_);simp[aZ,h]
 .simp[h];refine sT (sH ?_);simp[aZ,h]
theorem aMz(e:E)(nodes:Int)(h0:0<=nodes)(h1:nodes<=1000000):DC 226 [.agg [I e.ty,I e.fr,I e.to],I nodes] (B (dZ e nodes)):=by
 intro tok nt box nb;have hw:IntKind.i64.wrap (nodes-1)=nodes-1:=aL (by omega) (by omega)
 refine sI func226 ntmps226 fun Hb Ht=>?_
 refine sR ?_;simp;refine sR ?_;simp[hw];refine sD (qE _ _ _ _) ?_;simp[hw];first|refine Gd.dt (fun h2=>?_) (fun h2=>?_)|refine Gd.df (fun h2=>?_) (fun h2=>?_)|refine Gd.t (fun h2=>?_) (fun h2=>?_)|refine Gd.f (fun h2=>?_) (fun h2=>?_)
 .simp[hw,h2];refine sD (qE _ _ _ _) ?_;simp[hw,h2];first|refine Gd.dt (fun h3=>?_) (fun h3=>?_)|refine Gd.df (fun h3=>?_) (fun h3=>?_)|refine Gd.t (fun h3=>?_) (fun h3=>?_)|refine Gd.f (fun h3=>?_) (fun h3=>?_)
  .simp[hw,h3];refine sD (qE _ _ _ _) ?_;simp[hw,h2,h3];refine sT (sH ?_);simp[dZ,h2,h3]
  .simp[h3];refine sT (sH ?_);simp[dZ,h2,h3]
 .simp[h2];refine sT (sH ?_);simp[dZ,h2]
theorem aHA(n:Int):DC 223 [I n] (B (!aZ n 99)):=by
 intro tok nt box nb;refine sI func223 ntmps223 fun Hb Ht=>?_
 refine sR ?_;simp;refine sR ?_;simp;refine sD (qE _ _ _ _) ?_;simp;refine sT (sH ?_);simp
theorem aIl(e:E)(g:Gr)(hg:g.nodes.length<=1000000)(tok:Tks)(nt:Nat)(box:Bxs)(nb k:Nat)(hk:box k=some [[.d (ints g.nodes),.d (AM.edges g.edges)]]):
  aC prog 225 [.agg [I e.ty,I e.fr,I e.to],.ptr k 0 0] ⟨box,nb,tok,nt⟩ fun v m=>v=B (!dZ e g.nodes.length)/\m=⟨box,nb,tok,nt⟩:=by
 refine sI func225 ntmps225 fun Hb Ht=>?_
 have gu:=bH Hb hk;refine sR ?_;simp;refine sR ?_;simp[lO gu,hk];refine sD (aMz e g.nodes.length (by omega) (by omega) _ _) ?_;simp;refine sT (sH ?_);simp
variable {P:Program}
def aE7(p q:Nat->Prop)(fz:Option (Nat × Nat × List (List D)))(r r':List AV):Prop :=
 r.length=r'.length/\∀j (g1:j<r.length) (g2:j<r'.length),To p q fz r[j] r'[j]
section
variable {p q:Nat->Prop} {fz:Option (Nat × Nat × List (List D))}
@[simp] theorem aNb:aE7 p q fz [] []:=⟨rfl,fun j h=>by simp at h⟩
@[simp] theorem aM4{x y:AV}{xs ys:List AV}:aE7 p q fz (x::xs) (y::ys)↔To p q fz x y/\aE7 p q fz xs ys:=by
 constructor
 .rintro⟨h1,h2⟩;refine⟨h2 0 (by simp) (by simp),by simpa using h1,fun j g1 g2=>?_⟩;exact h2 (j+1) (by simpa using g1) (by simpa using g2)
 .rintro⟨h1,h2,h3⟩;refine⟨by simp[h2],fun j g1 g2=>?_⟩;cases j with
  | zero=>exact h1
  | succ j=>exact h3 j (by simpa using g1) (by simpa using g2)
@[simp] theorem aMw:gA p q fz [] []:=⟨rfl,fun j h=>by simp at h⟩
@[simp] theorem aL0{x y:List AV}{xs ys:List (List AV)}:gA p q fz (x::xs) (y::ys)↔aE7 p q fz x y/\gA p q fz xs ys:=by
 constructor
 .rintro⟨h1,h2⟩;refine⟨h2 0 (by simp) (by simp),by simpa using h1,fun j g1 g2=>?_⟩;exact h2 (j+1) (by simpa using g1) (by simpa using g2)
 .rintro⟨h1,h2,h3⟩;refine⟨by simp[h2],fun j g1 g2=>?_⟩;cases j with
  | zero=>exact h1
  | succ j=>exact h3 j (by simpa using g1) (by simpa using g2)
theorem mJ{rows:List (List AV)}(h:∀r∈rows,∀x∈r,bD p q x):gA p q fz rows rows :=
 ⟨rfl,fun i h1 h2=>⟨rfl,fun j g1 g2=>.same (h _ (aa _) _ (aa _))⟩⟩
end
def cG(es:List (List D)):List (List AV):=es.map fun e=>e.map AV.d
@[simp] theorem aKb(es:List (List D)):(cG es).length=es.length:=by simp[cG]
@[simp] theorem aNk{es:List (List D)}{i:Nat}(h:i<es.length):(cG es)[i]?=some ((es[i]).map AV.d):=by simp[cG,h]
@[simp] theorem aPW{p q:Nat->Prop}{fz:Option (Nat × Nat × List (List D))}(es:List (List D)):gA p q fz (cG es) (cG es):=by
 refine mJ fun r hr x hx=>?_
 obtain⟨e,_,rfl⟩:=bc.1 hr;obtain⟨d,_,rfl⟩:=bc.1 hx;exact .d
abbrev rI(xs:List Int):List (List D):=xs.map fun n=>[D.raw (.int .i64 n)]
abbrev rE(es:List E):List (List D):=es.map E.cells
def eE(xs:List Int):List (List AV):=xs.map fun n=>[AV.d (.raw (.int .i64 n))]
def kB(xs:List E):List (List AV):=xs.map fun e=>[AV.d (.raw (.int .i64 e.ty)),AV.d (.raw (.int .i64 e.fr)),AV.d (.raw (.int .i64 e.to))]
theorem aDk(xs:List Int):eE xs=cG (rI xs):=by simp[eE,cG,rI]
theorem aIQ(xs:List E):kB xs=cG (rE xs):=by simp[kB,cG,rE,E.cells]
@[simp] theorem aRV(n:Nat):List.replicate n [AV.d (.raw (.int .i64 0))]=eE (List.replicate n 0):=by simp[eE]
@[simp] theorem aRR(n:Nat):List.replicate n [AV.d (.raw (.int .i64 0)),AV.d (.raw (.int .i64 0)),AV.d (.raw (.int .i64 0))]=kB (List.replicate n ⟨0,0,0⟩):=by simp[kB]
@[simp] theorem aRX(xs:List Int)(i:Nat)(v:Int):(eE xs).set i [AV.d (.raw (.int .i64 v))]=eE (xs.set i v):=by simp[eE,List.map_set]
@[simp] theorem aRH(xs:List E)(i:Nat)(a b c:Int):(kB xs).set i [AV.d (.raw (.int .i64 a)),AV.d (.raw (.int .i64 b)),AV.d (.raw (.int .i64 c))]=kB (xs.set i ⟨a,b,c⟩):=by simp[kB,List.map_set]
@[simp] theorem aJ8(xs:List Int):(eE xs).length=xs.length:=by simp[eE]
@[simp] theorem aKs(xs:List E):(kB xs).length=xs.length:=by simp[kB]
@[simp high] theorem aNe{xs:List Int}{i:Nat}(h:i<xs.length):(eE xs)[i]?=some [AV.d (.raw (.int .i64 xs[i]))]:=by simp[eE,h]
@[simp high] theorem aNd{xs:List E}{i:Nat}(h:i<xs.length):(kB xs)[i]?=some [AV.d (.raw (.int .i64 xs[i].ty)),AV.d (.raw (.int .i64 xs[i].fr)),AV.d (.raw (.int .i64 xs[i].to))]:=by simp[kB,h]
@[simp] theorem aNr{p q:Nat->Prop}{fz:Option (Nat × Nat × List (List D))}(xs:List Int):gA p q fz (eE xs) (eE xs):=by rw[aDk];simp
@[simp] theorem aOS{p q:Nat->Prop}{fz:Option (Nat × Nat × List (List D))}(xs:List E):gA p q fz (kB xs) (kB xs):=by rw[aIQ];simp
theorem vO:∀(e:List D),yM (e.map AV.d)=some e
 | []=>rfl
 | d::e=>by simp[yM,AV.toD,vO e]
theorem bB.frz{cx:Cx}{nt0 nt:Nat}{l l':List (Nat × AV)}{out:Bxs}{loc loc':List (Nat × List (List AV))}{tok:Nat->Bool}(s sz:Nat)(es:List (List D))(ox:nt0<=nt)(ho:out=cx.B0)(hs:lk loc s=some (cG es))(o9:lk loc' s=none)(hsz:∀e∈es,e.length=sz)(hl:ToL (fun k=>lb cx.base out loc' k≠none) (fun _=>True) (some (cx.base+s,sz,es)) l l')(hb:aE (fun k=>lb cx.base out loc' k≠none) (fun _=>True) (some (cx.base+s,sz,es)) loc loc'):
  bB cx nt0 ⟨tl l,lb cx.base out loc,tok,nt⟩ ⟨tl l',lb cx.base out loc',tok,nt⟩:=by
 refine⟨out,loc,loc',some (s,sz,es),rfl,rfl,nr0 _,ox,fun t h=>⟨h,.inl rfl⟩,?_,?_,?_,?_⟩
 .simp only[true_or,dd];exact hl.all
 .simp only[true_or,dd];exact hb.all
 .rintro s' sz' es' h;cases h;refine⟨o9,cG es,hs,by simp,?_,?_⟩
  .intro r hr;obtain⟨e,he,rfl⟩:=bc.1 hr;simpa using hsz e he
  .intro i h1 h2;have:(cG es)[i]=(es[i]).map AV.d:=by simp[cG]
   rw[this];exact vO _
 .intro k rows _ h;exact .inl (by rw[<-ho];exact h)
@[simp] theorem aRN{p q:Nat->Prop}{k n sz:Nat}{es:List (List D)}(h:n=es.length):To p q (some (k,sz,es)) (.msl k 0 n sz) (.d (.sl sz es)):=by
 subst h;exact .frz rfl
theorem Fin.gen{cx:Cx}{nt0 nt nt':Nat}{rs:List ResultVar}{l:List (Nat × AV)}{out:Bxs}{loc:List (Nat × List (List AV))}{tok tok':Nat->Bool}{vs:List AV}{av:AV}(hres:aV P ⟨tl l,lb cx.base out loc,tok,nt⟩ rs=some vs)(Hb:lb cx.base out []=out)(h0:nt0<=nt')(ox:nt'<=nt)(Ht:∀t,tok' t=true->tok t=true/\(nt'=nt∨t<nt'))(ho:∀k rows,k<cx.base->out k=some rows->cx.B0 k=some rows∨∀r∈rows,∀x∈r,bD (fun k=>lb cx.base out [] k≠none) (fun t=>nt'=nt∨t<nt') x)(hto:To (fun k=>lb cx.base out [] k≠none) (fun t=>nt'=nt∨t<nt') none (rC vs) av):Fin P cx nt0 rs (fun v' m'=>v'=av/\m'=⟨out,cx.base,tok',nt'⟩) ⟨tl l,lb cx.base out loc,tok,nt⟩ :=
 ⟨vs,out,loc,none,av,⟨out,cx.base,tok',nt'⟩,hres,⟨rfl,rfl,ox,h0,Ht,fun _=>.bot,fun s rows' h=>by simp[lk] at h,(fun _ _ _ h=>by cases h),
  ho⟩,Hb.symm,rfl,by simpa using hto,rfl,rfl⟩
theorem Fin.own{cx:Cx}{nt0 nt:Nat}{rs:List ResultVar}{l:List (Nat × AV)}{out:Bxs}{loc:List (Nat × List (List AV))}{tok:Nat->Bool}{vs:List AV}{av:AV}(hres:aV P ⟨tl l,lb cx.base out loc,tok,nt⟩ rs=some vs)(Hb:lb cx.base out []=out)(ho:out=cx.B0)(ox:nt0<=nt)(hto:To (fun k=>lb cx.base out [] k≠none) (fun _=>True) none (rC vs) av):Fin P cx nt0 rs (fun v' m'=>v'=av/\m'=⟨out,cx.base,tok,nt⟩) ⟨tl l,lb cx.base out loc,tok,nt⟩ :=
 Fin.gen hres Hb ox (nr0 _) (fun t h=>⟨h,.inl rfl⟩) (fun k rows _ h=>.inl (by rw[<-ho];exact h)) (by simpa using hto)
theorem Ext.lb{box box':Bxs}{nb:Nat}(h:Ext box box')(hb:lb nb box' []=box')(loc:List (Nat × List (List AV))):Ext box (AM.lb nb box' loc):=fun k r hk=>by
 have h1:=h k r hk;rw[lO (bH hb h1)];exact h1
theorem bD.mono{p p' q q':Nat->Prop}(hp:∀k,p k->p' k)(hq:∀k,q k->q' k){x:AV}(h:bD p q x):bD p' q' x:=by
 induction h with
 | bot=>exact .bot
 | d=>exact .d
 | osl h=>exact .osl fun t e=>hq _ (h t e)
 | cptr=>exact .cptr
 | ptr h=>exact .ptr (hp _ h)
 | here h=>exact .here (hp _ h)
 | buf h=>exact .buf (hq _ h)
 | msl h=>exact .msl (hp _ h)
 | fn h ih=>exact .fn ih
 | agg h ih=>exact .agg ih
 | tup h ih=>exact .tup ih
 | ex h=>exact .ex (hq _ h)
 | stk h=>exact .stk (hq _ h)
 | que h=>exact .que (hq _ h)
 | mp h hs=>exact .mp (hq _ h) fun e he t ht=>hq _ (hs e he t ht)
 | mpd=>exact .mpd
theorem kV{box:Bxs}{nb:Nat}{caps:List AV}(h:∀c∈caps,bD (fun k=>box k≠none) (fun _=>True) c)(hb:lb nb box []=box)(loc:List (Nat × List (List AV))){p q:Nat->Prop}(hp:p=fun k=>lb nb box loc k≠none)(hq:q=fun _=>True)(f:Fn):bD p q (.fn f caps):=by
 subst hp;subst hq;refine .fn fun c hc=>(h c hc).mono (fun k hk=>?_) fun _ h=>h
 obtain⟨r,hr⟩:=Option.ne_none_iff_exists'.1 hk;rw[lO (bH hb hr),hr];simp
theorem Fin.mono{cx:Cx}{nt0:Nat}{rs:List ResultVar}{Q Q':AV->bF->Prop}{S:AS}(h:Fin P cx nt0 rs Q S)(hq:∀v m,Q v m->Q' v m):Fin P cx nt0 rs Q' S:=by
 obtain⟨vs,out,loc,fz,av,m',h1,h2,h3,h4,h5,h6⟩:=h;exact⟨vs,out,loc,fz,av,m',h1,h2,h3,h4,h5,hq _ _ h6⟩
def Conv(v:AV)(m:bF)(v':AV)(m':bF):Prop:=m'.nb=m.nb/\m'.box=m.box/\∀G w u,aR G m w->RV G w v u->∃G',aR G' m' w/\RV G' w v' u/\Le G w G' w/\∀k,G.bx k=none->G'.bx k=none
theorem Conv.refl(v:AV)(m:bF):Conv v m v m:=⟨rfl,rfl,fun G w u h1 h2=>⟨G,h1,h2,Le.refl G w,fun _ h=>h⟩⟩
theorem Conv.newtok(sz sz':Nat)(box:Bxs)(nb:Nat)(tok:Tks)(nt:Nat):Conv (.osl sz [] .full) ⟨box,nb,tok,nt⟩ (.osl sz' [] (.tok nt)) ⟨box,nb,upd tok nt true,nt+1⟩:=by
 refine⟨rfl,rfl,fun G w u hm hv=>⟨G.newtok none,hm.newtok none (fun g h=>by cases h),?_,Le.newtok none,fun k h=>h⟩⟩;have ox:G.nt=nt:=hm.nt
 cases hv with
 | osl h ho =>
  cases h with
  | sl u iq iu hsz hA hc hr =>
   refine .osl (.sl (fun _ _=>default) iq iu (by simp) (by simp) (fun a _ i j hi _=>by simp at hi) (fun i j hi _=>by simp at hi)) ⟨by simp[Gh.newtok,ox],fun x hx=>?_⟩;simp only[Gh.newtok,ox,uS,ad] at hx;subst hx;exact ho.imp fun _ h=>h.1
theorem aC.conv{f:FuncId}{args:List AV}{m:bF}{Q Q':AV->bF->Prop}(h:aC P f args m Q)(hq:∀v m1,Q v m1->∃v' m',Conv v m1 v' m'/\Q' v' m'):aC P f args m Q' :=
 ⟨h.1,fun G w vals hm hr=>(h.2 G w vals hm hr).mono fun e w' ⟨v,av,m1,G1,h1,h2,h3,h4,h5,h6,h7⟩=>by
  obtain⟨v',m',⟨c1,c2,c3⟩,Bt⟩:=hq _ _ h2;obtain⟨G2,k1,k2,k3,k4⟩:=c3 G1 w' v h4 h5;exact⟨v,v',m',G2,h1,Bt,c1.trans h3,k1,k2,h6.trans k3,fun k hk=>⟨k4 k (h7 k hk).1,by rw[c2];exact(h7 k hk).2⟩⟩⟩
theorem TK.perm{mtok:Nat->Bool}{nt0:Nat}{tok:Nat->Bool}{nt:Nat}{os os':List Own}(h:TK mtok nt0 tok nt os)(hp:os.Perm os'):TK mtok nt0 tok nt os' :=
 ⟨h.old,h.lt,h.le,fun o ho=>h.own o (hp.mem_iff.2 ho),(List.Perm.pairwise_iff (fun {a b} sy t e e'=>sy t e' e) hp).1 h.ne⟩
theorem TK.pick3{mtok:Nat->Bool}{nt0:Nat}{tok:Nat->Bool}{nt:Nat}{a b c:Own}{os:List Own}(h:TK mtok nt0 tok nt (a::b::c::os)):TK mtok nt0 tok nt (c::a::b::os) :=
 h.perm (((List.Perm.swap c b os).cons a).trans (List.Perm.swap c a (b::os)))
theorem TK.put3{mtok:Nat->Bool}{nt0:Nat}{tok:Nat->Bool}{nt:Nat}{a b c:Own}{os:List Own}(h:TK mtok nt0 tok nt (c::a::b::os)):TK mtok nt0 tok nt (a::b::c::os) :=
 h.perm (((List.Perm.swap c b os).cons a).trans (List.Perm.swap c a (b::os))).symm
attribute [simp] pA aFC
theorem gG(xs:List Int)(hx:xs.length<=1000000)(tok:Tks)(nt:Nat):cZ prog 83 [.d (ints xs)] tok nt (.osl 1 (rI xs) (.tok nt)) (upd tok nt true) (nt+1):=by
 intro box nb;have main:aC prog 83 [.d (ints xs)] ⟨box,nb,tok,nt⟩ fun v m=>(v=.osl 1 (rI xs) (.tok nt)/\m=⟨box,nb,upd tok nt true,nt+1⟩)∨(xs=[]/\v=.osl 0 [] .full/\m=⟨box,nb,tok,nt⟩):=by
  refine sI func83 ntmps83 fun Hb Ht=>?_
  refine sR ?_;simp;refine sR ?_;simp;refine⟨?_,fun h=>?_⟩
  .apply sC;simp;refine sR ?_;simp;refine⟨by omega,?_⟩;apply sN;refine AL.ret ?_;try simp only[AU]
   refine⟨by simp,(Fin.own (by simp[aV,bQ];rfl) Hb rfl (by simp) ?_).mono fun v m hq=>.inl hq⟩;simp
  .apply sC;simp;refine sR ?_;simp;apply sN;refine AL.ret ?_;try simp only[AU]
   refine⟨by simp,(Fin.own (by simp[aV,bQ];rfl) Hb rfl (nr0 _) ?_).mono fun v m hq=>.inr ⟨h,hq.1,hq.2⟩⟩;simp
 refine main.conv fun v m h=>?_
 rcases h with ⟨rfl,rfl⟩|⟨rfl,rfl,rfl⟩
 .exact⟨_,_,Conv.refl _ _,rfl,rfl⟩
 .exact⟨_,_,Conv.newtok 0 1 box nb tok nt,rfl,rfl⟩
theorem aDo(xs:List E)(hx:xs.length<=1000000)(tok:Tks)(nt:Nat):cZ prog 84 [.d (AM.edges xs)] tok nt (.osl 3 (rE xs) (.tok nt)) (upd tok nt true) (nt+1):=by
 intro box nb;have main:aC prog 84 [.d (AM.edges xs)] ⟨box,nb,tok,nt⟩ fun v m=>(v=.osl 3 (rE xs) (.tok nt)/\m=⟨box,nb,upd tok nt true,nt+1⟩)∨(xs=[]/\v=.osl 0 [] .full/\m=⟨box,nb,tok,nt⟩):=by
  refine sI func84 ntmps84 fun Hb Ht=>?_
  refine sR ?_;simp;refine sR ?_;simp;refine⟨?_,fun h=>?_⟩
  .apply sC;simp;refine sR ?_;simp;refine⟨by omega,?_⟩;apply sN;refine AL.ret ?_;try simp only[AU]
   refine⟨by simp,(Fin.own (by simp[aV,bQ];rfl) Hb rfl (by simp) ?_).mono fun v m hq=>.inl hq⟩;simp
  .apply sC;simp;refine sR ?_;simp;apply sN;refine AL.ret ?_;try simp only[AU]
   refine⟨by simp,(Fin.own (by simp[aV,bQ];rfl) Hb rfl (nr0 _) ?_).mono fun v m hq=>.inr ⟨h,hq.1,hq.2⟩⟩;simp
 refine main.conv fun v m h=>?_
 rcases h with ⟨rfl,rfl⟩|⟨rfl,rfl,rfl⟩
 .exact⟨_,_,Conv.refl _ _,rfl,rfl⟩
 .exact⟨_,_,Conv.newtok 0 3 box nb tok nt,rfl,rfl⟩
def aQ(xs:List Int)(v:Int):Int:=if v∈xs then (xs.idxOf v:Int) else -1
def aPa(xs:List Int)(v:Int)(nb:Nat)(box:Bxs)(tok:Tks)(nt:Nat)(i:Nat):AS:=⟨tl [(0,.d (ints xs)),(1,I v),(7,I xs.length),(8,I i)],lb nb box [],tok,nt⟩
theorem aFw(xs:List Int)(v:Int)(hx:xs.length<=1000000):DC 70 [.d (ints xs),I v] (I (aQ xs v)):=by
 intro tok nt box nb;refine sI func70 ntmps70 fun Hb Ht=>?_
 refine sR ?_;simp;refine sR ?_;simp;apply sN;refine sL (aPa xs v nb box tok nt) (fun i=>i<=xs.length/\v∉xs.take i) (fun i=>xs.length-i) 0 ⟨ai _,by simp⟩ (wM (nr0 _) rfl (by simp[ToL]) trivial) ?_;rintro i S ⟨hi,htk⟩ hS;simp only[aPa] at hS;subst hS;have hw:=sW (i:=i) (by omega);refine sR ?_;simp;apply sC;simp;refine⟨fun hlt=>?_,fun hge=>?_⟩
 .have px:xs=xs.take i++xs[i]::xs.drop (i+1):=by simp
  refine sR ?_;simp;refine sR ?_;simp[hlt];apply sC;simp;refine⟨fun he=>?_,fun hne=>?_⟩
  .refine sR ?_;simp;have i5:v∈xs:=by rw[he];exact aa _
   have yd:xs.idxOf v=i:=by
    unfold List.idxOf;rw[fw hlt];refine⟨by simp[he],fun j hj=>?_⟩;have:xs[j]≠v:=fun e=>htk (by rw[<-e,cm];exact⟨j,by omega,rfl⟩)
    simpa using this
   refine sT (sH ?_);simp[aQ,i5,yd]
  .refine sR ?_;simp[hw];apply sE;refine⟨i+1,⟨hlt,?_⟩,by omega,wM (nr0 _) rfl (by simp[ToL]) trivial⟩;rw[ah hlt];simp only[ap,a7,not_or];exact⟨htk,hne⟩
 .apply sX;simp only[AU,↓reduceIte];refine sR ?_;simp;have hn:v∉xs:=by rwa [ak hge] at htk
  refine sT (sH ?_);simp[aQ,hn]
theorem oK(xs:List Int)(v:Int):(0<=aQ xs v)↔v∈xs:=by
 unfold aQ;split<;>simp[*]
theorem bN(xs:List Int)(v:Int)(hx:xs.length<=1000000):DC 173 [.d (ints xs),I v] (B (decide (v∈xs))):=by
 intro tok nt box nb;refine sI func173 ntmps173 fun Hb Ht=>?_
 refine sR ?_;simp;refine sR ?_;simp;refine sD (aFw xs v hx _ _) ?_;simp;refine sT (sH ?_);simp[oK]
def fD{α:Type}(p:α->Bool)(xs:List α):Int:=if xs.any p then (xs.findIdx p:Int) else -1
def bA{α:Type}(p:α->Bool)(xs:List α):Bool:=xs.any p
theorem pY{α:Type}(p:α->Bool)(xs:List α):(0<=fD p xs)↔xs.any p=true:=by
 unfold fD;split<;>simp[*]
theorem xM{α:Type}{p:α->Bool}{xs:List α}{i:Nat}(h:i<xs.length)(h1:∀x∈xs.take i,p x=false)(h2:p xs[i]=true):xs.any p=true/\xs.findIdx p=i:=by
 have jr:xs.any p=true:=dv.2 ⟨_,aa h,h2⟩
 refine⟨jr,?_⟩;rw[fw h];refine⟨h2,fun j hj=>?_⟩;have:=h1 xs[j] (by
  rw[cm];exact⟨j,by omega,rfl⟩)
 simpa using this
def aOp(xs:List Int)(f:FuncId)(caps:List AV)(nb:Nat)(box:Bxs)(tok:Tks)(nt:Nat)(i:Nat):AS:=⟨tl [(0,.d (ints xs)),(1,.fn (.func f) caps),(7,I xs.length),(8,I i)],lb nb box [],tok,nt⟩
theorem aCI(xs:List Int)(f:FuncId)(caps:List AV)(p:Int->Bool)(hx:xs.length<=1000000)(box:Bxs)(nb:Nat)(tok:Tks)(nt:Nat)(hc:∀c∈caps,bD (fun k=>box k≠none) (fun _=>True) c)(hf:∀x∈xs,∀box' nb',Ext box box'->aC prog f (I x::caps) ⟨box',nb',tok,nt⟩ fun v m=>v=B (p x)/\m=⟨box',nb',tok,nt⟩):
  aC prog 273 [.d (ints xs),.fn (.func f) caps] ⟨box,nb,tok,nt⟩ fun v m=>v=I (fD p xs)/\m=⟨box,nb,tok,nt⟩:=by
 refine sI func273 ntmps273 fun Hb Ht=>?_
 refine sR ?_;simp;refine sR ?_;simp;apply sN;refine sL (aOp xs f caps nb box tok nt) (fun i=>i<=xs.length/\∀x∈xs.take i,p x=false) (fun i=>xs.length-i) 0 ⟨ai _,by simp⟩ (wM (nr0 _) rfl (by simp[ToL];exact .same (kV hc Hb [] (by simp) rfl _)) trivial) ?_;rintro i S ⟨hi,htk⟩ hS;simp only[aOp] at hS;subst hS;have hw:=sW (i:=i) (by omega);refine sR ?_;simp;apply sC;simp;refine⟨fun hlt=>?_,fun hge=>?_⟩
 .refine sR ?_;simp;refine sR ?_;simp[hlt];refine aT.of_b (hf xs[i] (aa _) _ _ ((Ext.refl box).lb Hb [])) ?_;simp;apply sC;simp;refine⟨fun he=>?_,fun hne=>?_⟩
  .refine sR ?_;simp;obtain⟨h1,h2⟩:=xM hlt htk he;refine sT (sH ?_);simp[fD,h1,h2]
  .refine sR ?_;simp[hw];apply sE;refine⟨i+1,⟨hlt,?_⟩,by omega,wM (nr0 _) rfl (by simp[ToL];exact .same (kV hc Hb [] (by simp) rfl _)) trivial⟩;rw[ah hlt];intro x hx;rcases ap.1 hx with hx|hx
   .exact htk x hx
   .simp at hx;rw[hx];exact hne
 .apply sX;simp only[AU,↓reduceIte];refine sR ?_;simp;have hn:xs.any p=false:=by
   rw[ak hge] at htk;simpa using htk
  refine sT (sH ?_);simp[fD,hn]
theorem iN(xs:List Int)(f:FuncId)(caps:List AV)(p:Int->Bool)(hx:xs.length<=1000000)(box:Bxs)(nb:Nat)(tok:Tks)(nt:Nat)(hc:∀c∈caps,bD (fun k=>box k≠none) (fun _=>True) c)(hf:∀x∈xs,∀box' nb',Ext box box'->aC prog f (I x::caps) ⟨box',nb',tok,nt⟩ fun v m=>v=B (p x)/\m=⟨box',nb',tok,nt⟩):
  aC prog 222 [.d (ints xs),.fn (.func f) caps] ⟨box,nb,tok,nt⟩ fun v m=>v=B (bA p xs)/\m=⟨box,nb,tok,nt⟩:=by
 refine sI func222 ntmps222 fun Hb Ht=>?_
 refine sR ?_;simp;refine sR ?_;simp;refine aT.of_b (aCI xs f caps p hx (lb nb box []) _ _ _ (fun c h=>(hc c h).mono (fun k hk=>by rw[Hb];exact hk) fun _ h=>h) (fun x qf box' nb' he=>hf x qf box' nb' (by rw[Hb] at he;exact he))) ?_;simp;have jr:decide (∃x,x∈xs/\p x=true)=bA p xs:=by rw[dl];simp[bA]
 refine sT (sH ?_);simp[pY,jr]
def aO0(xs:List E)(f:FuncId)(caps:List AV)(nb:Nat)(box:Bxs)(tok:Tks)(nt:Nat)(i:Nat):AS:=⟨tl [(0,.d (AM.edges xs)),(1,.fn (.func f) caps),(7,I xs.length),(8,I i)],lb nb box [],tok,nt⟩
theorem aAF(xs:List E)(f:FuncId)(caps:List AV)(p:E->Bool)(hx:xs.length<=1000000)(box:Bxs)(nb:Nat)(tok:Tks)(nt:Nat)(hc:∀c∈caps,bD (fun k=>box k≠none) (fun _=>True) c)(hf:∀x∈xs,∀box' nb',Ext box box'->aC prog f (.agg [I x.ty,I x.fr,I x.to]::caps) ⟨box',nb',tok,nt⟩ fun v m=>v=B (p x)/\m=⟨box',nb',tok,nt⟩):
  aC prog 246 [.d (AM.edges xs),.fn (.func f) caps] ⟨box,nb,tok,nt⟩ fun v m=>v=I (fD p xs)/\m=⟨box,nb,tok,nt⟩:=by
 refine sI func246 ntmps246 fun Hb Ht=>?_
 refine sR ?_;simp;refine sR ?_;simp;apply sN;refine sL (aO0 xs f caps nb box tok nt) (fun i=>i<=xs.length/\∀x∈xs.take i,p x=false) (fun i=>xs.length-i) 0 ⟨ai _,by simp⟩ (wM (nr0 _) rfl (by simp[ToL];exact .same (kV hc Hb [] (by simp) rfl _)) trivial) ?_;rintro i S ⟨hi,htk⟩ hS;simp only[aO0] at hS;subst hS;have hw:=sW (i:=i) (by omega);refine sR ?_;simp;apply sC;simp;refine⟨fun hlt=>?_,fun hge=>?_⟩
 .refine sR ?_;simp;refine sR ?_;simp[hlt];refine aT.of_b (hf xs[i] (aa _) _ _ ((Ext.refl box).lb Hb [])) ?_;simp;apply sC;simp;refine⟨fun he=>?_,fun hne=>?_⟩
  .refine sR ?_;simp;obtain⟨h1,h2⟩:=xM hlt htk he;refine sT (sH ?_);simp[fD,h1,h2]
  .refine sR ?_;simp[hw];apply sE;refine⟨i+1,⟨hlt,?_⟩,by omega,wM (nr0 _) rfl (by simp[ToL];exact .same (kV hc Hb [] (by simp) rfl _)) trivial⟩;rw[ah hlt];intro x hx;rcases ap.1 hx with hx|hx
   .exact htk x hx
   .simp at hx;rw[hx];exact hne
 .apply sX;simp only[AU,↓reduceIte];refine sR ?_;simp;have hn:xs.any p=false:=by
   rw[ak hge] at htk;simpa using htk
  refine sT (sH ?_);simp[fD,hn]
theorem eQ(xs:List E)(f:FuncId)(caps:List AV)(p:E->Bool)(hx:xs.length<=1000000)(box:Bxs)(nb:Nat)(tok:Tks)(nt:Nat)(hc:∀c∈caps,bD (fun k=>box k≠none) (fun _=>True) c)(hf:∀x∈xs,∀box' nb',Ext box box'->aC prog f (.agg [I x.ty,I x.fr,I x.to]::caps) ⟨box',nb',tok,nt⟩ fun v m=>v=B (p x)/\m=⟨box',nb',tok,nt⟩):
  aC prog 188 [.d (AM.edges xs),.fn (.func f) caps] ⟨box,nb,tok,nt⟩ fun v m=>v=B (bA p xs)/\m=⟨box,nb,tok,nt⟩:=by
 refine sI func188 ntmps188 fun Hb Ht=>?_
 refine sR ?_;simp;refine sR ?_;simp;refine aT.of_b (aAF xs f caps p hx (lb nb box []) _ _ _ (fun c h=>(hc c h).mono (fun k hk=>by rw[Hb];exact hk) fun _ h=>h) (fun x qf box' nb' he=>hf x qf box' nb' (by rw[Hb] at he;exact he))) ?_;simp;have jr:decide (∃x,x∈xs/\p x=true)=bA p xs:=by rw[dl];simp[bA]
 refine sT (sH ?_);simp[pY,jr]
def vG(g:Gr):Int:=if 40<g.nodes.length∨80<g.edges.length then 3 else if bA (fun n=>!aZ n 99) g.nodes then 6 else if bA (fun e=>!dZ e g.nodes.length) g.edges then 6 else 0
structure Gr.Fit (g:Gr):Prop where
 n:g.nodes.length<=1000000
 e:g.edges.length<=1000000
theorem bT(g:Gr)(hg:g.Fit):DC 174 [g.av] (I (vG g)):=by
 intro tok nt box nb;have hn:=hg.n;have he:=hg.e;refine sI func174 ntmps174 fun Hb Ht=>?_
 refine sR ?_;simp;refine sR ?_;simp;first|refine Gd.dt (fun h1=>?_) (fun h1=>?_)|refine Gd.df (fun h1=>?_) (fun h1=>?_)|refine Gd.t (fun h1=>?_) (fun h1=>?_)|refine Gd.f (fun h1=>?_) (fun h1=>?_)
 .simp[h1];apply sC;simp;refine sR ?_;simp;refine sT (sH ?_);simp[vG,show 40<g.nodes.length by omega]
 .simp[h1];apply sC;simp;refine⟨fun h2=>?_,fun h2=>?_⟩
  .refine sR ?_;simp;refine sT (sH ?_);simp[vG,show 80<g.edges.length by omega]
  .have wt:¬40<g.nodes.length:=by omega
   have wu:¬80<g.edges.length:=by omega
   refine sR ?_;simp;refine aT.of_b (iN g.nodes 223 [] (fun n=>!aZ n 99) hn _ _ _ _ (by simp) (fun x _ box' nb' _=>aHA x _ _ box' nb')) ?_;simp;apply sC;simp;refine⟨fun h3=>?_,fun h3=>?_⟩
   .refine sR ?_;simp;refine sT (sH ?_);simp[vG,wt,wu,h3]
   .refine sR ?_;simp;refine aT.of_b (eQ g.edges 225 [.ptr (nb+1) 0 0] (fun e=>!dZ e g.nodes.length) he _ _ _ _ (by simp[aN,lk]) (fun x _ box' nb' hx=>aIl x g hn _ _ box' nb' (nb+1) (hx _ _ (by simp[aN,lk])))) ?_;simp;apply sC;simp;refine⟨fun h4=>?_,fun h4=>?_⟩
    .refine sR ?_;simp;refine sT (sH ?_);simp[vG,wt,wu,h3,h4]
    .refine sR ?_;simp;refine sT (sH ?_);simp[vG,wt,wu,h3,h4]
theorem aIz(n:Int):DC 161 [I n] (B (aZ n 99)):=by
 intro tok nt box nb;refine sI func161 ntmps161 fun Hb Ht=>?_
 refine sR ?_;simp;refine sR ?_;simp;first|refine Gd.dt (fun h=>?_) (fun h=>?_)|refine Gd.df (fun h=>?_) (fun h=>?_)|refine Gd.t (fun h=>?_) (fun h=>?_)|refine Gd.f (fun h=>?_) (fun h=>?_)
 .simp[h];refine sT (sH ?_);simp[aZ,h]
 .simp[h];refine sT (sH ?_);simp[aZ,h]
theorem aKl(e:E)(nodes:Int):DC 162 [.agg [I e.ty,I e.fr,I e.to],I nodes] (B (dZ e nodes)):=by
 intro tok nt box nb;refine sI func162 ntmps162 fun Hb Ht=>?_
 refine sR ?_;simp;refine sR ?_;simp;refine sD (aIz _ _ _) ?_;simp;first|refine Gd.dt (fun h1=>?_) (fun h1=>?_)|refine Gd.df (fun h1=>?_) (fun h1=>?_)|refine Gd.t (fun h1=>?_) (fun h1=>?_)|refine Gd.f (fun h1=>?_) (fun h1=>?_)
 .simp[h1];first|refine Gd.dt (fun h2=>?_) (fun h2=>?_)|refine Gd.df (fun h2=>?_) (fun h2=>?_)|refine Gd.t (fun h2=>?_) (fun h2=>?_)|refine Gd.f (fun h2=>?_) (fun h2=>?_)
  .simp[h1,h2];first|refine Gd.dt (fun h3=>?_) (fun h3=>?_)|refine Gd.df (fun h3=>?_) (fun h3=>?_)|refine Gd.t (fun h3=>?_) (fun h3=>?_)|refine Gd.f (fun h3=>?_) (fun h3=>?_)
   .simp[h1,h2,h3];first|refine Gd.dt (fun h4=>?_) (fun h4=>?_)|refine Gd.df (fun h4=>?_) (fun h4=>?_)|refine Gd.t (fun h4=>?_) (fun h4=>?_)|refine Gd.f (fun h4=>?_) (fun h4=>?_)
    .simp[h1,h2,h3,h4];have k1:e.fr<=nodes-1:=by omega
     have k2:(e.to<nodes)↔(e.to<=nodes-1):=by omega
     refine sT (sH ?_);simp[dZ,h1,h2,h3,h4,aZ,k1,k2];simp[aZ] at h1;simp[h1]
    .simp[h1,h2,h3,h4];refine sT (sH ?_);simp[dZ,h1,h2,h3,h4,aZ]
   .simp[h1,h2,h3];have k1:¬e.fr<=nodes-1:=by omega
    refine sT (sH ?_);simp[dZ,h1,h2,h3,aZ,k1]
  .simp[h1,h2];refine sT (sH ?_);simp[dZ,h1,h2,aZ]
 .simp[h1];refine sT (sH ?_);simp[dZ,h1]
def aLW(g:Gr)(nb:Nat)(box:Bxs)(tok:Tks)(nt:Nat)(i:Nat):AS:=⟨tl [(1,.ptr (nb+1) 0 0),(3,I i)],lb nb box [(1,[[.d (ints g.nodes),.d (AM.edges g.edges)]])],tok,nt⟩
def aLo(g:Gr)(nb:Nat)(box:Bxs)(tok:Tks)(nt:Nat)(i:Nat):AS:=⟨tl [(1,.ptr (nb+1) 0 0),(4,I i)],lb nb box [(1,[[.d (ints g.nodes),.d (AM.edges g.edges)]])],tok,nt⟩
theorem aAj{α:Type}{p:α->Bool}{xs:List α}{i:Nat}(h:i<xs.length)(h2:p xs[i]=true):bA p xs=true:=dv.2 ⟨_,aa h,h2⟩
theorem aBJ{α:Type}{p:α->Bool}{xs:List α}{i:Nat}(h:xs.length<=i)(h2:∀x∈xs.take i,p x=false):bA p xs=false:=by
 rw[ak h] at h2;exact dz.2 fun x hx=>by simp[h2 x hx]
theorem zQ{α:Type}{p:α->Bool}{xs:List α}{i:Nat}(h:i<xs.length)(h1:∀x∈xs.take i,p x=false)(h2:p xs[i]=false):∀x∈xs.take (i+1),p x=false:=by
 intro x hx;rw[ah h] at hx;rcases ap.1 hx with hx|hx
 .exact h1 x hx
 .simp at hx;rw[hx];exact h2
theorem dS(g:Gr)(hg:g.Fit):DC 103 [g.av] (I (vG g)):=by
 intro tok nt box nb;have hn:=hg.n;have he:=hg.e;refine sI func103 ntmps103 fun Hb Ht=>?_
 refine sR ?_;simp;refine sR ?_;simp;first|refine Gd.dt (fun h1=>?_) (fun h1=>?_)|refine Gd.df (fun h1=>?_) (fun h1=>?_)|refine Gd.t (fun h1=>?_) (fun h1=>?_)|refine Gd.f (fun h1=>?_) (fun h1=>?_)
 .simp[h1];apply sC;simp;refine sR ?_;simp;refine sT (sH ?_);simp[vG,show 40<g.nodes.length by omega]
 .simp[h1];apply sC;simp;refine⟨fun h2=>?_,fun h2=>?_⟩
  .refine sR ?_;simp;refine sT (sH ?_);simp[vG,show 80<g.edges.length by omega]
  .have wt:¬40<g.nodes.length:=by omega
   have wu:¬80<g.edges.length:=by omega
   refine sR ?_;simp;apply sN;refine sL (aLW g nb box tok nt) (fun i=>i<=g.nodes.length/\∀x∈g.nodes.take i,(!aZ x 99)=false) (fun i=>g.nodes.length-i) 0 ⟨ai _,by simp⟩ wkA ?_;rintro i S ⟨hi,htk⟩ hS;simp only[aLW] at hS;subst hS;have hw:=sW (i:=i) (by omega);refine sR ?_;simp;apply sC;simp;refine⟨fun hlt=>?_,fun hge=>?_⟩
   .refine sR ?_;simp[hlt];refine sD (aIz _ _ _) ?_;simp;apply sC;simp;refine⟨fun hb=>?_,fun hb=>?_⟩
    .refine sR ?_;simp;have h3:bA (fun n=>!aZ n 99) g.nodes=true:=aAj hlt (by simp[hb])
     refine sT (sH ?_);simp[vG,wt,wu,h3]
    .refine sR ?_;simp[hw];apply sE;refine⟨i+1,⟨hlt,?_⟩,by omega,wkA⟩;have:=zQ (p:=fun n=>!aZ n 99) hlt (by simpa using htk) (by simp[hb])
     simpa using this
   .apply sX;simp only[AU,↓reduceIte];have h3:bA (fun n=>!aZ n 99) g.nodes=false:=aBJ hge (by simpa using htk)
    refine sR ?_;simp;apply sN;refine sL (aLo g nb box tok nt) (fun i=>i<=g.edges.length/\∀x∈g.edges.take i,(!dZ x g.nodes.length)=false) (fun i=>g.edges.length-i) 0 ⟨ai _,by simp⟩ wkA ?_;rintro i S ⟨hi,htk⟩ hS;simp only[aLo] at hS;subst hS;have hw:=sW (i:=i) (by omega);refine sR ?_;simp;apply sC;simp;refine⟨fun hlt=>?_,fun hge=>?_⟩
    .refine sR ?_;simp[hlt];refine sD (aKl g.edges[i] _ _ _) ?_;simp;apply sC;simp;refine⟨fun hb=>?_,fun hb=>?_⟩
     .refine sR ?_;simp;have h4:bA (fun e=>!dZ e g.nodes.length) g.edges=true:=aAj hlt (by simp[hb])
      refine sT (sH ?_);simp[vG,wt,wu,h3,h4]
     .refine sR ?_;simp[hw];apply sE;refine⟨i+1,⟨hlt,?_⟩,by omega,wkA⟩;have:=zQ (p:=fun e=>!dZ e g.nodes.length) hlt (by simpa using htk) (by simp[hb])
      simpa using this
    .apply sX;simp only[AU,↓reduceIte];have h4:bA (fun e=>!dZ e g.nodes.length) g.edges=false:=aBJ hge (by simpa using htk)
     refine sR ?_;simp;refine sT (sH ?_);simp[vG,wt,wu,h3,h4]
def nX(g:Gr):Bool:=decide ((g.nodes.length:Int)<=45)&&decide ((g.edges.length:Int)<=90)
theorem qF(g:Gr):DC 54 [g.av] (B (nX g)):=by
 intro tok nt box nb;refine sI func54 ntmps54 fun Hb Ht=>?_
 refine sR ?_;simp;refine sR ?_;simp;first|refine Gd.dt (fun h1=>?_) (fun h1=>?_)|refine Gd.df (fun h1=>?_) (fun h1=>?_)|refine Gd.t (fun h1=>?_) (fun h1=>?_)|refine Gd.f (fun h1=>?_) (fun h1=>?_)
 .simp[h1];refine sT (sH ?_);simp[nX,h1]
 .simp[h1];refine sT (sH ?_);simp[nX,h1]
theorem mQ{g:Gr}(h:nX g=true):g.Fit:=by
 simp[nX] at h;exact⟨by omega,by omega⟩
structure Ov where
 g:Gr
 l:Mo
 r:Mo
 deriving DecidableEq,Inhabited
structure Qu where
 g:Gr
 o:Mo
 deriving DecidableEq,Inhabited
abbrev Ov.cells(o:Ov):List D:=[ints o.g.nodes,AM.edges o.g.edges,ints o.l.nodes,ints o.l.edges,ints o.r.nodes,ints o.r.edges]
abbrev Ov.av(o:Ov):AV:=.agg [.d (ints o.g.nodes),.d (AM.edges o.g.edges),.d (ints o.l.nodes),.d (ints o.l.edges),.d (ints o.r.nodes),.d (ints o.r.edges)]
abbrev ovs(l:List Ov):D:=.sl 6 (l.map Ov.cells)
abbrev Qu.cells(o:Qu):List D:=[ints o.g.nodes,AM.edges o.g.edges,ints o.o.nodes,ints o.o.edges]
abbrev Qu.av(o:Qu):AV:=.agg [.d (ints o.g.nodes),.d (AM.edges o.g.edges),.d (ints o.o.nodes),.d (ints o.o.edges)]
structure Mo.Fit (m:Mo):Prop where
 n:m.nodes.length<=1000000
 e:m.edges.length<=1000000
def aNC(xs ys:List Int)(nb:Nat)(box:Bxs)(tok:Tks)(nt:Nat)(i:Nat):AS:=⟨tl [(0,.d (ints xs)),(1,.d (ints ys)),(5,I i)],lb nb box [],tok,nt⟩
theorem aKn(xs ys:List Int)(hx:xs.length<=1000000):DC 93 [.d (ints xs),.d (ints ys)] (B (decide (xs=ys))):=by
 intro tok nt box nb;refine sI func93 ntmps93 fun Hb Ht=>?_
 refine sR ?_;simp;refine sR ?_;simp;apply sC;simp;refine⟨fun hne=>?_,fun he=>?_⟩
 .refine sR ?_;simp;have:¬xs=ys:=fun e=>hne (by rw[e])
  refine sT (sH ?_);simp[this]
 .refine sR ?_;simp;apply sN;refine sL (aNC xs ys nb box tok nt) (fun i=>i<=xs.length/\xs.take i=ys.take i) (fun i=>xs.length-i) 0 ⟨ai _,rfl⟩ (wM (nr0 _) rfl (by simp[ToL]) trivial) ?_;rintro i S ⟨hi,htk⟩ hS;simp only[aNC] at hS;subst hS;refine sR ?_;simp;apply sC;simp;have hw:=sW (i:=i) (by omega);refine⟨fun hlt=>?_,fun hge=>?_⟩
  .have w8:i<ys.length:=by omega
   refine sR ?_;simp[hlt,w8];apply sC;simp;refine⟨fun hne=>?_,fun mo=>?_⟩
   .refine sR ?_;simp;have:¬xs=ys:=fun e=>hne (by simp[e])
    refine sT (sH ?_);simp[this]
   .refine sR ?_;simp[hw];apply sE;refine⟨i+1,⟨hlt,?_⟩,by omega,wM (nr0 _) rfl (by simp[ToL]) trivial⟩;rw[ah hlt,ah w8,htk,mo]
  .apply sX;simp only[AU,↓reduceIte];refine sR ?_;simp;have:xs=ys:=by
    rw[ak hge,ak (by omega)] at htk;exact htk
   refine sT (sH ?_);simp[this]
def aOr(xs ys:List Int)(nb:Nat)(box:Bxs)(tok:Tks)(nt:Nat)(i:Nat):AS:=⟨tl [(0,.d (ints xs)),(1,.d (ints ys)),(5,I i)],lb nb box [],tok,nt⟩
theorem aA7(xs ys:List Int)(hx:xs.length<=1000000):DC 132 [.d (ints xs),.d (ints ys)] (B (decide (xs=ys))):=by
 intro tok nt box nb;refine sI func132 ntmps132 fun Hb Ht=>?_
 refine sR ?_;simp;refine sR ?_;simp;apply sC;simp;refine⟨fun hne=>?_,fun he=>?_⟩
 .refine sR ?_;simp;have:¬xs=ys:=fun e=>hne (by rw[e])
  refine sT (sH ?_);simp[this]
 .refine sR ?_;simp;apply sN;refine sL (aOr xs ys nb box tok nt) (fun i=>i<=xs.length/\xs.take i=ys.take i) (fun i=>xs.length-i) 0 ⟨ai _,rfl⟩ (wM (nr0 _) rfl (by simp[ToL]) trivial) ?_;rintro i S ⟨hi,htk⟩ hS;simp only[aOr] at hS;subst hS;refine sR ?_;simp;apply sC;simp;have hw:=sW (i:=i) (by omega);refine⟨fun hlt=>?_,fun hge=>?_⟩
  .have w8:i<ys.length:=by omega
   refine sR ?_;simp[hlt,w8];apply sC;simp;refine⟨fun hne=>?_,fun mo=>?_⟩
   .refine sR ?_;simp;have:¬xs=ys:=fun e=>hne (by simp[e])
    refine sT (sH ?_);simp[this]
   .refine sR ?_;simp[hw];apply sE;refine⟨i+1,⟨hlt,?_⟩,by omega,wM (nr0 _) rfl (by simp[ToL]) trivial⟩;rw[ah hlt,ah w8,htk,mo]
  .apply sX;simp only[AU,↓reduceIte];refine sR ?_;simp;have:xs=ys:=by
    rw[ak hge,ak (by omega)] at htk;exact htk
   refine sT (sH ?_);simp[this]
def aPn(a b:Gr)(nb:Nat)(box:Bxs)(tok:Tks)(nt:Nat)(i:Nat):AS :=
 ⟨tl [(2,.ptr (nb+2) 0 0),(3,.ptr (nb+3) 0 0),(5,I i)],lb nb box [(2,[[.d (ints a.nodes),.d (AM.edges a.edges)]]),(3,[[.d (ints b.nodes),.d (AM.edges b.edges)]])],tok,nt⟩
theorem aHG(a b:Gr)(ha:a.Fit):DC 80 [a.av,b.av] (B (decide (a=b))):=by
 intro tok nt box nb;have hn:=ha.n;have he:=ha.e;have sy:a=b↔a.nodes=b.nodes/\a.edges=b.edges:=by cases a;cases b;simp
 refine sI func80 ntmps80 fun Hb Ht=>?_
 refine sR ?_;simp;refine sR ?_;simp;refine sD (aA7 a.nodes b.nodes hn _ _) ?_;by_cases h1:a.nodes=b.nodes
 .simp[h1];apply sC;simp;refine⟨fun h2=>?_,fun h2=>?_⟩
  .refine sR ?_;simp;have:¬a.edges=b.edges:=fun e=>h2 (by rw[e])
   refine sT (sH ?_);simp[sy,h1,this]
  .refine sR ?_;simp;apply sN;refine sL (aPn a b nb box tok nt) (fun i=>i<=a.edges.length/\a.edges.take i=b.edges.take i) (fun i=>a.edges.length-i) 0 ⟨ai _,rfl⟩ (wM (nr0 _) rfl (by simp[ToL,lk,h1]) (by simp[aE,lk,h1])) ?_;rintro i S ⟨hi,htk⟩ hS;simp only[aPn] at hS;subst hS;have hw:=sW (i:=i) (by omega);refine sR ?_;simp;apply sC;simp;refine⟨fun hlt=>?_,fun hge=>?_⟩
   .have w8:i<b.edges.length:=by omega
    have mo:a.edges[i]=b.edges[i]↔a.edges[i].ty=b.edges[i].ty/\a.edges[i].fr=b.edges[i].fr/\a.edges[i].to=b.edges[i].to:=by cases a.edges[i];cases b.edges[i];simp
    refine sR ?_;simp[hlt,w8];apply sC;simp;refine⟨fun hne=>?_,fun e1 e2 e3=>?_⟩
    .refine sR ?_;simp;have:¬a.edges=b.edges:=fun e=>by
      have e2:a.edges[i]=b.edges[i]:=by simp[e]
      have e3:=mo.1 e2;simp[e3] at hne
     refine sT (sH ?_);simp[sy,this]
    .refine sR ?_;simp[hw];apply sE;refine⟨i+1,⟨hlt,?_⟩,by omega,wM (nr0 _) rfl (by simp[ToL,lk,h1]) (by simp[aE,lk,h1])⟩;rw[ah hlt,ah w8,htk,mo.2 ⟨e1,e2,e3⟩]
   .apply sX;simp only[AU,↓reduceIte];refine sR ?_;simp;have:a.edges=b.edges:=by
     rw[ak hge,ak (by omega)] at htk;exact htk
    refine sT (sH ?_);simp[sy,h1,this]
 .simp[h1];apply sC;simp;refine sR ?_;simp;refine sT (sH ?_);simp[sy,h1]
structure Ov.Fit (o:Ov):Prop where
 g:o.g.Fit
 l:o.l.Fit
 r:o.r.Fit
structure Qu.Fit (o:Qu):Prop where
 g:o.g.Fit
 o:o.o.Fit
def aOg(xs:List Int)(v:Int)(nb:Nat)(box:Bxs)(tok:Tks)(nt:Nat)(i:Nat):AS:=⟨tl [(0,.d (ints xs)),(1,I v),(5,I i)],lb nb box [],tok,nt⟩
theorem aPD(xs:List Int)(v:Int)(hx:xs.length<=1000000):DC 267 [.d (ints xs),I v] (B (decide (v∈xs))):=by
 intro tok nt box nb;refine sI func267 ntmps267 fun Hb Ht=>?_
 refine sR ?_;simp;refine sR ?_;simp;apply sN;refine sL (aOg xs v nb box tok nt) (fun i=>i<=xs.length/\v∉xs.take i) (fun i=>xs.length-i) 0 ⟨ai _,by simp⟩ (wM (nr0 _) rfl (by simp[ToL]) trivial) ?_;rintro i S ⟨hi,htk⟩ hS;simp only[aOg] at hS;subst hS;have hw:=sW (i:=i) (by omega);refine sR ?_;simp;apply sC;simp;refine⟨fun hlt=>?_,fun hge=>?_⟩
 .refine sR ?_;simp[hlt];apply sC;simp;refine⟨fun he=>?_,fun hne=>?_⟩
  .refine sR ?_;simp;have i5:v∈xs:=by rw[<-he];exact aa _
   refine sT (sH ?_);simp[i5]
  .refine sR ?_;simp[hw];apply sE;refine⟨i+1,⟨hlt,?_⟩,by omega,wM (nr0 _) rfl (by simp[ToL]) trivial⟩;rw[ah hlt];simp only[ap,a7,not_or];exact⟨htk,fun e=>hne e.symm⟩
 .apply sX;simp only[AU,↓reduceIte];refine sR ?_;simp;have hn:v∉xs:=by rwa [ak hge] at htk
  refine sT (sH ?_);simp[hn]
def eS(n:Nat):List Int:=(List.range n).map fun (i:Nat)=>(i:Int)
theorem zS(n:Nat):eS (n+1)=eS n++[(n:Int)]:=by simp[eS,cu]
@[simp] theorem sU(n:Nat):(eS n).length=n:=by simp[eS]
@[simp] theorem aNp:eS 0=[]:=rfl
structure Acc where
 i:Nat
 own:Own
 tok:Nat->Bool
 nt:Nat
def aPR(n:Nat)(nb:Nat)(box:Bxs)(a:Acc):AS:=⟨tl [(0,I n),(3,.osl 1 (rI (eS a.i)) a.own),(4,I a.i)],lb nb box [],a.tok,a.nt⟩
theorem aDn(n:Nat)(hn:n<=1000000):DC 218 [I n] (.d (ints (eS n))):=by
 intro tok nt box nb;refine sI func218 ntmps218 fun Hb Ht=>?_
 refine sR ?_;simp;refine sR ?_;simp;refine sR ?_;simp;apply sN;refine sL (aPR n nb box) (fun a=>a.i<=n/\TK tok nt a.tok a.nt [a.own]) (fun a=>n-a.i) ⟨0,.full,tok,nt⟩ ⟨ai _,(TK.start Ht).full⟩ (wM (nr0 _) rfl (by simp[ToL]) trivial) ?_;rintro⟨i,own,tok',nt'⟩ S ⟨hi,htk⟩ hS;simp only[aPR] at hS hi htk;subst hS;have hw:=sW (i:=i) (by omega);refine sR ?_;simp;apply sC;simp;refine⟨fun hlt=>?_,fun hge=>?_⟩
 .refine sR ?_;simp;refine⟨⟨by omega,htk.live⟩,?_⟩;refine sR ?_;simp[hw];apply sE;refine⟨⟨i+1,_,_,_⟩,⟨hlt,htk.app⟩,by simp;omega,wM htk.app.le rfl (by simp[ToL,zS]) trivial⟩
 .apply sX;simp only[AU,↓reduceIte];refine sR ?_;simp;have:i=n:=by omega
  subst this;refine sT (sG Hb Ht htk.old htk.le ?_);simp
theorem aRC(g:Gr)(hg:g.Fit):DC 156 [g.av] (Mo.av ⟨eS g.nodes.length,eS g.edges.length⟩):=by
 intro tok nt box nb;refine sI func156 ntmps156 fun Hb Ht=>?_
 refine sR ?_;simp;refine sR ?_;simp;refine sD (aDn g.nodes.length hg.n _ _) ?_;simp;refine sD (aDn g.edges.length hg.e _ _) ?_;simp;refine sT (sH ?_);simp
theorem aIS(g:Gr)(hg:g.Fit)(tok:Tks)(nt:Nat):cZ prog 331 [g.av] tok nt (.agg [.osl 1 (rI g.nodes) (.tok nt),.osl 3 (rE g.edges) (.tok (nt+1))]) (upd (upd tok nt true) (nt+1) true) (nt+2):=by
 intro box nb;have h1:=hg.n;have h2:=hg.e;refine sI func331 ntmps331 fun Hb Ht=>?_
 refine sR ?_;simp;refine sR ?_;simp;refine⟨by omega,by omega,?_⟩;apply sN;refine AL.ret ?_;try simp only[AU]
 refine⟨by simp,Fin.own (by simp[aV,bQ];rfl) Hb rfl (by simp) ?_⟩;simp
def gJ(n i:Nat):List Int:=eS i++List.replicate (n-i) 0
@[simp] theorem tL{n i:Nat}(h:i<=n):(gJ n i).length=n:=by simp[gJ];omega
@[simp] theorem aNg(n:Nat):gJ n 0=List.replicate n 0:=by simp[gJ]
@[simp] theorem aCB(n:Nat):gJ n n=eS n:=by simp[gJ]
def aLL(n:Nat)(nb:Nat)(box:Bxs)(tok:Tks)(nt:Nat)(i:Nat):AS:=⟨tl [(3,.msl (nb+6) 0 n 1),(8,I n),(9,I i)],lb nb box [(6,eE (gJ n i))],tok,nt⟩
theorem aG6{n i:Nat}(h:i<n):(gJ n i).set i (i:Int)=gJ n (i+1):=by
 unfold gJ;rw[List.set_append];simp only[sU,Nat.lt_irrefl,↓reduceIte,Nat.sub_self,zS,cy];have:n-i=(n-(i+1))+1:=by omega
 rw[this,List.replicate_succ];simp
theorem aAw(n:Nat)(hn:n<=1000000):DC 335 [I n] (.d (ints (eS n))):=by
 intro tok nt box nb;refine sI func335 ntmps335 fun Hb Ht=>?_
 refine sR ?_;simp;refine sR ?_;simp;refine⟨by omega,?_⟩;refine sR ?_;simp;apply sN;refine sL (aLL n nb box tok nt) (fun i=>i<=n) (fun i=>n-i) 0 (ai _) wkA ?_;rintro i S hi hS;simp only[aLL] at hS;subst hS;have hw:=sW (i:=i) (by omega);refine sR ?_;simp;apply sC;simp;refine⟨fun hlt=>?_,fun hge=>?_⟩
 .refine sR ?_;simp;refine sR ?_;simp[hlt,hi];refine sR ?_;simp[hw];apply sE;refine⟨i+1,hlt,by omega,wM (nr0 _) rfl (by simp[ToL,lk]) (by simp[aE,lk,aG6 hlt])⟩
 .apply sX;simp only[AU,↓reduceIte];have:i=n:=by omega
  subst this;refine AL.weak (bB.frz (l':=[(3,.d (ints (eS i)))]) (loc':=[]) 6 1 (rI (eS i)) (nr0 _) rfl (by simp[lk,aDk]) (by simp[lk]) (by simp) (by simp[ToL]) (by simp[aE])) ?_;refine sR ?_;simp;refine sT (sH ?_);simp
def idM(g:Gr):Mo:=⟨eS g.nodes.length,eS g.edges.length⟩
theorem aDD(g:Gr)(hg:g.Fit)(hv:vG g=0):DC 325 [g.av] (.tup [(idM g).av,I 0]):=by
 intro tok nt box nb;refine sI func325 ntmps325 fun Hb Ht=>?_
 refine sR ?_;simp;refine sR ?_;simp;refine sD (bT g hg _ _) ?_;simp;refine sR ?_;simp[hv];apply sC;simp;refine sR ?_;simp;refine sD (aAw g.nodes.length hg.n _ _) ?_;simp;refine sD (aAw g.edges.length hg.e _ _) ?_;simp;refine sT (sH ?_);simp[idM]
def bX(an bn l:List Int):Nat->List Int × List Int
 | 0=>(an,[])
 | i+1=>if l.getD i 0<0 then ((bX an bn l i).1++[bn.getD i 0],(bX an bn l i).2++[((bX an bn l i).1.length:Int)]) else ((bX an bn l i).1,(bX an bn l i).2++[l.getD i 0])
def dT(ae be:List E)(rn l:List Int):Nat->List E × List Int
 | 0=>(ae,[])
 | i+1=>if l.getD i 0<0 then ((dT ae be rn l i).1++[⟨(be.getD i default).ty,rn.getD (be.getD i default).fr.toNat 0,rn.getD (be.getD i default).to.toNat 0⟩],(dT ae be rn l i).2++[((dT ae be rn l i).1.length:Int)])
  else ((dT ae be rn l i).1,(dT ae be rn l i).2++[l.getD i 0])
def bS(a b:Gr)(nodes edges:List Int):Ov :=
 let n:=bX a.nodes b.nodes nodes nodes.length
 let e:=dT a.edges b.edges n.2 edges edges.length
 ⟨⟨n.1,e.1⟩,idM a,⟨n.2,e.2⟩⟩
theorem kL(an bn l:List Int):∀i,(bX an bn l i).1.length<=an.length+i/\(bX an bn l i).2.length=i
 | 0=>by simp[bX]
 | i+1=>by
  have:=kL an bn l i
  simp only[bX];split<;>simp<;>omega
theorem kM(ae be:List E)(rn l:List Int):∀i,(dT ae be rn l i).1.length<=ae.length+i/\(dT ae be rn l i).2.length=i
 | 0=>by simp[dT]
 | i+1=>by
  have:=kM ae be rn l i
  simp only[dT];split<;>simp<;>omega
structure aOO where
 i:Nat
 o1:Own
 o2:Own
 o3:Own
 o4:Own
 tok:Nat->Bool
 nt:Nat
def aL4(a b:Gr)(l k:List Int)(nb:Nat)(box:Bxs)(x:aOO):AS :=
 ⟨tl [(2,.d (ints l)),(3,.d (ints k)),(4,.ptr (nb+4) 0 0),(5,.ptr (nb+5) 0 0),(8,.ptr (nb+8) 0 0),(11,.ptr (nb+11) 0 0),(31,.d (ints l)),(32,I l.length),(33,I x.i)],
  lb nb box [(4,[[.d (ints a.nodes),.d (AM.edges a.edges)]]),(5,[[.d (ints b.nodes),.d (AM.edges b.edges)]]),(8,[[.bot,.bot,.bot,.bot,.bot,.bot]]),
   (11,[[.osl 1 (rI (bX a.nodes b.nodes l x.i).1) x.o1,.osl 3 (rE a.edges) x.o2,.d (ints (idM a).nodes),.d (ints (idM a).edges),.osl 1 (rI (bX a.nodes b.nodes l x.i).2) x.o3,.osl 1 [] x.o4]])],x.tok,x.nt⟩
structure aO8 where
 i:Nat
 o1:Own
 o2:Own
 tok:Nat->Bool
 nt:Nat
def aLj(a b:Gr)(l k:List Int)(nb:Nat)(box:Bxs)(x:aO8):AS :=
 ⟨tl [(5,.ptr (nb+5) 0 0),(8,.ptr (nb+8) 0 0),(11,.ptr (nb+11) 0 0),(65,.d (ints k)),(66,I k.length),(67,I x.i)],
  lb nb box [(5,[[.d (ints b.nodes),.d (AM.edges b.edges)]]),(8,[[.bot,.bot,.bot,.bot,.bot,.bot]]),
   (11,[[.d (ints (bX a.nodes b.nodes l l.length).1),.osl 3 (rE (dT a.edges b.edges (bX a.nodes b.nodes l l.length).2 k x.i).1) x.o1,.d (ints (idM a).nodes),.d (ints (idM a).edges),.d (ints (bX a.nodes b.nodes l l.length).2),.osl 1 (rI (dT a.edges b.edges (bX a.nodes b.nodes l l.length).2 k x.i).2) x.o2]])],x.tok,x.nt⟩
theorem aJI(a b:Gr)(l k:List Int)(ha:a.Fit)(j6:vG a=0)(hl:l.length<=b.nodes.length)(hk:k.length<=b.edges.length)(md:l.length<=1000000)(iv:k.length<=1000000)(hx:∀i (h:i<k.length) (h2:i<b.edges.length),k[i]<0->0<=b.edges[i].fr/\b.edges[i].fr<l.length/\0<=b.edges[i].to/\b.edges[i].to<l.length):DC 294 [a.av,b.av,.d (ints l),.d (ints k)] (bS a b l k).av:=by
 intro tok nt box nb;have w9:=ha.n;have xb:=ha.e;refine sI func294 ntmps294 fun Hb Ht=>?_
 refine sR ?_;simp;refine sR ?_;simp;refine sD (aDD a ha j6 _ _) ?_;simp;refine sR ?_;simp;refine sD (gG a.nodes w9 _ _) ?_;simp;refine sD (aDo a.edges xb _ _) ?_;simp;refine sR ?_;simp;apply sN;have rh:TK tok nt (upd (upd tok nt true) (nt+1) true) (nt+2) [.tok nt,.tok (nt+1),.full,.full]:=((TK.start Ht).full.app.full.app.swap.full.full).perm (List.perm_append_comm (l₁:=[Own.full,Own.full]) (l₂:=[Own.tok nt,Own.tok (nt+1)]))
 refine sL (aL4 a b l k nb box) (fun x=>x.i<=l.length/\TK tok nt x.tok x.nt [x.o1,x.o2,x.o3,x.o4]) (fun x=>l.length-x.i) ⟨0,.tok nt,.tok (nt+1),.full,.full,_,_⟩ ⟨ai _,rh⟩ (wM rh.le rfl (by simp[ToL,lk]) (by simp[aE,lk,bX,idM])) ?_;rintro⟨i,o1,o2,o3,o4,tok',nt'⟩ S ⟨hi,htk⟩ hS;simp only[aL4] at hS hi htk;subst hS;have hw:=sW (i:=i) (by omega);have lu:=kL a.nodes b.nodes l i;refine sR ?_;simp;apply sC;simp;refine⟨fun hlt=>?_,fun hge=>?_⟩
 .have md:i<b.nodes.length:=by omega
  refine sR ?_;simp[hlt];refine sR ?_;simp;apply sC;simp;refine⟨fun g8=>?_,fun kk=>?_⟩
  .refine sR ?_;simp;refine sR ?_;simp[md];refine⟨⟨by omega,htk.live⟩,?_⟩;have jh:=htk.app;refine sR ?_;simp;refine⟨⟨by omega,by simpa using jh.pick3.live⟩,?_⟩;have gw:=jh.pick3.app.put3;refine sR ?_;simp[hw];apply sE;have hg:l.getD i 0=l[i]:=by simp[hlt]
   have lq:b.nodes.getD i 0=b.nodes[i]:=by simp[md]
   refine⟨⟨i+1,_,_,_,_,_,_⟩,⟨hlt,gw⟩,by simp;omega,wM gw.le rfl (by simp[ToL,lk]) (by simp[aE,lk,bX,hlt,md,g8])⟩
  .refine sR ?_;simp;refine⟨⟨by omega,htk.pick3.live⟩,?_⟩;have gw:=htk.pick3.app.put3;refine sR ?_;simp[hw];apply sE;refine⟨⟨i+1,_,_,_,_,_,_⟩,⟨hlt,gw⟩,by simp;omega,wM gw.le rfl (by simp[ToL,lk]) (by simp[aE,lk,bX,hlt,md,show ¬l[i]<0 by omega])⟩
 .apply sX;simp only[AU,↓reduceIte];have:i=l.length:=by omega
  subst this;refine sR ?_;simp;apply sN;have gw:=htk.tail.swap.tail;refine sL (aLj a b l k nb box) (fun x=>x.i<=k.length/\TK tok nt x.tok x.nt [x.o1,x.o2]) (fun x=>k.length-x.i) ⟨0,o2,o4,tok',nt'⟩ ⟨ai _,gw⟩ (wM gw.le rfl (by simp[ToL,lk]) (by simp[aE,lk,dT])) ?_;rintro⟨i,o1,o2,tok',nt'⟩ S ⟨hi,htk⟩ hS;simp only[aLj] at hS hi htk;subst hS;have hw:=sW (i:=i) (by omega);generalize vt:(bX a.nodes b.nodes l l.length).2=rn at *;have mz:rn.length=l.length:=lu.2
  have g9:=kM a.edges b.edges rn k i;refine sR ?_;simp;apply sC;simp;refine⟨fun hlt=>?_,fun hge=>?_⟩
  .have md:i<b.edges.length:=by omega
   refine sR ?_;simp[hlt];refine sR ?_;simp;apply sC;simp;refine⟨fun g8=>?_,fun kk=>?_⟩
   .obtain⟨x1,x2,x3,x4⟩:=hx i hlt md g8;have y1:b.edges[i].fr.toNat<rn.length:=by omega
    have y2:b.edges[i].to.toNat<rn.length:=by omega
    refine sR ?_;simp;refine sR ?_;simp[md];refine sR ?_;simp[x1,x2,x3,x4,y1,y2,mz];refine⟨⟨by omega,htk.live⟩,?_⟩;have jh:=htk.app;refine sR ?_;simp;refine⟨⟨by omega,by simpa using jh.swap.live⟩,?_⟩;have gw:=jh.swap.app.swap;refine sR ?_;simp[hw];apply sE;have Au:b.edges.getD i default=b.edges[i]:=by simp[md]
    refine⟨⟨i+1,_,_,_,_⟩,⟨hlt,gw⟩,by simp;omega,wM gw.le rfl (by simp[ToL,lk]) (by simp[aE,lk,dT,vt,hlt,md,g8,y1,y2])⟩
   .refine sR ?_;simp;refine⟨⟨by omega,htk.swap.live⟩,?_⟩;have gw:=htk.swap.app.swap;refine sR ?_;simp[hw];apply sE;refine⟨⟨i+1,_,_,_,_⟩,⟨hlt,gw⟩,by simp;omega,wM gw.le rfl (by simp[ToL,lk]) (by simp[aE,lk,dT,vt,hlt,md,show ¬k[i]<0 by omega])⟩
  .apply sX;simp only[AU,↓reduceIte];have:i=k.length:=by omega
   subst this;refine sR ?_;simp;refine sT (sG Hb Ht htk.old htk.le ?_);simp[bS,vt]
end Go.AM
