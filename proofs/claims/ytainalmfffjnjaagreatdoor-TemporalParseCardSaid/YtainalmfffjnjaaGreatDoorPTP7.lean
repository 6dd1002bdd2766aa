/-
 Parts of the proof, as merged from many texts: a machine over data, what the functions compute, plain laws.
-/
import Derived.Test.YtainalmfffjnjaaGreatDoorPTP6
import Derived.Shelf.Sort.Plain
import Derived.Ground.Names2Prog
import Derived.Shelf.Slices.Clone
import Derived.Shelf.Slices.CompactI
import Derived.Shelf.Slices.In.SortNone
import Derived.Test.YtainalmfffjnjaaGreatDoorProg
import Derived.Test.YtainalmfffjnjaaGreatDoorChecked
import Derived.WalkKit
import Derived.Deep.LoopGhost
import Derived.Sort.OwnSortedInts
import Derived.Lib.OwnBridge
import Derived.RangeFuncBox
import Derived.RangeFuncLeaves
import Derived.Shelf.Abstract
import Derived.OwnWalkIn
import Derived.TacticsInMore
import Derived.LoopNIn
import Derived.LoopIn
import Derived.Maps.AppendAt
import Derived.Sort.EveryDepth
import Derived.Shelf.Small.Strs
import Derived.Shelf.Strings.Search1
import Derived.Shelf.Slices.Reverse
import Derived.Laws.Strings
import Derived.WideShapes
set_option linter.unusedSimpArgs false
set_option linter.unusedVariables false
namespace Go.AM
open Go Go.Proofs
open Go.Proofs.Tryz
structure Mo.Big (m:Mo):Prop where
 n:m.nodes.length<=281474976710656
 e:m.edges.length<=281474976710656
theorem indexI_spec(x:List Int)(k:Int):(indexI x k = -1/\k∉x)∨∃i:Nat,indexI x k=i/\i<x.length/\x.getD i 0=k:=by
 unfold indexI;by_cases h:k∈x
 .right;rw[if_pos h];have h1:=List.idxOf_lt_length_of_mem h;refine⟨x.idxOf k,rfl,h1,?_⟩;rw[List.getD_eq_getElem?_getD,List.getElem?_eq_getElem h1];simp
 .left;rw[if_neg h];exact⟨rfl,h⟩
theorem nodup_le{α:Type}[DecidableEq α]:∀(l m:List α),l.Nodup->(∀x∈l,x∈m)->l.length<=m.length
 | [],m,_,_=>Nat.zero_le _
 | x::l,m,hn,h=>by
  have hn':=List.nodup_cons.1 hn
  have hx:=h x (by simp);have:=nodup_le l (m.erase x) hn'.2 fun y hy=>(List.mem_erase_of_ne (show y≠x from fun e=>hn'.1 (by rw[<-e];exact hy))).2 (h y (by simp[hy]))
  rw[List.length_erase_of_mem hx] at this;have hp:0<m.length:=List.length_pos_of_mem hx
  simp only[List.length_cons];omega
def okN(a b:Gr)(i k:Nat):Bool:=decide (a.nodes.getD k 0=b.nodes.getD i 0)
def okE(a b:Gr)(x:List Int)(i k:Nat):Bool:=decide (a.edges.getD k default=⟨(b.edges.getD i default).ty,x.getD (b.edges.getD i default).fr.toNat 0,x.getD (b.edges.getD i default).to.toNat 0⟩)
structure Dr where
 nodes:List Int
 edges:List (Int × Int × Int)
abbrev u8(n:Int):D:=.raw (.int .u8 n)
abbrev Dr.av(x:Dr):AV:=.agg [.d (.sl 1 (x.nodes.map fun n=>[u8 n])),.d (.sl 3 (x.edges.map fun e=>[u8 e.1,u8 e.2.1,u8 e.2.2]))]
def distK(l:List Int)(i:Nat):Bool:=(List.range i).all fun j=>(List.range j).all fun k=>decide (l.getD j 0≠l.getD k 0)
def injM(a b:Gr)(m:Mo):Bool:=decide (validM a b m=0)&&(distK m.nodes m.nodes.length&&distK m.edges m.edges.length)
def mN(x:Dr)(i:Nat):List Int:=(x.nodes.take i).map fun n=>n % 3
@[simp] theorem mN_len(x:Dr)(i:Nat):(mN x i).length=min i x.nodes.length:=by simp[mN]
def mE(x:Dr)(n:Int)(i:Nat):List E:=(x.edges.take i).map fun e=>⟨e.1 % 2,e.2.1 % n,e.2.2 % n⟩
@[simp] theorem mE_len(x:Dr)(n:Int)(i:Nat):(mE x n i).length=min i x.edges.length:=by simp[mE]
theorem getD_pre{α:Type}{r t:List α}{d:α}{j:Nat}(h:j<r.length):(r++t).getD j d=r.getD j d:=by
 simp[List.getD_eq_getElem?_getD,List.getElem?_append_left h]
theorem getD_mem{α:Type}{r:List α}{d:α}{j:Nat}(h:j<r.length):r.getD j d∈r:=by
 simp[List.getD_eq_getElem?_getD,List.getElem?_eq_getElem h]
theorem iota_getD{n j:Nat}(h:j<n):(iota n).getD j 0=j:=by
 simp[iota,List.getD_eq_getElem?_getD,h]
theorem firstE_zero{f:Nat->Int}:∀n,(∀i,i<n->f i=0)->firstE f n=0
 | 0,_=>rfl
 | n+1,h=>by
  simp only[firstE,firstE_zero n fun i hi=>h i (by omega),↓reduceIte];exact h n (by omega)
theorem validG_types{g:Gr}(h:vG g=0):(g.nodes.length<=40/\g.edges.length<=80)/\(∀n∈g.nodes,withinB n 99=true)/\∀e∈g.edges,fitsB e g.nodes.length=true:=by
 unfold vG at h;split at h
 .cases h
 .rename_i h0;split at h
  .cases h
  .rename_i h1;split at h
   .cases h
   .rename_i h2;simp only[anyB,List.any_eq_true,not_exists,not_and,Bool.not_eq_true',Bool.not_eq_false] at h1 h2;exact⟨by omega,h1,h2⟩
theorem validG_of{g:Gr}(h0:g.nodes.length<=40/\g.edges.length<=80)(h1:∀n∈g.nodes,withinB n 99=true)(h2:∀e∈g.edges,fitsB e g.nodes.length=true):vG g=0:=by
 unfold vG;rw[if_neg (by omega),if_neg,if_neg]
 .simp only[anyB,List.any_eq_true,not_exists,not_and,Bool.not_eq_true',Bool.not_eq_false];exact h2
 .simp only[anyB,List.any_eq_true,not_exists,not_and,Bool.not_eq_true',Bool.not_eq_false];exact h1
theorem fitsB_iff(e:E)(n:Int):fitsB e n=true↔withinB e.ty 99=true/\(0<=e.fr/\e.fr<n)/\(0<=e.to/\e.to<n):=by
 simp only[fitsB,withinB,Bool.and_eq_true,decide_eq_true_eq];omega
end Go.AM
namespace Go.Proofs
open Go.Shelf
open Go.Proofs.Tryz
def Tryz.lays189_ren:Go.Shelf.Ren:=⟨fun|189=>156|125=>232|257=>231|128=>275|129=>276|294=>266|295=>267|296=>268|297=>269|298=>270|299=>271|216=>272|300=>273|301=>274|328=>294|329=>295|330=>296|331=>297|332=>298|215=>299|343=>312|n=>n,fun|28=>26|3=>3|46=>310|0=>0|51=>283|53=>352|4=>4|183=>344|182=>343|131=>348|5=>5|9=>9|218=>367|222=>371|228=>383|229=>244|n=>n,fun|n=>n⟩
theorem Tryz.lays189:Go.Proofs.Lays.n189 prog Tryz.lays189_ren:={
 mixed:=by kernel_rfl
 f125:=func232.trans (congrArg some (by kernel_rfl))
 f128:=func275.trans (congrArg some (by kernel_rfl))
 f129:=func276.trans (congrArg some (by kernel_rfl))
 f189:=func156.trans (congrArg some (by kernel_rfl))
 f215:=func299.trans (congrArg some (by kernel_rfl))
 f216:=func272.trans (congrArg some (by kernel_rfl))
 f257:=func231.trans (congrArg some (by kernel_rfl))
 f294:=func266.trans (congrArg some (by kernel_rfl))
 f295:=func267.trans (congrArg some (by kernel_rfl))
 f296:=func268.trans (congrArg some (by kernel_rfl))
 f297:=func269.trans (congrArg some (by kernel_rfl))
 f298:=func270.trans (congrArg some (by kernel_rfl))
 f299:=func271.trans (congrArg some (by kernel_rfl))
 f300:=func273.trans (congrArg some (by kernel_rfl))
 f301:=func274.trans (congrArg some (by kernel_rfl))
 f328:=func294.trans (congrArg some (by kernel_rfl))
 f329:=func295.trans (congrArg some (by kernel_rfl))
 f330:=func296.trans (congrArg some (by kernel_rfl))
 f331:=func297.trans (congrArg some (by kernel_rfl))
 f332:=func298.trans (congrArg some (by kernel_rfl))
 f343:=func312.trans (congrArg some (by kernel_rfl))
 t0:=underlying0
 a0:=isAgg0
 z0:=sizeOf0
 v0:=zeroValue0
 t3:=underlying3
 a3:=isAgg3
 z3:=sizeOf3
 v3:=zeroValue3
 t4:=underlying4
 a4:=isAgg4
 z4:=sizeOf4
 v4:=zeroValue4
 t5:=underlying5
 a5:=isAgg5
 z5:=sizeOf5
 v5:=zeroValue5
 t9:=underlying9
 a9:=isAgg9
 z9:=sizeOf9
 v9:=zeroValue9
 t28:=underlying26
 a28:=isAgg26
 z28:=sizeOf26
 v28:=zeroValue26
 t46:=underlying310
 a46:=isAgg310
 z46:=sizeOf310
 v46:=zeroValue310
 t51:=underlying283
 a51:=isAgg283
 z51:=sizeOf283
 v51:=zeroValue283
 t53:=underlying352
 a53:=isAgg352
 z53:=sizeOf352
 v53:=zeroValue352
 t131:=underlying348
 a131:=isAgg348
 z131:=sizeOf348
 v131:=zeroValue348
 t182:=underlying343
 a182:=isAgg343
 z182:=sizeOf343
 v182:=zeroValue343
 t183:=underlying344
 a183:=isAgg344
 z183:=sizeOf344
 v183:=zeroValue344
 t218:=underlying367
 a218:=isAgg367
 z218:=sizeOf367
 v218:=zeroValue367
 t222:=underlying371
 a222:=isAgg371
 z222:=sizeOf371
 v222:=zeroValue371
 t228:=underlying383
 a228:=isAgg383
 z228:=sizeOf383
 v228:=zeroValue383
 t229:=underlying244
 a229:=isAgg244
 z229:=sizeOf244
 v229:=zeroValue244 }
open Go.Sort Go.RowKit in
theorem Tryz.slices_Sort_int(blk off cap:Nat)(zs:List Int)(w:World)(hH:Holds (Value.int .i64) w blk off zs.toArray)(hblk:blk<w.heap.size)(hsz:zs.length<4611686018427387904):
  Calls prog 156 #[.slice (some ⟨blk,off,none⟩) zs.length cap] w fun e w' =>
   e=.returned (.tuple #[])/\∃n os,w'=grow (putRow (Value.int .i64) (Sort.ahead w n) blk off (zs.mergeSort fun x y=>decide (x<=y)).toArray) os:=Any.slices_Sort_int Tryz.lays189 blk off cap zs w hH hblk hsz
def Tryz.laysNm215_ren:Go.Shelf.Ren:=⟨fun|15=>126|n=>n,fun|22=>26|3=>3|4=>4|n=>n,fun|n=>n⟩
theorem Tryz.laysNm215:Go.Proofs.Lays2.n15 prog Tryz.laysNm215_ren:={
 mixed:=by kernel_rfl
 f15:=func126.trans (congrArg some (by kernel_rfl))
 t3:=underlying3
 a3:=isAgg3
 z3:=sizeOf3
 v3:=zeroValue3
 t4:=underlying4
 a4:=isAgg4
 z4:=sizeOf4
 v4:=zeroValue4
 t22:=underlying26
 a22:=isAgg26
 z22:=sizeOf26
 v22:=zeroValue26
 i3:=by kernel_rfl }
open Go.RowKit Go.Lib in
theorem Tryz.slices_Clone_int(b off n c:Nat)(zs:List Int)(w:World)(hz:n<=zs.length)(hbig:n*8<=140737488355328)(hc:∀j,j<zs.length->w.cell? ⟨b,off+j,none⟩=some (.int .i64 (zs.getD j 0))):
  Calls prog 126 #[.slice (some ⟨b,off,none⟩) n c] w fun e w'=>∃v',e=.returned v'/\w'.ownsRow w.heap.size 3 1 v' n ((zs.take n).map (Value.int .i64))/\v'≠.slice none 0 0/\Below w.heap.size w w':=Any.slices_Clone_int Tryz.laysNm215 b off n c zs w hz hbig hc
open Go.RowKit Go.Lib in
theorem Tryz.slices_Clone_int_nil(n c:Nat)(w:World):
  Calls prog 126 #[.slice none n c] w fun e w'=>e=.returned (.slice none 0 0)/\w'=w:=Any.slices_Clone_int_nil Tryz.laysNm215 n c w
open Go.RowKit Go.Lib in
theorem Tryz.slices_Clone_int_zero(a:Addr)(c:Nat)(w:World):
  Calls prog 126 #[.slice (some a) 0 c] w fun e w'=>∃v',e=.returned v'/\w'.ownsRow w.heap.size 3 1 v' 0 []/\v'≠.slice none 0 0/\Below w.heap.size w w':=Any.slices_Clone_int_zero Tryz.laysNm215 a c w
def Tryz.laysNm220_ren:Go.Shelf.Ren:=⟨fun|20=>258|n=>n,fun|22=>26|3=>3|4=>4|0=>0|n=>n,fun|n=>n⟩
theorem Tryz.laysNm220:Go.Proofs.Lays2.n20 prog Tryz.laysNm220_ren:={
 mixed:=by kernel_rfl
 f20:=func258.trans (congrArg some (by kernel_rfl))
 t0:=underlying0
 a0:=isAgg0
 z0:=sizeOf0
 v0:=zeroValue0
 t3:=underlying3
 a3:=isAgg3
 z3:=sizeOf3
 v3:=zeroValue3
 t4:=underlying4
 a4:=isAgg4
 z4:=sizeOf4
 v4:=zeroValue4
 t22:=underlying26
 a22:=isAgg26
 z22:=sizeOf26
 v22:=zeroValue26
 i3:=by kernel_rfl }
open Go.RowKit Go.Lib Go.Sort in
theorem Tryz.slices_Compact_int(blk off cap:Nat)(zs:List Int)(w:World)(hH:Holds (Value.int .i64) w blk off zs.toArray)(hsz:zs.length<=9223372036854775807)(hcap:zs.length<=cap):
  Calls prog 258 #[.slice (some ⟨blk,off,none⟩) zs.length cap] w fun e w'=>e=.returned (.slice (some ⟨blk,off,none⟩) (Lib.compact zs).length cap)/\∃q,w'=putRow (Value.int .i64) (Sort.ahead w q) blk off (Lib.compact zs++List.replicate (zs.length-(Lib.compact zs).length) 0).toArray:=Any.slices_Compact_int Tryz.laysNm220 blk off cap zs w hH hsz hcap
open Go.RowKit Go.Lib Go.Sort in
theorem Tryz.slices_Compact_int_empty(a:Option Addr)(cap:Nat)(w:World):
  Calls prog 258 #[.slice a 0 cap] w fun e w'=>e=.returned (.slice a 0 cap)/\w'=w:=Any.slices_Compact_int_empty Tryz.laysNm220 a cap w
open Go.RowKit Go.Sort in
theorem Tryz.slices_Sort_int_none(p:Option Addr)(cap:Nat)(w:World):
  Calls prog 156 #[.slice p 0 cap] w fun e w'=>e=.returned (.tuple #[])/\w'=w:=Any.slices_Sort_int_none Tryz.lays189 p cap w
end Go.Proofs
namespace Go.Proofs.YtainalmfffjnjaaGreatDoor.images
open Go Go.Proofs Go.RowKit Go.Shelf Go.Sort
open Go.Proofs.Tryz
theorem below_grow{B:Nat}{w0 w:World}{os:Array Obj}(h:Below B w0 w)(hB:B<=w.heap.size):Below B w0 (grow w os) :=
 ⟨h.os,h.tape,h.output,by simp[grow];have:=h.size;omega,fun k hk=>by
  rw[<-h.block k hk];exact heap_grow_old _ _ (by omega)⟩
set_option maxHeartbeats 2000000 in
set_option maxRecDepth 100000 in
theorem any(b off n c:Nat)(zs:List Int)(w:World)(hz:zs.length=n)(hbig:n*8<=140737488355328)(hc:∀j,j<zs.length->w.cell? ⟨b,off+j,none⟩=some (.int .i64 (zs.getD j 0))):
    Calls prog 205 #[.slice (some ⟨b,off,none⟩) n c] w fun e w'=>e=.returned (.int .i64 (Lib.compact (zs.mergeSort fun x y=>decide (x<=y))).length)/\Below w.heap.size w w':=by
  have hclone:=Tryz.slices_Clone_int b off n c zs w (by omega) hbig hc;rw[List.take_of_length_le (by omega)] at hclone;clear hc
  go_enter func205,ntmps205
  go_wp2_with (first
    | (go_at_call 126;refine hclone.mono ?_;rintro e w1 ⟨v1,rfl,hown,hnn,hbel⟩
       obtain⟨g,cap,rfl,hbg,hgl,hncap,hcm,hlen,hH⟩:=Lib.holds_of_ownsRow hown hnn;have hsort:=Tryz.slices_Sort_int g 0 cap zs w1 hH hgl (by omega);rw[hlen] at hsort;have X:Aside (Below w.heap.size w w1/\w.heap.size<=g/\g<w1.heap.size/\n<=cap/\cap<=maxLen/\Holds (Value.int .i64) w1 g 0 zs.toArray):=⟨hbel,hbg,hgl,hncap,hcm,hH⟩
       clear hown hbel hH hnn)
    | (go_at_call 156;refine hsort.mono ?_;rintro e w2 ⟨rfl,nn,os,rfl⟩
       have hl2:(zs.mergeSort fun x y=>decide (x<=y)).length=n:=by rw[List.length_mergeSort];exact hz
       have hH2:Holds (Value.int .i64) (grow (putRow (Value.int .i64) (Sort.ahead w1 nn) g 0 (zs.mergeSort fun x y=>decide (x<=y)).toArray) os) g 0 (zs.mergeSort fun x y=>decide (x<=y)).toArray :=
         holds_grow _ _ os g 0 _ (by simpa[putRow,mapBlock,Sort.ahead] using X.out.2.2.1) (holds_putRow _ _ g 0 _ _ (holds_ahead _ w1 nn g 0 _ X.out.2.2.2.2.2) (by simp))
       have hcomp:=Tryz.slices_Compact_int g 0 cap (zs.mergeSort fun x y=>decide (x<=y)) _ hH2 (by omega) (by have:=X.out.2.2.2.1;omega);rw[hl2] at hcomp;clear hH2 hsort)
    | (go_at_call 258;refine hcomp.mono ?_;rintro e w3 ⟨rfl,q,rfl⟩))
  go_ret
  exact⟨rfl,Lib.below_putRow (below_grow (Lib.below_putRow X.out.1 X.out.2.1) (by have:=X.out.1.size;simp[putRow,mapBlock,Sort.ahead];omega)) X.out.2.1⟩
set_option maxHeartbeats 2000000 in
set_option maxRecDepth 100000 in
theorem zero(a:Addr)(c:Nat)(w:World):Calls prog 205 #[.slice (some a) 0 c] w fun e w'=>e=.returned (.int .i64 0)/\Below w.heap.size w w':=by
  have hclone:=Tryz.slices_Clone_int_zero a c w
  go_enter func205,ntmps205
  go_wp2_with (first
    | (go_at_call 126;refine hclone.mono ?_;rintro e w1 ⟨v1,rfl,hown,hnn,hbel⟩
       obtain⟨g,cap,rfl,_,_,_,_,_,_⟩:=Lib.holds_of_ownsRow (enc:=Value.int .i64) (zs:=[]) hown hnn;have X:Aside (Below w.heap.size w w1):=hbel
       clear hown hbel hnn)
    | (go_at_call 156;refine(Tryz.slices_Sort_int_none _ _ _).mono ?_;rintro e w2 ⟨rfl,rfl⟩)
    | (go_at_call 258;refine(Tryz.slices_Compact_int_empty _ _ _).mono ?_;rintro e w3 ⟨rfl,rfl⟩))
  go_ret
  exact⟨rfl,X.out⟩
set_option maxHeartbeats 2000000 in
set_option maxRecDepth 100000 in
theorem none(n c:Nat)(w:World):Calls prog 205 #[.slice none n c] w fun e w'=>e=.returned (.int .i64 0)/\Below w.heap.size w w':=by
 go_enter func205,ntmps205
 go_wp2_with (first
  | (go_at_call 126;refine(Tryz.slices_Clone_int_nil n c _).mono ?_;rintro e w1 ⟨rfl,rfl⟩)
  | (go_at_call 156;refine(Tryz.slices_Sort_int_none _ _ _).mono ?_;rintro e w2 ⟨rfl,rfl⟩)
  | (go_at_call 258;refine(Tryz.slices_Compact_int_empty _ _ _).mono ?_;rintro e w3 ⟨rfl,rfl⟩))
 go_ret
 exact⟨rfl,Below.refl _ _⟩
end Go.Proofs.YtainalmfffjnjaaGreatDoor.images
namespace Go.AM
open Go Go.Proofs Go.RowKit
open Go.Proofs.Tryz
theorem le_below{G:Gh}{w w':World}{m:AMem}(hm:RelM G m w)(h:Below w.heap.size w w'):Le G w G w' where
 os:=h.os
 tape:=h.tape
 output:=h.output
 size:=h.size
 whole b hb hk:=⟨hk,h.block b hb⟩
 part b f c hk:=⟨⟨f,nr _,hk⟩,fun a ha _=>by
  have hb:a.block<w.heap.size:=by
   rcases Nat.lt_or_ge a.block w.heap.size with hb|hb
   .exact hb
   .have:=hm.fresh a.block hb
    rw[ha,hk] at this;cases this
  exact World.cell?_of_block (w:=w) (h.block _ hb)⟩
 bx _ _ h:=h
 ty b c0 T f0 hb:=⟨c0,f0,(h.block b (Array.getElem?_eq_some_iff.1 hb).1).trans hb⟩
 nt:=nr _
 tk t _:=.inr ⟨rfl,fun g hg=>⟨rfl,fun _=>h.block g (hm.tlt t g hg)⟩⟩
theorem lt_of_obj{w:World}{b:Nat}{o:Obj}(h:w.heap[b]?=some o):b<w.heap.size:=by
 rcases Nat.lt_or_ge b w.heap.size with hb|hb
 .exact hb
 .rw[Array.getElem?_eq_none hb] at h;cases h
theorem relM_below{G:Gh}{w w':World}{m:AMem}(hm:RelM G m w)(h:Below w.heap.size w w'):RelM G m w':=by
 have hle:=le_below hm h;constructor
 case box =>
  intro k rows b sz h1 h2;obtain⟨g1,cs,e,g2,g3,g4,g5⟩:=hm.box k rows b sz h1 h2;exact⟨g1,cs,e,by rw[h.block b (lt_of_obj g2)];exact g2,g3,g4.mono hle,g5⟩
 case nobox=>exact hm.nobox
 case inj=>exact hm.inj
 case nb=>exact hm.nb
 case nt=>exact hm.nt
 case toks=>exact hm.toks
 case tokb =>
  intro t g hg;obtain⟨f,cur,e,g1,g2⟩:=hm.tokb t g hg;exact⟨f,cur,e,g1,by rw[h.block g (lt_of_obj g2)];exact g2⟩
 case tinj=>exact hm.tinj
 case tnt=>exact hm.tnt
 case glob=>exact hm.glob.mono hle.cells
 case fresh=>intro b hb;exact hm.fresh b (Nat.le_trans h.size hb)
theorem DCall.of_below{P:Program}{f:FuncId}{args:List AV}{tok:Nat->Bool}{nt:Nat}{v:Value}(hE:Enters P f)(h1:v.oneCell'=true)(h:∀G w vals,RVs G w args vals->Calls P f vals.toArray w fun e w'=>e=.returned v/\Below w.heap.size w w'):DCall P f args tok nt (.d (.raw v)) tok nt:=by
 intro box nb;refine⟨hE,fun G w vals hm hr=>(h G w vals hr).mono ?_⟩;rintro e w' ⟨rfl,hb⟩;exact⟨v,_,_,G,rfl,⟨rfl,rfl⟩,rfl,relM_below hm hb,.d (.raw h1),le_below hm hb,fun k hk=>⟨hk,rfl⟩⟩
theorem rvd_ints{c:Addr->Option Value}{ps:Addr->Prop}{l:List Int}{v:Value}(h:RVd c ps (ints l) v):
  ∃A cap,v=.slice A l.length cap/\l.length<=cap/\cap<=maxLen/\(l≠[]->∃a,A=some a)/\∀a,A=some a->∀i,i<l.length->c (a.add i)=some (.int .i64 (l.getD i 0)):=by
 unfold ints at h;generalize hes:(l.map fun n=>[D.raw (.int .i64 n)])=es at h;cases h with
 | @sl _ _ A cap u hcap hmax hsz hA hc hr =>
  have hl:es.length=l.length:=by rw[<-hes];simp
  refine⟨A,cap,by rw[hl],by omega,hmax,fun hne=>hA (by intro e;rw[e] at hl;exact hne (List.length_eq_zero_iff.1 hl.symm)),fun a ha i hi=>?_⟩;have g:=(hc a ha i 0 (by omega) (by decide)).2;have r:=hr i 0 (by omega) (by rw[hsz _ (List.getElem_mem _)];decide);have e1:es[i][0]'(by rw[hsz _ (List.getElem_mem _)];decide)=D.raw (.int .i64 l[i]):=by
   subst hes;simp
  rw[e1] at r;have e2:u i 0=.int .i64 l[i]:=by
   generalize hu:u i 0=x at r;cases r;rfl
  rw[Nat.mul_one,Nat.add_zero,e2] at g;rw[g];simp[hi]
def imagesN(l:List Int):Nat:=(Lib.compact (l.mergeSort fun x y=>decide (x<=y))).length
theorem imagesN_nil:imagesN []=0:=by
 simp[imagesN,List.mergeSort,Lib.compact];rfl
theorem images88_c(l:List Int)(hl:l.length<=1000000)(tok:Tks)(nt:Nat):DCall prog 205 [.d (ints l)] tok nt (I (imagesN l)) tok nt:=by
 refine DCall.of_below (Enters.mk func205 rfl (by kernel_rfl)) rfl fun G w vals hr=>?_
 obtain⟨hlen,hrv⟩:=hr
 match vals,hlen with
 | [v],_ =>
  have h0:=hrv 0 (by simp) (by simp);simp only[List.getElem_cons_zero] at h0;cases h0 with
  | d h0 =>
   obtain⟨A,cap,rfl,hcap,hmax,hA,hc⟩:=rvd_ints h0;cases A with
   | none =>
    have:l=[]:=by
     by_cases e:l=[]
     .exact e
     .obtain⟨a,ha⟩:=hA e;cases ha
    subst this;exact(YtainalmfffjnjaaGreatDoor.images.none _ cap w).mono fun e w' h=>by rw[imagesN_nil];exact h
   | some a =>
    by_cases e:l=[]
    .subst e;exact(YtainalmfffjnjaaGreatDoor.images.zero a cap w).mono fun e w' h=>by rw[imagesN_nil];exact h
    .have hp:0<l.length:=List.length_pos_iff.2 e
     have hc':=hc a rfl
     have hs:a.spot=none:=by
      cases hsp:a.spot with
      | none=>rfl
      | some q =>
       exfalso
       have:=hc' 0 hp
       simp only[World.cell?,Addr.add,hsp,Option.isSome_some,↓reduceIte] at this;split at this<;>simp at this
     obtain⟨b,off,sp⟩:=a;simp only at hs;subst hs;refine(YtainalmfffjnjaaGreatDoor.images.any b off l.length cap l w rfl (by omega) fun j hj=>?_).mono fun e w' h=>h
     have h1:=hc' j hj;unfold Addr.add at h1;split at h1
     .rename_i e;subst e;exact h1
     .exact h1
theorem upTo_facts(d:Array Int)(hs:∀i j,i<=j->j<d.size->d[i]!<=d[j]!):∀m,m<=d.size->(Lib.compactUpTo d m).Pairwise (· < ·)/\∀x,x∈Lib.compactUpTo d m↔∃j,j<m/\d[j]! =x
 | 0,_=>⟨List.Pairwise.nil,fun x=>⟨fun h=>by simp[Lib.compactUpTo] at h,fun ⟨j,hj,_⟩=>absurd hj (Nat.not_lt_zero _)⟩⟩
 | m+1,hm=>by
  obtain⟨h1,h2⟩:=upTo_facts d hs m (by omega);rw[Lib.compactUpTo_succ];by_cases hk:Lib.keeps d m=true
  .rw[if_pos hk];refine⟨List.pairwise_append.2 ⟨h1,List.pairwise_singleton _ _,fun x hx y hy=>?_⟩,fun x=>?_⟩
   .rw[List.mem_singleton] at hy;subst hy;obtain⟨j,hj,rfl⟩:=(h2 x).1 hx;simp only[Lib.keeps,decide_eq_true_eq] at hk;have a1:=hs j (m-1) (by omega) (by omega);have a2:=hs (m-1) m (by omega) (by omega);have a3:d[m]!≠d[m-1]!:=by rcases hk with hk|hk;omega;exact hk
    omega
   .rw[List.mem_append,List.mem_singleton,h2];constructor
    .rintro(⟨j,hj,e⟩|e)
     .exact⟨j,by omega,e⟩
     .exact⟨m,by omega,e.symm⟩
    .rintro⟨j,hj,e⟩;by_cases ej:j=m
     .subst ej;exact .inr e.symm
     .exact .inl ⟨j,by omega,e⟩
  .rw[if_neg hk,List.append_nil];refine⟨h1,fun x=>?_⟩;rw[h2];constructor
   .rintro⟨j,hj,e⟩;exact⟨j,by omega,e⟩
   .rintro⟨j,hj,e⟩;by_cases ej:j=m
    .subst ej;simp only[Lib.keeps,decide_eq_true_eq,not_or,Decidable.not_not] at hk;exact⟨j-1,by omega,by rw[<-hk.2];exact e⟩
    .exact⟨j,by omega,e⟩
def sortI(l:List Int):List Int:=l.mergeSort fun x y=>decide (x<=y)
theorem sortI_perm(l:List Int):(sortI l).Perm l:=List.mergeSort_perm l _
theorem sortI_sorted(l:List Int):(sortI l).Pairwise (· <= ·):=by
 have:=List.pairwise_mergeSort (le:=fun x y:Int=>decide (x<=y)) (fun a b c h1 h2=>by simp only[decide_eq_true_eq] at *;omega) (fun a b=>by simp only[Bool.or_eq_true,decide_eq_true_eq];omega) l
 exact this.imp fun h=>by simpa using h
theorem sortI_arr(l:List Int)(i j:Nat)(hij:i<=j)(hj:j<(sortI l).toArray.size):(sortI l).toArray[i]!<=(sortI l).toArray[j]!:=by
 simp only[List.size_toArray] at hj;rw[getElem!_pos _ i (by simp;omega),getElem!_pos _ j (by simpa using hj)];by_cases e:i=j
 .subst e;omega
 .exact List.pairwise_iff_getElem.1 (sortI_sorted l) i j (by omega) hj (by omega)
def imagesI(l:List Int):List Int:=Lib.compact (sortI l)
theorem imagesI_sorted(l:List Int):(imagesI l).Pairwise (· < ·):=(upTo_facts (sortI l).toArray (sortI_arr l) (sortI l).length (by simp)).1
theorem imagesN_len(l:List Int):imagesN l=(imagesI l).length:=rfl
theorem imagesN_iff(l:List Int):imagesN l=l.length↔l.Nodup:=by
 have hl:(sortI l).length=l.length:=(sortI_perm l).length_eq
 rw[imagesN_len,<-(sortI_perm l).nodup_iff,<-hl];constructor
 .intro h;have h2:∀j,j<(sortI l).length->Lib.keeps (sortI l).toArray j=true:=by
   unfold imagesI Lib.compact Lib.compactUpTo at h;rw[List.length_map] at h;have h3:(List.range (sortI l).length).filter (Lib.keeps (sortI l).toArray)=List.range (sortI l).length:=List.filter_sublist.eq_of_length (by rw[h,List.length_range])
   intro j hj;exact(List.filter_eq_self.1 h3) j (List.mem_range.2 hj)
  have h4:imagesI l=sortI l:=Lib.compact_all _ h2
  have h5:=imagesI_sorted l;rw[h4] at h5;exact h5.imp fun h=>by omega
 .intro h;have h4:imagesI l=sortI l:=Lib.compact_all _ fun j hj=>by
   by_cases e:j=0
   .simp[Lib.keeps,e]
   .apply Lib.keeps_pos;rw[getElem!_pos _ j (by simpa using hj),getElem!_pos _ (j-1) (by simp;omega)];intro e2;exact List.pairwise_iff_getElem.1 h (j-1) j (by omega) hj (by omega) e2.symm
  rw[h4]
theorem distK_nodup(l:List Int):distK l l.length=true↔l.Nodup:=by
 simp only[distK,List.all_eq_true,List.mem_range,decide_eq_true_eq];rw[List.Nodup,List.pairwise_iff_getElem];constructor
 .intro h i j hi hj hij e;apply h j hj i hij;rw[List.getD_eq_getElem?_getD,List.getD_eq_getElem?_getD,List.getElem?_eq_getElem hj,List.getElem?_eq_getElem hi];exact e.symm
 .intro h j hj k hkj e;rw[List.getD_eq_getElem?_getD,List.getD_eq_getElem?_getD,List.getElem?_eq_getElem hj,List.getElem?_eq_getElem (show k<l.length by omega)] at e;exact h k j (by omega) hj hkj e.symm
theorem images_dist(l:List Int):decide (imagesN l=l.length)=distK l l.length:=by
 rw[Bool.eq_iff_iff,decide_eq_true_eq,imagesN_iff,distK_nodup]
theorem images_beq(l:List Int):((imagesN l:Int)==(l.length:Int))=distK l l.length:=by
 rw[<-images_dist,beqD];simp;omega
theorem injective56_c(a b:Gr)(m:Mo)(ha:a.Fit)(hb:b.Fit)(hm:m.Fit):DC 125 [a.av,b.av,m.av] (B (injM a b m)):=by
 intro tok nt box nb;have i1:=images_beq m.nodes;have i2:=images_beq m.edges;refine sI func125 ntmps125 fun Hb Ht=>?_
 refine sR ?_;simp;refine sR ?_;simp;refine sD (valid51_c a b m ha hb _ _) ?_;simp;by_cases h1:validM a b m=0
 .simp[h1];refine sD (images88_c m.nodes hm.n _ _) ?_;simp[h1];simp only[i1];by_cases h2:distK m.nodes m.nodes.length=true
  .simp[h2];refine sD (images88_c m.edges hm.e _ _) ?_;simp[h1,h2,i2];refine sT (sH Hb Ht ?_);simp[injM,h1,h2]
  .have h3:distK m.nodes m.nodes.length=false:=by simpa using h2
   simp only[h3];simp;refine sT (sH Hb Ht ?_);simp[injM,h1,h3]
 .have hb1:(validM a b m==0)=false:=by simp[h1]
  simp only[hb1];try simp
  refine sT (sH Hb Ht ?_);simp[injM,h1]
def placesK(l h:List Int)(i:Nat):List Int:=(l.take i).map (indexI h)
@[simp] theorem placesK_len(l h:List Int)(i:Nat):(placesK l h i).length=min i l.length:=by simp[placesK]
def byK(l by':List Int)(i:Nat):List Int:=(l.take i).map fun x=>by'.getD x.toNat 0
@[simp] theorem byK_len(l h:List Int)(i:Nat):(byK l h i).length=min i l.length:=by simp[byK]
def thenM(m n:Mo):Mo:=⟨byK m.nodes n.nodes m.nodes.length,byK m.edges n.edges m.edges.length⟩
theorem firstE_all{f:Nat->Int}:∀n,firstE f n=0->∀i,i<n->f i=0
 | 0,_,i,hi=>absurd hi (Nat.not_lt_zero _)
 | n+1,h,i,hi=>by
  simp only[firstE] at h;split at h
  .rename_i h0;by_cases e:i=n
   .subst e;exact h
   .exact firstE_all n h0 i (by omega)
  .contradiction
structure VM (a b:Gr) (m:Mo):Prop where
 va:vG a=0
 vb:vG b=0
 ln:m.nodes.length=a.nodes.length
 le:m.edges.length=a.edges.length
 n:∀x∈m.nodes,0<=x/\x<b.nodes.length
 e:∀x∈m.edges,0<=x/\x<b.edges.length
 nt:∀i,i<a.nodes.length->b.nodes.getD (m.nodes.getD i 0).toNat 0=a.nodes.getD i 0
 et:∀i,i<a.edges.length->b.edges.getD (m.edges.getD i 0).toNat default=⟨(a.edges.getD i default).ty,m.nodes.getD (a.edges.getD i default).fr.toNat 0,m.nodes.getD (a.edges.getD i default).to.toNat 0⟩
theorem validM_VM{a b:Gr}{m:Mo}(h:validM a b m=0):VM a b m:=by
 unfold validM at h;split at h
 .omega
 .rename_i h1;split at h
  .omega
  .rename_i h2;split at h
   .cases h
   .rename_i h3;have hl1:m.nodes.length=a.nodes.length:=by omega
    have hl2:m.edges.length=a.edges.length:=by omega
    split at h
    .contradiction
    .rename_i h4;have h4':firstE (nodeE a b m) a.nodes.length=0:=Decidable.not_not.1 h4
     have n1:=firstE_all _ h4';have n2:=firstE_all _ h;refine⟨by omega,by omega,hl1,hl2,fun x hx=>?_,fun x hx=>?_,fun i hi=>?_,fun i hi=>?_⟩
     .obtain⟨i,hi,rfl⟩:=List.getElem_of_mem hx;have:=n1 i (by omega)
      have e:m.nodes.getD i 0=m.nodes[i]:=by simp[hi]
      unfold nodeE at this;rw[e] at this;split at this
      .cases this
      .omega
     .obtain⟨i,hi,rfl⟩:=List.getElem_of_mem hx;have:=n2 i (by omega)
      have e:m.edges.getD i 0=m.edges[i]:=by simp[hi]
      unfold edgeE at this;rw[e] at this;split at this
      .cases this
      .omega
     .have:=n1 i hi
      unfold nodeE at this;split at this
      .cases this
      .split at this
       .assumption
       .cases this
     .have:=n2 i hi
      unfold edgeE at this;split at this
      .cases this
      .simp only at this;split at this
       .cases this
       .rename_i t1;split at this
        .cases this
        .rename_i t2;have t1':=Decidable.not_not.1 t1
         simp only[ne_eq,not_or,Decidable.not_not] at t2;rw[t1',t2.1,t2.2]
theorem getD_inj{h:List Int}(hn:h.Nodup){i j:Nat}(hi:i<h.length)(hj:j<h.length)(e:h.getD i 0=h.getD j 0):i=j:=by
 rw[List.getD_eq_getElem?_getD,List.getD_eq_getElem?_getD,List.getElem?_eq_getElem hi,List.getElem?_eq_getElem hj] at e;rcases Nat.lt_trichotomy i j with h1|h1|h1
 .exact absurd e (List.pairwise_iff_getElem.1 hn i j hi hj h1)
 .exact h1
 .exact absurd e.symm (List.pairwise_iff_getElem.1 hn j i hj hi h1)
theorem injM_iff(a b:Gr)(m:Mo):injM a b m=true↔validM a b m=0/\m.nodes.Nodup/\m.edges.Nodup:=by
 simp only[injM,Bool.and_eq_true,decide_eq_true_eq,distK_nodup]
theorem validM_of{a b:Gr}{m:Mo}(h:VM a b m):validM a b m=0:=by
 have z1:firstE (nodeE a b m) a.nodes.length=0:=firstE_zero _ fun i hi=>by
  have:=h.n _ (getD_mem (d:=0) (show i<m.nodes.length by rw[h.ln];exact hi))
  unfold nodeE;rw[if_neg (by omega),if_pos (h.nt i hi)]
 have z2:firstE (edgeE a b m) a.edges.length=0:=firstE_zero _ fun i hi=>by
  have:=h.e _ (getD_mem (d:=0) (show i<m.edges.length by rw[h.le];exact hi))
  unfold edgeE;rw[if_neg (by omega)];simp only[h.et i hi,ne_eq,not_true_eq_false,or_self,↓reduceIte]
 unfold validM;rw[if_neg (by simp[h.va]),if_neg (by simp[h.vb]),if_neg (by have:=h.ln;have:=h.le;omega),if_neg (by simp[z1]),z2]
theorem mem_getD{l:List Int}{v:Int}(h:v∈l):∃j,j<l.length/\l.getD j 0=v:=by
 obtain⟨j,hj,e⟩:=List.getElem_of_mem h;exact⟨j,hj,by rw[List.getD_eq_getElem?_getD,List.getElem?_eq_getElem hj];exact e⟩
def chN(ns:List Int)(bit:Nat->Bool):Nat->List Int × List Int
 | 0=>([],[])
 | i+1=>if bit i=true then ((chN ns bit i).1++[ns.getD i 0],(chN ns bit i).2++[(i:Int)]) else chN ns bit i
def atK(ns:List Int)(bit:Nat->Bool):Nat->List Int
 | 0=>[]
 | i+1=>if bit i=true then atK ns bit i++[((chN ns bit i).1.length:Int)] else atK ns bit i++[-1]
def atR(ns:List Int)(bit:Nat->Bool)(i:Nat):List Int:=atK ns bit i++List.replicate (ns.length-i) 0
theorem atK_len(ns:List Int)(bit:Nat->Bool):∀i,(atK ns bit i).length=i
 | 0=>rfl
 | i+1=>by
  simp only[atK];split<;>simp[atK_len ns bit i]
@[simp] theorem atR_len(ns:List Int)(bit:Nat->Bool){i:Nat}(h:i<=ns.length):(atR ns bit i).length=ns.length:=by simp[atR,atK_len];omega
end Go.AM
namespace Go.Proofs.YtainalmfffjnjaaGreatDoor.values
open Go Go.Proofs Go.RowKit Go.Shelf
open Go.Proofs.Tryz
attribute [local go_sem] Oper.semAt_some
def upto{α:Type}(f:Nat->α)(k:Nat):List α:=(List.range k).map f
theorem upto_length{α:Type}(f:Nat->α)(k:Nat):(upto f k).length=k:=by simp[upto]
theorem upto_all(zs:List Int):upto (fun j=>zs[j]?.getD 0) zs.length=zs:=by
 apply List.ext_getElem
 .simp[upto]
 .intro i h1 h2;simp[upto,h2]
theorem info3:(prog.info? 3).map (fun i=>(i.zero,i.size,i.bytes))=some (some (.int .i64 0),1,8):=by kernel_rfl
end Go.Proofs.YtainalmfffjnjaaGreatDoor.values
namespace Go.Proofs.YtainalmfffjnjaaGreatDoor.values
open Go Go.Proofs Go.RowKit Go.Shelf Go.Sort
open Go.Proofs.Tryz
end Go.Proofs.YtainalmfffjnjaaGreatDoor.values
namespace Go.AM
open Go Go.Proofs Go.RowKit
open Go.Proofs.Tryz
theorem rvd_owns{G:Gh}{w w':World}{m:AMem}(hm:RelM G m w){v:Value}{xs:List Int}(h:w'.ownsRow w.heap.size 3 1 v xs.length (xs.map (Value.int .i64))):RVd w'.cell? G.ps (ints xs) v:=by
 rcases h.2 with ⟨rfl,h0⟩|⟨g,cap,cur,rfl,hb,hg,h1,h2,h3,h4⟩
 .obtain rfl:xs=[]:=List.length_eq_zero_iff.1 h0;exact .sl (es:=[]) (fun _ _=>default) (nr _) (by decide) (by simp) (by simp) (by simp) (by simp)
 .have hl:xs.length=(xs.map fun n=>[D.raw (.int .i64 n)]).length:=by simp
  have hat:∀i,i<xs.length->cur[i]?=some (.int .i64 (xs.getD i 0)):=fun i hi=>by
   have e:(cur.toList.take (xs.length*1))[i]?=(xs.map (Value.int .i64))[i]?:=by rw[h4]
   rw[List.getElem?_take,if_pos (by omega),Array.getElem?_toList,List.getElem?_map,List.getElem?_eq_getElem hi] at e;rw[e];simp[hi]
  unfold ints
  conv=>rhs;rw[hl]
  refine .sl (fun i _=>.int .i64 (xs.getD i 0)) (by simpa using h1) h2 (fun e he=>?_) (fun _=>⟨_,rfl⟩) (fun a ha i j hi hj=>?_) (fun i j hi hj=>?_)
  .obtain⟨y,_,rfl⟩:=List.mem_map.1 he;rfl
  .cases ha;have hi':i<xs.length:=by simpa using hi
   have hj0:j=0:=by omega
   subst hj0;refine⟨?_,?_⟩
   .unfold Gh.ps;have hbl:(Addr.add ⟨g,0,none⟩ (i*1+0)).block=g:=by unfold Addr.add;split<;>rfl
    rw[hbl,hm.fresh g hb];trivial
   .have ha:Addr.add ⟨g,0,none⟩ (i*1+0)=⟨g,i,none⟩:=by
     unfold Addr.add;split
     .rename_i h0;congr 1;omega
     .simp
    rw[ha];simp only[World.cell?,hg,Option.isSome_none,Bool.false_eq_true,if_false];exact hat i hi'
  .simp only[List.length_map] at hi;simp only[List.getElem_map,List.length_cons,List.length_nil] at hj ⊢;have hj0:j=0:=by omega
   subst hj0;have e:xs.getD i 0=xs[i]:=by simp[hi]
   simp only[List.getElem_cons_zero,e];exact .raw rfl
end Go.AM
namespace Go.Proofs.YtainalmfffjnjaaGreatDoor.sorted34
open Go Go.Proofs Go.RowKit Go.Shelf Go.Sort
open Go.Proofs.Tryz
end Go.Proofs.YtainalmfffjnjaaGreatDoor.sorted34
namespace Go.AM
open Go Go.Proofs Go.RowKit
open Go.Proofs.Tryz
abbrev Ub(n:Int):AV:=.d (.raw (.int .u8 n))
abbrev Sb(s:ByteArray):AV:=.d (.raw (.string s))
def letB(c:Int):Bool:=decide (97<=c/\c<=122∨65<=c/\c<=90)
def digB(c:Int):Bool:=decide (48<=c/\c<=57)
def parB(c:Int):Bool:=letB c||digB c||c==95
def byteAt(s:ByteArray)(i:Nat):Int:=(s.data.toList.getD i 0).toNat
theorem letter_c(c:Int):DC 243 [Ub c] (B (letB c)):=by
 intro tok nt box nb;by_cases h1:97<=c
 .by_cases h2:c<=122
  .refine sI func243 ntmps243 fun Hb Ht=>?_
   repeat first|simp[h1,h2]|refine sR ?_
   refine sT (sH Hb Ht ?_);simp[letB,h1,h2]
  .have h3:¬c<=90:=by omega
   have h4:65<=c:=by omega
   refine sI func243 ntmps243 fun Hb Ht=>?_
   repeat first|simp[h1,h2,h3,h4]|refine sR ?_
   refine sT (sH Hb Ht ?_);simp[letB,h1,h2,h3,h4]
 .by_cases h3:65<=c
  .by_cases h4:c<=90
   .refine sI func243 ntmps243 fun Hb Ht=>?_
    repeat first|simp[h1,h3,h4]|refine sR ?_
    refine sT (sH Hb Ht ?_);simp[letB,h1,h3,h4]
   .refine sI func243 ntmps243 fun Hb Ht=>?_
    repeat first|simp[h1,h3,h4]|refine sR ?_
    refine sT (sH Hb Ht ?_);simp[letB,h1,h3,h4]
  .refine sI func243 ntmps243 fun Hb Ht=>?_
   repeat first|simp[h1,h3]|refine sR ?_
   refine sT (sH Hb Ht ?_);simp[letB,h1,h3]
theorem digit_c(c:Int):DC 245 [Ub c] (B (digB c)):=by
 intro tok nt box nb;by_cases h1:48<=c
 .by_cases h2:c<=57
  .refine sI func245 ntmps245 fun Hb Ht=>?_
   repeat first|simp[h1,h2]|refine sR ?_
   refine sT (sH Hb Ht ?_);simp[digB,h1,h2]
  .refine sI func245 ntmps245 fun Hb Ht=>?_
   repeat first|simp[h1,h2]|refine sR ?_
   refine sT (sH Hb Ht ?_);simp[digB,h1,h2]
 .refine sI func245 ntmps245 fun Hb Ht=>?_
  repeat first|simp[h1]|refine sR ?_
  refine sT (sH Hb Ht ?_);simp[digB,h1]
theorem part_c1(c:Int):DC 244 [Ub c] (B (parB c)):=by
 intro tok nt box nb;have h1:=letter_c c;have h2:=digit_c c;cases e1:letB c
 .cases e2:digB c
  .rw[e1] at h1;rw[e2] at h2;refine sI func244 ntmps244 fun Hb Ht=>?_
   repeat first|simp|refine sR ?_
   refine sD (h1 _ _) ?_;repeat first|simp|refine sR ?_
   refine sD (h2 _ _) ?_;repeat first|simp|refine sR ?_
   refine sT (sH Hb Ht ?_);simp[parB,e1,e2]
  .rw[e1] at h1;rw[e2] at h2;refine sI func244 ntmps244 fun Hb Ht=>?_
   repeat first|simp|refine sR ?_
   refine sD (h1 _ _) ?_;repeat first|simp|refine sR ?_
   refine sD (h2 _ _) ?_;repeat first|simp|refine sR ?_
   refine sT (sH Hb Ht ?_);simp[parB,e1,e2]
 .rw[e1] at h1;refine sI func244 ntmps244 fun Hb Ht=>?_
  repeat first|simp|refine sR ?_
  refine sD (h1 _ _) ?_;repeat first|simp|refine sR ?_
  refine sT (sH Hb Ht ?_);simp[parB,e1]
def runN(p:Int->Bool)(s:ByteArray)(at':Nat):Nat:=((s.data.toList.drop at').takeWhile fun b=>p (b.toNat:Int)).length
theorem takeW_len{α:Type}(q:α->Bool)(d:α):∀(l:List α) (i:Nat),i<=l.length->(∀j,j<i->q (l.getD j d)=true)->(i=l.length∨q (l.getD i d)=false)->(l.takeWhile q).length=i
 | [],i,hi,_,_=>by simp at hi;subst hi;rfl
 | x::l,0,_,_,h=>by
  have h2:q x=false:=by simpa using h
  simp[List.takeWhile_cons,h2]
 | x::l,i+1,hi,h1,h2=>by
  have hx:q x=true:=by simpa using h1 0 (by omega)
  have ih:=takeW_len q d l i (by simpa using hi) (fun j hj=>by simpa using h1 (j+1) (by omega)) (by simpa using h2);simp[List.takeWhile_cons,hx,ih]
theorem size_toList(s:ByteArray):s.data.toList.length=s.size:=by rw[Array.length_toList];rfl
theorem byteAt_lt{s:ByteArray}{i:Nat}(h:i<s.size):(s.data[i].toNat:Int)=byteAt s i:=by
 have h2:i<s.data.toList.length:=by rw[size_toList];exact h
 rw[byteAt,List.getD_eq_getElem?_getD,List.getElem?_eq_getElem h2,Option.getD_some,Array.getElem_toList]
theorem runN_eq{p:Int->Bool}{s:ByteArray}{a i:Nat}(hi:a+i<=s.size)(h1:∀j,j<i->p (byteAt s (a+j))=true)(h2:a+i=s.size∨p (byteAt s (a+i))=false):runN p s a=i:=by
 have hl:=size_toList s;have g:∀j,(s.data.toList.drop a).getD j 0=s.data.toList.getD (a+j) 0:=fun j=>by simp[List.getD_eq_getElem?_getD,List.getElem?_drop]
 refine takeW_len _ 0 _ i (by rw[List.length_drop];omega) (fun j hj=>?_) ?_
 .rw[g];exact h1 j hj
 .rcases h2 with h2|h2
  .left;rw[List.length_drop];omega
  .right;rw[g];exact h2
def stRu(s:ByteArray)(f:FuncId)(nb:Nat)(box:Bxs)(tok:Tks)(nt:Nat)(i:Nat):AS:=⟨tl [(0,Sb s),(1,.fn (.func f) []),(5,I i)],lb nb box [],tok,nt⟩
theorem run_c(s:ByteArray)(f:FuncId)(p:Int->Bool)(hs:s.size<=200000000000000)(tok:Tks)(nt:Nat)(hf:∀c,DCall prog f [Ub c] tok nt (B (p c)) tok nt):DCall prog 182 [Sb s,.fn (.func f) []] tok nt (I (runN p s 0)) tok nt:=by
 intro box nb;refine sI func182 ntmps182 fun Hb Ht=>?_
 repeat first|simp|refine sR ?_
 refine sN ?_;have hc:∀c∈([]:List AV),OkIn (fun k=>box k≠none) (fun _=>True) c:=by simp
 refine sL (stRu s f nb box tok nt) (fun i=>i<=s.size/\∀j,j<i->p (byteAt s j)=true) (fun i=>s.size-i) 0 ⟨Nat.zero_le _,by omega⟩ (wM (nr _) rfl (by simp[ToL,lk];exact .same (okFn hc Hb [] (by simp) rfl _)) trivial) ?_;rintro i S' ⟨hi,hok⟩ hS;simp only[stRu] at hS;subst hS;have hw:=sW (i:=i) (by omega);by_cases hlt:i<s.size
 .have hbb:=byteAt_lt hlt;have hr:=runN_eq (p:=p) (s:=s) (a:=0) (i:=i) (by omega) (fun j hj=>by rw[Nat.zero_add];exact hok j hj);rw[Nat.zero_add,<-hbb] at hr;have hok2:p (s.data[i].toNat)=true->∀j,j<i+1->p (byteAt s j)=true:=fun h j hj=>by
   by_cases e:j=i
   .rw[e,<-hbb];exact h
   .exact hok j (by omega)
  repeat first|simp[hlt]|refine sR ?_
  refine sD (hf _) ?_;repeat first|simp|refine sR ?_
  generalize (s.data[i].toNat:Int)=c at *;cases e:p c
  .have hr:=hr (.inr e);refine sC ?_;simp;refine sX ?_;simp only[AU,↓reduceIte];repeat first|simp|refine sR ?_
   refine sT (sH Hb Ht ?_);simp[hr]
  .refine sC ?_;simp;repeat first|simp[hw]|refine sR ?_
   refine sE ?_;exact⟨i+1,⟨hlt,hok2 e⟩,by omega,wM (nr _) rfl (by simp[ToL,lk];exact .same (okFn hc Hb [] (by simp) rfl _)) trivial⟩
 .have hie:i=s.size:=by omega
  have hr:=runN_eq (p:=p) (s:=s) (a:=0) (i:=i) (by omega) (fun j hj=>by rw[Nat.zero_add];exact hok j hj) (.inl (by omega));repeat first|simp[hlt]|refine sR ?_|refine sC ?_
  refine sX ?_;simp only[AU,↓reduceIte];repeat first|simp|refine sR ?_
  refine sT (sH Hb Ht ?_);simp[hr]
end Go.AM
namespace Go.Proofs
open Go.Shelf
open Go.Proofs.Tryz
def Tryz.lays137_ren:Go.Shelf.Ren:=⟨fun|137=>248|217=>290|266=>310|n=>n,fun|9=>9|5=>5|3=>3|n=>n,fun|n=>n⟩
theorem Tryz.lays137:Go.Proofs.Lays.n137 prog Tryz.lays137_ren:={
 mixed:=by kernel_rfl
 f137:=func248.trans (congrArg some (by kernel_rfl))
 f217:=func290.trans (congrArg some (by kernel_rfl))
 f266:=func310.trans (congrArg some (by kernel_rfl))
 t3:=underlying3
 a3:=isAgg3
 z3:=sizeOf3
 v3:=zeroValue3
 t5:=underlying5
 a5:=isAgg5
 z5:=sizeOf5
 v5:=zeroValue5
 t9:=underlying9
 a9:=isAgg9
 z9:=sizeOf9
 v9:=zeroValue9 }
open Go.RowKit in
theorem Tryz.strings_IndexByte(s:ByteArray)(c:Int)(w:World):
  Calls prog 248 #[.string s,.int .u8 c] w fun e w'=>e=.returned (.int .i64 (Lib.indexByte s.data.toList c.toNat.toUInt8))/\w'=w:=Any.strings_IndexByte Tryz.lays137 s c w
def Tryz.lays112_ren:Go.Shelf.Ren:=⟨fun|112=>277|n=>n,fun|28=>26|3=>3|4=>4|0=>0|n=>n,fun|n=>n⟩
theorem Tryz.lays112:Go.Proofs.Lays.n112 prog Tryz.lays112_ren:={
 mixed:=by kernel_rfl
 f112:=func277.trans (congrArg some (by kernel_rfl))
 t0:=underlying0
 a0:=isAgg0
 z0:=sizeOf0
 v0:=zeroValue0
 t3:=underlying3
 a3:=isAgg3
 z3:=sizeOf3
 v3:=zeroValue3
 t4:=underlying4
 a4:=isAgg4
 z4:=sizeOf4
 v4:=zeroValue4
 t28:=underlying26
 a28:=isAgg26
 z28:=sizeOf26
 v28:=zeroValue26 }
open Go.RowKit Go.Lib Go.Sort in
theorem Tryz.slices_Reverse_int(blk off cap:Nat)(zs:List Int)(w:World)(hH:Holds (Value.int .i64) w blk off zs.toArray)(hsz:zs.length<=9223372036854775807):
  Calls prog 277 #[.slice (some ⟨blk,off,none⟩) zs.length cap] w fun e w'=>e=.returned (.tuple #[])/\∃n,w'=putRow (Value.int .i64) (Sort.ahead w n) blk off zs.reverse.toArray:=Any.slices_Reverse_int Tryz.lays112 blk off cap zs w hH hsz
open Go.RowKit Go.Lib Go.Sort in
theorem Tryz.slices_Reverse_int_empty(a:Option Addr)(cap:Nat)(w:World):
  Calls prog 277 #[.slice a 0 cap] w fun e w'=>e=.returned (.tuple #[])/\w'=w:=Any.slices_Reverse_int_empty Tryz.lays112 a cap w
end Go.Proofs
namespace Go.AM
open Go Go.Proofs Go.Shelf
open Go.Proofs.Tryz
theorem seq_iff{a b:ByteArray}:a.toList=b.toList↔a=b:=⟨fun h=>by rw[ByteArray.toList_eq,ByteArray.toList_eq] at h;exact Go.WideShapes.bytes_inj h,fun h=>by rw[h]⟩
theorem seq_dec(a b:ByteArray):(a.toList==b.toList)=decide (a=b):=by rw[Bool.eq_iff_iff,beq_iff_eq,decide_eq_true_eq,seq_iff]
abbrev strs(l:List ByteArray):D:=.sl 1 (l.map fun s=>[.raw (.string s)])
def memS(xs:List ByteArray)(v:ByteArray):Bool:=xs.any fun x=>decide (v=x)
theorem memS_iff{xs:List ByteArray}{v:ByteArray}:memS xs v=true↔v∈xs:=by simp[memS]
def indexB(xs:List ByteArray)(v:ByteArray):Int:=if memS xs v=true then (xs.findIdx (fun x=>decide (v=x)):Int) else -1
theorem indexB_nonneg(xs:List ByteArray)(v:ByteArray):(0<=indexB xs v)↔memS xs v=true:=by
 unfold indexB;split<;>simp[*]
def stIs(xs:List ByteArray)(v:ByteArray)(nb:Nat)(box:Bxs)(tok:Tks)(nt:Nat)(i:Nat):AS:=⟨tl [(0,.d (strs xs)),(1,Sb v),(7,I xs.length),(8,I i)],lb nb box [],tok,nt⟩
theorem strs_at{l:List ByteArray}{i:Nat}(h:i<l.length):(l.map fun s=>[D.raw (.string s)])[i]?=some [D.raw (.string l[i])]:=by simp[h]
theorem indexS_c(xs:List ByteArray)(v:ByteArray)(hx:xs.length<=1000000):DC 230 [.d (strs xs),Sb v] (I (indexB xs v)):=by
 intro tok nt box nb;refine sI func230 ntmps230 fun Hb Ht=>?_
 repeat first|simp|refine sR ?_
 refine sN ?_;refine sL (stIs xs v nb box tok nt) (fun i=>i<=xs.length/\v∉xs.take i) (fun i=>xs.length-i) 0 ⟨Nat.zero_le _,by simp⟩ (wM (nr _) rfl (by simp[ToL,lk]) trivial) ?_;rintro i S' ⟨hi,htk⟩ hS;simp only[stIs] at hS;subst hS;have hw:=sW (i:=i) (by omega);repeat first|simp|refine sR ?_|refine sC ?_
 refine⟨fun hlt=>?_,fun hge=>?_⟩
 .have hsp:xs=xs.take i++xs[i]::xs.drop (i+1):=by simp
  by_cases he:v=xs[i]
  .have b:(v.toList==xs[i].toList)=true:=by rw[seq_dec];simpa using he
   have hmem:memS xs v=true:=memS_iff.2 (by rw[he];exact List.getElem_mem _)
   have hid:xs.findIdx (fun x=>decide (v=x))=i:=by
    rw[List.findIdx_eq hlt];refine⟨by simpa using he,fun j hj=>?_⟩;have:¬v=xs[j]:=fun e=>htk (by rw[e,List.mem_take_iff_getElem];exact⟨j,by omega,rfl⟩)
    simpa using this
   repeat first|simp[hlt,b]|refine sR ?_
   refine sC ?_;repeat first|simp|refine sR ?_
   refine sT (sH Hb Ht ?_);simp[indexB,hmem,hid]
  .have b:(v.toList==xs[i].toList)=false:=by rw[seq_dec];simpa using he
   repeat first|simp[hlt,b]|refine sR ?_
   refine sC ?_;simp;repeat first|simp[hw]|refine sR ?_
   refine sE ?_;refine⟨i+1,⟨hlt,?_⟩,by omega,wM (nr _) rfl (by simp[ToL,lk]) trivial⟩;rw[List.take_succ_eq_append_getElem hlt];simp only[List.mem_append,List.mem_singleton,not_or];exact⟨htk,he⟩
 .refine sX ?_;simp only[AU,↓reduceIte];repeat first|simp|refine sR ?_
  have hn:memS xs v=false:=by
   rw[List.take_of_length_le hge] at htk;rw[<-Bool.not_eq_true,memS_iff];exact htk
  refine sT (sH Hb Ht ?_);simp[indexB,hn]
theorem containsS_c(xs:List ByteArray)(v:ByteArray)(hx:xs.length<=1000000):DC 155 [.d (strs xs),Sb v] (B (memS xs v)):=by
 intro tok nt box nb;refine sI func155 ntmps155 fun Hb Ht=>?_
 repeat first|simp|refine sR ?_
 refine sD (indexS_c xs v hx _ _) ?_;repeat first|simp|refine sR ?_
 refine sT (sH Hb Ht ?_);simp[indexB_nonneg]
theorem indexByte_c(s:ByteArray)(c:Int):DC 248 [Sb s,Ub c] (I (Lib.indexByte s.data.toList c.toNat.toUInt8)):=by
 intro tok nt box nb;refine⟨Enters.mk func248 rfl (by kernel_rfl),fun G w vals hm hr=>?_⟩;obtain⟨hlen,hrv⟩:=hr
 match vals,hlen with
 | [v,u],_ =>
  have h0:=hrv 0 (by simp) (by simp);have h1:=hrv 1 (by simp) (by simp);simp only[List.getElem_cons_zero,List.getElem_cons_succ] at h0 h1;cases h0 with
  | d h0 =>
  cases h0 with
  | raw h0 =>
  cases h1 with
  | d h1 =>
  cases h1 with
  | raw h1 =>
   refine(Tryz.strings_IndexByte s c w).mono ?_;rintro e w' ⟨rfl,rfl⟩;exact⟨_,_,_,G,rfl,⟨rfl,rfl⟩,rfl,hm,.d (.raw rfl),Le.refl _ _,fun k hk=>⟨hk,rfl⟩⟩
def quoB(c:Int):Bool:=decide (32<=c/\c<=126)&&c != 34
theorem quoted1_c(c:Int):DC 289 [Ub c] (B (quoB c)):=by
 intro tok nt box nb;by_cases h1:32<=c
 .by_cases h2:c<=126
  .refine sI func289 ntmps289 fun Hb Ht=>?_
   repeat first|simp[h1,h2]|refine sR ?_
   refine sT (sH Hb Ht ?_);simp[quoB,h1,h2]
  .refine sI func289 ntmps289 fun Hb Ht=>?_
   repeat first|simp[h1,h2]|refine sR ?_
   refine sT (sH Hb Ht ?_);simp[quoB,h1,h2]
 .refine sI func289 ntmps289 fun Hb Ht=>?_
  repeat first|simp[h1]|refine sR ?_
  refine sT (sH Hb Ht ?_);simp[quoB,h1]
theorem runN_le(p:Int->Bool)(s:ByteArray)(a:Nat):runN p s a<=s.size-a:=by
 have h:=(List.takeWhile_sublist (l:=s.data.toList.drop a) fun b=>p (b.toNat:Int)).length_le;rw[List.length_drop,size_toList] at h;exact h
theorem ext1_size{s:ByteArray}:(s.extract 1 s.size).size=s.size-1:=by simp[ByteArray.size_extract]
def quoR(s:ByteArray):Int × Int :=
 if 1+runN quoB (s.extract 1 s.size) 0=s.size then (0,2) else if byteAt s (1+runN quoB (s.extract 1 s.size) 0)≠34 then (0,2)
 else if 60<runN quoB (s.extract 1 s.size) 0 then (0,3) else ((runN quoB (s.extract 1 s.size) 0:Int)+2,0)
theorem quoted_c(s:ByteArray)(h1:1<=s.size)(hs:s.size<=200000000000000):DC 246 [Sb s] (.tup [I (quoR s).1,I (quoR s).2]):=by
 intro tok nt box nb;have hr:=run_c (s.extract 1 s.size) 289 quoB (by rw[ext1_size];omega) tok nt fun c=>quoted1_c c tok nt
 have hle:=runN_le quoB (s.extract 1 s.size) 0;rw[ext1_size] at hle;have hq:quoR s=if 1+runN quoB (s.extract 1 s.size) 0=s.size then (0,2) else if byteAt s (1+runN quoB (s.extract 1 s.size) 0)≠34 then (0,2) else if 60<runN quoB (s.extract 1 s.size) 0 then (0,3) else ((runN quoB (s.extract 1 s.size) 0:Int)+2,0):=rfl
 generalize runN quoB (s.extract 1 s.size) 0=n at *;have h1':(1:Int)<=s.size:=by omega
 have w1:IntKind.i64.wrap (1+(n:Int))=((1+n:Nat):Int):=by rw[wrap_in (by omega) (by omega)];omega
 have w2:IntKind.i64.wrap ((n:Int)+2)=(n:Int)+2:=wrap_in (by omega) (by omega)
 refine sI func246 ntmps246 fun Hb Ht=>?_
 repeat first|simp[h1,h1']|refine sR ?_
 refine sD (hr) ?_;simp;by_cases e1:1+n=s.size
 .have b1:((1:Int)+n==s.size)=true:=by rw[beq_iff_eq];omega
  rw[if_pos e1] at hq;rw[hq];repeat first|simp[w1,b1]|refine sR ?_
  refine sC ?_;repeat first|simp|refine sR ?_
  refine sT (sH Hb Ht ?_);simp
 .have b1:((1:Int)+n==s.size)=false:=by rw[beq_eq_false_iff_ne];omega
  have hlt:1+n<s.size:=by omega
  have hb:=byteAt_lt hlt;have l1:(0:Int)<=1+n:=by omega
  have l2:(1:Int)+n<s.size:=by omega
  have t1:((1:Int)+n).toNat=1+n:=by omega
  rw[if_neg e1] at hq;repeat first|simp[w1,b1,l1,l2,t1,hlt]|refine sR ?_
  rw[hb];by_cases e2:byteAt s (1+n)=34
  .have b2:(byteAt s (1+n) != 34)=false:=by simp[e2]
   rw[if_neg (by simp[e2])] at hq;simp only[b2];refine sC ?_;simp;repeat first|simp[w2]|refine sR ?_
   by_cases e3:60<n
   .have e4:(60:Int)<n:=by omega
    rw[if_pos e3] at hq;rw[hq];refine sC ?_;simp[e4];repeat first|simp|refine sR ?_
    refine sT (sH Hb Ht ?_);simp
   .have e4:¬(60:Int)<n:=by omega
    rw[if_neg e3] at hq;rw[hq];refine sC ?_;simp[e4];repeat first|simp[w2]|refine sR ?_
    refine sT (sH Hb Ht ?_);simp
  .have b2:(byteAt s (1+n) != 34)=true:=by simp[e2]
   rw[if_pos e2] at hq;rw[hq];simp only[b2];refine sC ?_;repeat first|simp|refine sR ?_
   refine sT (sH Hb Ht ?_);simp
def pairL:List ByteArray:=[⟨#[45,62]⟩,⟨#[60,61]⟩,⟨#[62,61]⟩,⟨#[61,61]⟩,⟨#[33,61]⟩]
def pairB(s:ByteArray):Bool:=decide (2<=s.size)&&memS pairL (s.extract 0 2)
theorem pair_c(s:ByteArray)(hs:s.size<=200000000000000):DC 247 [Sb s] (B (pairB s)):=by
 intro tok nt box nb;by_cases h2:2<=s.size
 .have h2':(2:Int)<=s.size:=by omega
  refine sI func247 ntmps247 fun Hb Ht=>?_
  have hc:=containsS_c pairL (s.extract 0 2) (by decide);repeat first|simp[h2,h2']|refine sR ?_
  refine⟨rfl,?_⟩;refine Stop.data ?_;refine sD (hc _ _) ?_;repeat first|simp|refine sR ?_
  refine sT (sH Hb Ht ?_);simp[pairB,h2]
 .have h2':¬(2:Int)<=s.size:=by omega
  refine sI func247 ntmps247 fun Hb Ht=>?_
  repeat first|simp[h2,h2']|refine sR ?_
  refine sT (sH Hb Ht ?_);simp[pairB,h2]
def nextR(s:ByteArray):Int × Int × Int :=
 if letB (byteAt s 0)=true then (if 20<runN parB s 0 then (0,0,3) else (1,runN parB s 0,0))
 else if digB (byteAt s 0)=true then (if 9<runN digB s 0 then (0,0,3) else (2,runN digB s 0,0))
 else if byteAt s 0=34 then (3,(quoR s).1,(quoR s).2) else if pairB s=true then (4,2,0)
 else if 0<=Lib.indexByte [123,125,40,41,91,93,44,59,58,61,43,45,42,60,62,33,38,124,46,63] (UInt8.ofNat (byteAt s 0).toNat) then (4,1,0) else (0,0,2)
theorem next_c(s:ByteArray)(h1:1<=s.size)(hs:s.size<=200000000000000):DC 184 [Sb s] (.tup [I (nextR s).1,I (nextR s).2.1,I (nextR s).2.2]):=by
 intro tok nt box nb;have hl:=letter_c (byteAt s 0);have hd:=digit_c (byteAt s 0);have r1:=run_c s 244 parB hs tok nt fun c=>part_c1 c tok nt
 have r2:=run_c s 245 digB hs tok nt fun c=>digit_c c tok nt
 have hq:=quoted_c s h1 hs;have hp:=pair_c s hs;have hx:=fun q=>indexByte_c q (byteAt s 0)
 have h0:0<s.size:=h1
 have h0':(0:Int)<s.size:=by omega
 have hb:=byteAt_lt h0;obtain⟨N,hN⟩:∃N,nextR s=N:=⟨_,rfl⟩
 rw[hN];unfold nextR at hN;have n1:runN parB s 0<=s.size:=runN_le _ _ _
 have n2:runN digB s 0<=s.size:=runN_le _ _ _
 generalize runN parB s 0=a1 at *;generalize runN digB s 0=a2 at *;refine sI func184 ntmps184 fun Hb Ht=>?_
 repeat first|simp[h0,h0']|refine sR ?_
 rw[hb];refine sD (hl _ _) ?_;repeat first|simp|refine sR ?_
 cases e1:letB (byteAt s 0)
 .rw[if_neg (by simp[e1])] at hN;refine sC ?_;repeat first|simp|refine sR ?_
  refine sD (hd _ _) ?_;repeat first|simp|refine sR ?_
  cases e2:digB (byteAt s 0)
  .rw[if_neg (by simp[e2])] at hN;refine sC ?_;repeat first|simp|refine sR ?_
   by_cases e3:byteAt s 0=34
   .rw[if_pos e3] at hN;have b3:(byteAt s 0==34)=true:=by simp[e3]
    simp only[b3];refine sC ?_;repeat first|simp|refine sR ?_
    refine sD (hq _ _) ?_;repeat first|simp|refine sR ?_
    refine sT (sH Hb Ht ?_);simp[<-hN]
   .rw[if_neg e3] at hN;have b3:(byteAt s 0==34)=false:=by simp[e3]
    simp only[b3];refine sC ?_;repeat first|simp|refine sR ?_
    refine sD (hp _ _) ?_;repeat first|simp|refine sR ?_
    cases e4:pairB s
    .rw[if_neg (by simp[e4])] at hN;refine sC ?_;repeat first|simp|refine sR ?_
     refine sD (hx _ _ _) ?_;repeat first|simp|refine sR ?_
     by_cases e5:0<=Lib.indexByte [123,125,40,41,91,93,44,59,58,61,43,45,42,60,62,33,38,124,46,63] (UInt8.ofNat (byteAt s 0).toNat)
     .rw[if_pos e5] at hN;refine sC ?_;simp[e5];repeat first|simp|refine sR ?_
      refine sT (sH Hb Ht ?_);simp[<-hN]
     .rw[if_neg e5] at hN;refine sC ?_;simp[e5];repeat first|simp|refine sR ?_
      refine sT (sH Hb Ht ?_);simp[<-hN]
    .rw[if_pos e4] at hN;refine sC ?_;repeat first|simp|refine sR ?_
     refine sT (sH Hb Ht ?_);simp[<-hN]
  .rw[if_pos e2] at hN;refine sC ?_;repeat first|simp|refine sR ?_
   refine sD (r2) ?_;repeat first|simp|refine sR ?_
   by_cases e3:9<a2
   .have e4:(9:Int)<a2:=by omega
    rw[if_pos e3] at hN;refine sC ?_;simp[e4];repeat first|simp|refine sR ?_
    refine sT (sH Hb Ht ?_);simp[<-hN]
   .have e4:¬(9:Int)<a2:=by omega
    rw[if_neg e3] at hN;refine sC ?_;simp[e4];repeat first|simp|refine sR ?_
    refine sT (sH Hb Ht ?_);simp[<-hN]
 .rw[if_pos e1] at hN;refine sC ?_;repeat first|simp|refine sR ?_
  refine sD (r1) ?_;repeat first|simp|refine sR ?_
  by_cases e3:20<a1
  .have e4:(20:Int)<a1:=by omega
   rw[if_pos e3] at hN;refine sC ?_;simp[e4];repeat first|simp|refine sR ?_
   refine sT (sH Hb Ht ?_);simp[<-hN]
  .have e4:¬(20:Int)<a1:=by omega
   rw[if_neg e3] at hN;refine sC ?_;simp[e4];repeat first|simp|refine sR ?_
   refine sT (sH Hb Ht ?_);simp[<-hN]
def nameB(s:ByteArray):Bool:=decide (1<=s.size/\s.size<=20)&&letB (byteAt s 0)&&decide (runN parB s 0=s.size)
theorem nameB_next{s:ByteArray}(h1:1<=s.size):((decide ((nextR s).2.2=0)&&decide ((nextR s).1=1))&&decide ((nextR s).2.1=(s.size:Int)))=nameB s:=by
 unfold nameB nextR;by_cases e1:letB (byteAt s 0)=true
 .rw[if_pos e1];by_cases e2:20<runN parB s 0
  .rw[if_pos e2];have:¬((1<=s.size/\s.size<=20)/\runN parB s 0=s.size):=by omega
   rw[Bool.eq_iff_iff];simp[e1];omega
  .rw[if_neg e2];rw[Bool.eq_iff_iff];simp[e1];omega
 .rw[if_neg e1];have e1':letB (byteAt s 0)=false:=by simpa using e1
  rw[e1'];simp only[Bool.and_false,Bool.false_and];split
  .split<;>simp
  .split
   .simp
   .split
    .simp
    .split<;>simp
theorem empty_dec{s:ByteArray}:(s.toList==(⟨#[]⟩:ByteArray).toList)=decide (s.size=0):=by
 rw[seq_dec,Bool.eq_iff_iff,decide_eq_true_eq,decide_eq_true_eq];constructor
 .rintro rfl;rfl
 .intro h;obtain⟨⟨l⟩⟩:=s;cases l with
  | nil=>rfl
  | cons x r=>simp[ByteArray.size] at h
theorem wholeN_c(s:ByteArray)(hs:s.size<=200000000000000):DC 200 [.agg [I 1,Sb s,I 0]] (.tup [Sb s,B (nameB s)]):=by
 intro tok nt box nb;by_cases h0:s.size=0
 .have b0:(s.toList==(⟨#[]⟩:ByteArray).toList)=true:=by rw[empty_dec];simp[h0]
  have hse:s=⟨#[]⟩:=by rw[seq_dec] at b0;simpa using b0
  have hn:nameB s=false:=by simp[nameB,h0]
  rw[hn];refine sI func200 ntmps200 fun Hb Ht=>?_
  repeat (first|simp|refine sR ?_)
  refine sC ?_
  repeat (first|simp|refine sR ?_)
  have b1:s.toList=[]:=by simpa using b0
  repeat first|simp[b1]|refine sR ?_|refine sC ?_
  refine sT (sH Hb Ht ?_);simp[hse]
 .have b0:(s.toList==(⟨#[]⟩:ByteArray).toList)=false:=by rw[empty_dec];simp[h0]
  have hx:=next_c s (by omega) hs;have hnb:=nameB_next (s:=s) (by omega);generalize nextR s=N at *;refine sI func200 ntmps200 fun Hb Ht=>?_
  repeat (first|simp|refine sR ?_)
  refine sC ?_
  repeat (first|simp|refine sR ?_)
  have b1:¬s.toList=[]:=by simpa using b0
  repeat first|simp[b1]|refine sR ?_|refine sC ?_
  refine sD (hx _ _) ?_;simp;by_cases f1:N.2.2=0
  .have g1:(N.2.2==0)=true:=by simp[f1]
   by_cases f2:N.1=1
   .have g2:(N.1==1)=true:=by simp[f2]
    repeat first|simp[g1,g2]|refine sR ?_
    by_cases f3:N.2.1=(s.size:Int)
    .have g3:(N.2.1==(s.size:Int))=true:=by simp[f3]
     rw[<-hnb];refine sT (sH Hb Ht ?_);simp[f1,f2,f3,g3]
    .have g3:(N.2.1==(s.size:Int))=false:=by simp[f3]
     rw[<-hnb];refine sT (sH Hb Ht ?_);simp[f1,f2,f3,g3]
   .have g2:(N.1==1)=false:=by simp[f2]
    rw[<-hnb];repeat first|simp[g1,g2]|refine sR ?_
    refine sT (sH Hb Ht ?_);simp[f1,f2]
  .have g1:(N.2.2==0)=false:=by simp[f1]
   rw[<-hnb];repeat first|simp[g1]|refine sR ?_
   refine sT (sH Hb Ht ?_);simp[f1]
theorem isName_c(s:ByteArray)(hs:s.size<=200000000000000):DC 121 [Sb s] (B (nameB s)):=by
 intro tok nt box nb;have h:=wholeN_c s hs;refine sI func121 ntmps121 fun Hb Ht=>?_
 repeat first|simp|refine sR ?_
 refine sD (h _ _) ?_;repeat first|simp|refine sR ?_
 refine sT (sH Hb Ht ?_);simp
theorem letter01_c(c:Int):DC 250 [Ub c] (B (letB c)):=by
 intro tok nt box nb;by_cases h1:97<=c
 .by_cases h2:c<=122
  .refine sI func250 ntmps250 fun Hb Ht=>?_
   repeat first|simp[h1,h2]|refine sR ?_
   refine sT (sH Hb Ht ?_);simp[letB,h1,h2]
  .have h3:¬c<=90:=by omega
   have h4:65<=c:=by omega
   refine sI func250 ntmps250 fun Hb Ht=>?_
   repeat first|simp[h1,h2,h3,h4]|refine sR ?_
   refine sT (sH Hb Ht ?_);simp[letB,h1,h2,h3,h4]
 .by_cases h3:65<=c
  .by_cases h4:c<=90
   .refine sI func250 ntmps250 fun Hb Ht=>?_
    repeat first|simp[h1,h3,h4]|refine sR ?_
    refine sT (sH Hb Ht ?_);simp[letB,h1,h3,h4]
   .refine sI func250 ntmps250 fun Hb Ht=>?_
    repeat first|simp[h1,h3,h4]|refine sR ?_
    refine sT (sH Hb Ht ?_);simp[letB,h1,h3,h4]
  .refine sI func250 ntmps250 fun Hb Ht=>?_
   repeat first|simp[h1,h3]|refine sR ?_
   refine sT (sH Hb Ht ?_);simp[letB,h1,h3]
theorem digit01_c(c:Int):DC 251 [Ub c] (B (digB c)):=by
 intro tok nt box nb;by_cases h1:48<=c
 .by_cases h2:c<=57
  .refine sI func251 ntmps251 fun Hb Ht=>?_
   repeat first|simp[h1,h2]|refine sR ?_
   refine sT (sH Hb Ht ?_);simp[digB,h1,h2]
  .refine sI func251 ntmps251 fun Hb Ht=>?_
   repeat first|simp[h1,h2]|refine sR ?_
   refine sT (sH Hb Ht ?_);simp[digB,h1,h2]
 .refine sI func251 ntmps251 fun Hb Ht=>?_
  repeat first|simp[h1]|refine sR ?_
  refine sT (sH Hb Ht ?_);simp[digB,h1]
def stR01(s:ByteArray)(d:Bool)(nb:Nat)(box:Bxs)(tok:Tks)(nt:Nat)(i:Nat):AS:=⟨tl [(0,Sb s),(1,I 0),(2,B d),(7,I i)],lb nb box [],tok,nt⟩
def pd(d:Bool)(c:Int):Bool:=digB c||(!d&&(letB c||c==95))
theorem pd_false:pd false=parB:=by
 funext c
 simp only[pd,parB,Bool.not_false,Bool.true_and];cases letB c<;>cases digB c<;>simp
theorem pd_true:pd true=digB:=by funext c;simp[pd]
set_option maxRecDepth 100000 in
theorem run01_c(s:ByteArray)(d:Bool)(hs:s.size<=200000000000000):DC 252 [Sb s,I 0,B d] (I (runN (pd d) s 0)):=by
 intro tok nt box nb;have hl:=letter01_c;have hd:=digit01_c;refine sI func252 ntmps252 fun Hb Ht=>?_
 repeat first|simp|refine sR ?_
 refine sN ?_;refine sL (stR01 s d nb box tok nt) (fun i=>i<=s.size/\∀j,j<i->pd d (byteAt s j)=true) (fun i=>s.size-i) 0 ⟨Nat.zero_le _,by omega⟩ (wM (nr _) rfl (by simp[ToL,lk]) trivial) ?_;rintro i S' ⟨hi,hok⟩ hS;simp only[stR01] at hS;subst hS;have hw:=sW (i:=i) (by omega);have hwi:IntKind.i64.wrap (i:Int)=i:=wrap_in (by omega) (by omega)
 by_cases hlt:i<s.size
 .have hbb:=byteAt_lt hlt;have hr:=runN_eq (p:=pd d) (s:=s) (a:=0) (i:=i) (by omega) (fun j hj=>by rw[Nat.zero_add];exact hok j hj);rw[Nat.zero_add,<-hbb] at hr;have hok2:pd d (s.data[i].toNat)=true->∀j,j<i+1->pd d (byteAt s j)=true:=fun h j hj=>by
   by_cases e:j=i
   .rw[e,<-hbb];exact h
   .exact hok j (by omega)
  have hd:=hd (s.data[i].toNat);have hl:=hl (s.data[i].toNat);have fin1:pd d (s.data[i].toNat)=false->runN (pd d) s 0=i:=fun h=>hr (.inr h)
  cases ed:digB (s.data[i].toNat)
  .rw[ed] at hd;cases d
   .cases el:letB (s.data[i].toNat)
    .rw[el] at hl;cases eu:((s.data[i].toNat:Int)==95)
     .have hr:=fin1 (by simp[pd,ed,el,eu]);repeat first|simp[hlt,hwi]|refine sR ?_
      refine sD (hd _ _) ?_;simp;repeat first|simp[hlt,hwi]|refine sR ?_
      refine sD (hl _ _) ?_;simp;repeat first|simp[hlt,hwi,eu]|refine sR ?_|refine sC ?_
      refine sX ?_;simp only[AU,↓reduceIte];repeat first|simp|refine sR ?_
      refine sT (sH Hb Ht ?_);simp[hr]
     .have hv:=hok2 (by simp[pd,ed,el,eu]);repeat first|simp[hlt,hwi]|refine sR ?_
      refine sD (hd _ _) ?_;simp;repeat first|simp[hlt,hwi]|refine sR ?_
      refine sD (hl _ _) ?_;simp;repeat first|simp[hlt,hwi,eu]|refine sR ?_
      refine sC ?_;simp;repeat first|simp[hw]|refine sR ?_
      refine sE ?_;exact⟨i+1,⟨hlt,hv⟩,by omega,wM (nr _) rfl (by simp[ToL,lk]) trivial⟩
    .rw[el] at hl;have hv:=hok2 (by simp[pd,ed,el]);repeat first|simp[hlt,hwi]|refine sR ?_
     refine sD (hd _ _) ?_;simp;repeat first|simp[hlt,hwi]|refine sR ?_
     refine sD (hl _ _) ?_;simp;repeat first|simp[hlt,hwi]|refine sR ?_
     refine sC ?_;simp;repeat first|simp[hw]|refine sR ?_
     refine sE ?_;exact⟨i+1,⟨hlt,hv⟩,by omega,wM (nr _) rfl (by simp[ToL,lk]) trivial⟩
   .have hr:=fin1 (by simp[pd,ed]);repeat first|simp[hlt,hwi]|refine sR ?_
    refine sD (hd _ _) ?_;simp;repeat first|simp[hlt,hwi]|refine sR ?_|refine sC ?_
    refine sX ?_;simp only[AU,↓reduceIte];repeat first|simp|refine sR ?_
    refine sT (sH Hb Ht ?_);simp[hr]
  .rw[ed] at hd;have hv:=hok2 (by simp[pd,ed]);repeat first|simp[hlt,hwi]|refine sR ?_
   refine sD (hd _ _) ?_;simp;repeat first|simp[hlt,hwi]|refine sR ?_
   refine sC ?_;simp;repeat first|simp[hw]|refine sR ?_
   refine sE ?_;exact⟨i+1,⟨hlt,hv⟩,by omega,wM (nr _) rfl (by simp[ToL,lk]) trivial⟩
 .have hie:i=s.size:=by omega
  have hr:=runN_eq (p:=pd d) (s:=s) (a:=0) (i:=i) (by omega) (fun j hj=>by rw[Nat.zero_add];exact hok j hj) (.inl (by omega));repeat first|simp[hlt,hwi]|refine sR ?_|refine sC ?_
  refine sX ?_;simp only[AU,↓reduceIte];repeat first|simp|refine sR ?_
  refine sT (sH Hb Ht ?_);simp[hr]
def quoT(s:ByteArray)(n:Nat):Int :=
 if n<s.size then (if byteAt s n=34 then (n:Int)+1 else if byteAt s n<32∨126<byteAt s n then 0 else quoT s (n+1)) else 0
termination_by s.size-n
theorem quoT_end{s:ByteArray}{n:Nat}(h:¬n<s.size):quoT s n=0:=by rw[quoT,if_neg h]
theorem quoT_q{s:ByteArray}{n:Nat}(h:n<s.size)(h1:byteAt s n=34):quoT s n=(n:Int)+1:=by rw[quoT,if_pos h,if_pos h1]
theorem quoT_bad{s:ByteArray}{n:Nat}(h:n<s.size)(h1:¬byteAt s n=34)(h2:byteAt s n<32∨126<byteAt s n):quoT s n=0:=by rw[quoT,if_pos h,if_neg h1,if_pos h2]
theorem quoT_go{s:ByteArray}{n:Nat}(h:n<s.size)(h1:¬byteAt s n=34)(h2:¬(byteAt s n<32∨126<byteAt s n)):quoT s n=quoT s (n+1):=by rw[quoT,if_pos h,if_neg h1,if_neg h2]
theorem quoT_rng(s:ByteArray):∀(k n:Nat),s.size-n=k->1<=n->quoT s n=0∨2<=quoT s n/\quoT s n<=s.size
 | 0,n,hk,_=>.inl (quoT_end (by omega))
 | k+1,n,hk,h1=>by
  have hlt:n<s.size:=by omega
  by_cases e1:byteAt s n=34
  .rw[quoT_q hlt e1];right;omega
  .by_cases e2:byteAt s n<32∨126<byteAt s n
   .exact .inl (quoT_bad hlt e1 e2)
   .rw[quoT_go hlt e1 e2];exact quoT_rng s k (n+1) (by omega) (by omega)
def stQ01(s:ByteArray)(nb:Nat)(box:Bxs)(tok:Tks)(nt:Nat)(i:Nat):AS:=⟨tl [(0,Sb s),(1,I 0),(5,I i)],lb nb box [],tok,nt⟩
theorem quoted01_c(s:ByteArray)(hs:s.size<=200000000000000):DC 253 [Sb s,I 0] (I (quoT s 1)):=by
 intro tok nt box nb;refine sI func253 ntmps253 fun Hb Ht=>?_
 repeat first|simp|refine sR ?_
 refine sN ?_;by_cases h0:1<=s.size
 .refine sL (stQ01 s nb box tok nt) (fun i=>i<=s.size/\quoT s 1=quoT s i) (fun i=>s.size-i) 1 ⟨h0,rfl⟩ (wM (nr _) rfl (by simp[ToL,lk]) trivial) ?_;rintro i S' ⟨hi,hq⟩ hS;simp only[stQ01] at hS;subst hS;have hw:=sW (i:=i) (by omega);have hwi:IntKind.i64.wrap (i:Int)=i:=wrap_in (by omega) (by omega)
  by_cases hlt:i<s.size
  .have hbb:=byteAt_lt hlt;repeat (first|simp[hlt,hwi]|refine sR ?_)
   refine sC ?_
   repeat (first|simp[hlt,hwi]|refine sR ?_)
   rw[hbb];by_cases e1:byteAt s i=34
   .have b1:(byteAt s i==34)=true:=by simp[e1]
    have hr:=quoT_q hlt e1;simp only[b1];refine sC ?_;simp;repeat first|simp[hw]|refine sR ?_
    refine sT (sH Hb Ht ?_);simp[hq,hr]
   .have b1:(byteAt s i==34)=false:=by simp[e1]
    simp only[b1];refine sC ?_;simp;by_cases e2:byteAt s i<32
    .have hr:=quoT_bad hlt e1 (.inl e2);repeat first|simp[e2]|refine sR ?_
     refine sC ?_;repeat first|simp|refine sR ?_
     refine sT (sH Hb Ht ?_);simp[hq,hr]
    .by_cases e3:126<byteAt s i
     .have hr:=quoT_bad hlt e1 (.inr e3);repeat first|simp[e2,e3]|refine sR ?_
      refine sC ?_;repeat first|simp|refine sR ?_
      refine sT (sH Hb Ht ?_);simp[hq,hr]
     .have hr:=quoT_go hlt e1 (by omega);repeat first|simp[e2,e3]|refine sR ?_
      refine sC ?_;simp;repeat first|simp[hw]|refine sR ?_
      refine sE ?_;exact⟨i+1,⟨hlt,hq.trans hr⟩,by omega,wM (nr _) rfl (by simp[ToL,lk]) trivial⟩
  .have hr:=quoT_end hlt;repeat first|simp[hlt,hwi]|refine sR ?_|refine sC ?_
   refine sX ?_;simp only[AU,↓reduceIte];repeat first|simp|refine sR ?_
   refine sT (sH Hb Ht ?_);simp[hq,hr]
 .have hr:=quoT_end (s:=s) (n:=1) (by omega);refine sL (stQ01 s nb box tok nt) (fun i=>i=1) (fun i=>0) 1 rfl (wM (nr _) rfl (by simp[ToL,lk]) trivial) ?_;rintro i S' rfl hS;simp only[stQ01] at hS;subst hS;have h1:¬(1:Int)<s.size:=by omega
  have hwi:IntKind.i64.wrap (1:Int)=1:=rfl
  repeat first|simp[hwi,h1]|refine sR ?_|refine sC ?_
  refine sX ?_;simp only[AU,↓reduceIte];repeat first|simp|refine sR ?_
  refine sT (sH Hb Ht ?_);simp[hr]
def signL:List ByteArray:=[⟨#[45,62]⟩,⟨#[60,61]⟩,⟨#[62,61]⟩,⟨#[61,61]⟩,⟨#[33,61]⟩,⟨#[123]⟩,⟨#[125]⟩,⟨#[40]⟩,⟨#[41]⟩,⟨#[91]⟩,⟨#[93]⟩,⟨#[44]⟩,⟨#[59]⟩,⟨#[58]⟩,⟨#[61]⟩,⟨#[43]⟩,⟨#[45]⟩,⟨#[42]⟩,⟨#[60]⟩,⟨#[62]⟩,⟨#[33]⟩,⟨#[38]⟩,⟨#[124]⟩,⟨#[46]⟩,⟨#[63]⟩]
theorem signs01_c:DC 254 [] (.d (strs signL)):=by
 intro tok nt box nb;refine sI func254 ntmps254 fun Hb Ht=>?_
 repeat first|simp|refine sR ?_
 refine⟨rfl,?_⟩;repeat first|simp|refine sR ?_
 refine sT (sH Hb Ht ?_);simp[strs,signL]
def sgnT(s:ByteArray):List ByteArray->Int × ByteArray × Int × Int
 | []=>(0,⟨#[]⟩,0,2)
 | x::r=>if x.size<=s.size/\s.extract 0 x.size=x then (4,x,x.size,0) else sgnT s r
theorem sgnT_cons(s x:ByteArray)(r:List ByteArray):sgnT s (x::r)=if x.size<=s.size/\s.extract 0 x.size=x then ((4:Int),x,(x.size:Int),(0:Int)) else sgnT s r:=rfl
theorem sgnT_kind(s:ByteArray):∀l,(sgnT s l).1=4/\(sgnT s l).2.2.2=0∨(sgnT s l).2.2.2=2
 | []=>.inr rfl
 | x::r=>by
  unfold sgnT;split
  .exact .inl ⟨rfl,rfl⟩
  .exact sgnT_kind s r
def oneR(s:ByteArray):Int × ByteArray × Int × Int :=
 if letB (byteAt s 0)=true∨digB (byteAt s 0)=true then
  (if (if digB (byteAt s 0)=true then 9 else 20)<runN (pd (digB (byteAt s 0))) s 0 then (0,⟨#[]⟩,0,3)
   else (if digB (byteAt s 0)=true then 2 else 1,s.extract 0 (runN (pd (digB (byteAt s 0))) s 0),runN (pd (digB (byteAt s 0))) s 0,0))
 else if byteAt s 0=34 then (if quoT s 1=0 then (0,⟨#[]⟩,0,2) else if 60<quoT s 1-2 then (0,⟨#[]⟩,0,3) else (3,s.extract 1 ((quoT s 1).toNat-1),quoT s 1,0))
 else sgnT s signL
def stSg(s:ByteArray)(L:List ByteArray)(nb:Nat)(box:Bxs)(tok:Tks)(nt:Nat)(i:Nat):AS :=
 ⟨tl [(13,I i),(12,.d (strs L)),(4,.ptr (nb+4) 0 0),(0,Sb s),(1,I 0)],lb nb box [(4,[[I 0,Sb ⟨#[]⟩,I 0]])],tok,nt⟩
set_option maxRecDepth 100000 in
theorem one01_c(s:ByteArray)(h1:1<=s.size)(hs:s.size<=200000000000000):DC 191 [Sb s,I 0] (.tup [.agg [I (oneR s).1,Sb (oneR s).2.1,I 0],I (oneR s).2.2.1,I (oneR s).2.2.2]):=by
 intro tok nt box nb;obtain⟨N,hN⟩:∃N,oneR s=N:=⟨_,rfl⟩
 rw[hN];unfold oneR at hN;have hl:=letter01_c (byteAt s 0);have hd:=digit01_c (byteAt s 0);have hr:=fun d=>run01_c s d hs
 have hq:=quoted01_c s hs;have hqr:=quoT_rng s _ 1 rfl (nr _);have hsg:=signs01_c;have h0:0<s.size:=h1
 have h0':(0:Int)<s.size:=by omega
 have hb:=byteAt_lt h0;have hrl:runN (pd (digB (byteAt s 0))) s 0<=s.size:=runN_le _ _ _
 cases ed:digB (byteAt s 0)
 .rw[ed] at hd hrl hN;cases el:letB (byteAt s 0)
  .rw[el] at hl hN;rw[if_neg (by simp)] at hN;refine sI func191 ntmps191 fun Hb Ht=>?_
   repeat first|simp[h0,h0']|refine sR ?_
   rw[hb];refine sD (hl _ _) ?_;repeat first|simp|refine sR ?_
   refine sD (hd _ _) ?_;repeat (first|simp|refine sR ?_)
   refine sC ?_
   repeat (first|simp|refine sR ?_)
   by_cases e3:byteAt s 0=34
   .rw[if_pos e3] at hN;have b3:(byteAt s 0==34)=true:=by simp[e3]
    generalize quoT s 1=q at *;repeat first|simp[b3]|refine sR ?_
    refine sC ?_;repeat first|simp|refine sR ?_
    refine sD (hq _ _) ?_;simp;by_cases q0:q=0
    .have b4:(q==0)=true:=by simp[q0]
     rw[if_pos q0] at hN;repeat first|simp[b4]|refine sR ?_
     refine sC ?_;repeat first|simp|refine sR ?_
     refine sT (sH Hb Ht ?_);simp[<-hN]
    .have b4:(q==0)=false:=by simp[q0]
     obtain⟨q1,q2⟩:=hqr.resolve_left q0;rw[if_neg q0] at hN;have w1:IntKind.i64.wrap (q-2)=q-2:=wrap_in (by omega) (by omega)
     have w2:IntKind.i64.wrap q=q:=wrap_in (by omega) (by omega)
     have w3:IntKind.i64.wrap (q-1)=q-1:=wrap_in (by omega) (by omega)
     have w4:IntKind.i64.wrap 1=1:=rfl
     by_cases q3:60<q-2
     .rw[if_pos q3] at hN;repeat first|simp[b4]|refine sR ?_
      refine sC ?_;simp;repeat first|simp[w1]|refine sR ?_
      refine sC ?_;simp[q3];repeat first|simp|refine sR ?_
      refine sT (sH Hb Ht ?_);simp[<-hN]
     .rw[if_neg q3] at hN;have q4:(1:Int)<=q-1:=by omega
      have q5:q-1<=s.size:=by omega
      have q6:1<=q.toNat-1:=by omega
      have q7:q.toNat-1<=s.size:=by omega
      have q8:0<=q-1:=by omega
      repeat first|simp[b4]|refine sR ?_
      refine sC ?_;simp;repeat first|simp[w1]|refine sR ?_
      refine sC ?_;simp[q3];repeat first|simp[w2,w3,w4,q4,q5,q6,q7,q8]|refine sR ?_
      refine⟨by omega,?_⟩;repeat first|simp|refine sR ?_
      refine sT (sH Hb Ht ?_);simp[<-hN]
   .rw[if_neg e3] at hN;have b3:(byteAt s 0==34)=false:=by simp[e3]
    repeat first|simp[b3]|refine sR ?_
    refine sC ?_;repeat first|simp|refine sR ?_
    refine sD (hsg _ _) ?_;repeat first|simp|refine sR ?_
    refine sN ?_;refine sL (stSg s signL nb box tok nt) (fun i=>i<=signL.length/\sgnT s signL=sgnT s (signL.drop i)) (fun i=>signL.length-i) 0 ⟨Nat.zero_le _,rfl⟩ wkA ?_;rintro i S' ⟨hi,hsq⟩ hS;simp only[stSg] at hS;subst hS;have hlen:signL.length<=1000:=by decide
    have hmax:∀x∈signL,x.size<=2:=by decide
    generalize signL=L at *;have hw:=sW (i:=i) (by omega);repeat first|simp|refine sR ?_|refine sC ?_
    refine⟨fun hlt=>?_,fun hge=>?_⟩
    .have hx:=hmax _ (List.getElem_mem hlt);have hdr:L.drop i=L[i]::L.drop (i+1):=List.drop_eq_getElem_cons hlt
     have hwx:IntKind.i64.wrap (L[i].size:Int)=L[i].size:=wrap_in (by omega) (by omega)
     rw[hdr] at hsq;rw[sgnT_cons] at hsq;by_cases c1:L[i].size<=s.size
     .have c1':(L[i].size:Int)<=s.size:=by omega
      by_cases c2:s.extract 0 L[i].size=L[i]
      .have b2:((s.extract 0 L[i].size).toList==L[i].toList)=true:=by rw[seq_dec];simp[c2]
       rw[if_pos ⟨c1,c2⟩] at hsq;repeat first|simp[hlt,hwx,c1,c1',b2]|refine sR ?_
       refine sC ?_;simp[hlt,hwx,c1,c1',b2]
       refine sN ?_;refine AL.region2 follows_Tryz (nr _) (by kernel_rfl) (Side.of (by simp)) ?_;simp[hlt];refine sT (sH Hb Ht ?_);simp[hsq,<-hN]
      .have b2:((s.extract 0 L[i].size).toList==L[i].toList)=false:=by rw[seq_dec];simp[c2]
       rw[if_neg fun h=>c2 h.2] at hsq;repeat first|simp[hlt,hwx,c1,c1',b2]|refine sR ?_
       refine sC ?_;simp;repeat first|simp[hw]|refine sR ?_
       refine sE ?_;exact⟨i+1,⟨hlt,hsq⟩,by omega,wkA⟩
     .have c1':¬(L[i].size:Int)<=s.size:=by omega
      rw[if_neg fun h=>c1 h.1] at hsq;repeat first|simp[hlt,hwx,c1,c1']|refine sR ?_
      refine sC ?_;simp;repeat first|simp[hw]|refine sR ?_
      refine sE ?_;exact⟨i+1,⟨hlt,hsq⟩,by omega,wkA⟩
    .refine sX ?_;simp only[AU,↓reduceIte];repeat first|simp|refine sR ?_
     have hie:i=L.length:=by omega
     rw[hie,List.drop_length] at hsq;refine sT (sH Hb Ht ?_);simp[<-hN,hsq,sgnT]
  .rw[el] at hl hN;rw[if_pos (by simp)] at hN;have hr:=hr false;generalize runN (pd false) s 0=n at *;refine sI func191 ntmps191 fun Hb Ht=>?_
   repeat first|simp[h0,h0']|refine sR ?_
   rw[hb];refine sD (hl _ _) ?_;repeat first|simp|refine sR ?_
   refine sC ?_;repeat first|simp|refine sR ?_
   refine sD (hd _ _) ?_;repeat first|simp|refine sR ?_
   refine sD (hr _ _) ?_;repeat first|simp|refine sR ?_
   refine sD (hd _ _) ?_;repeat first|simp|refine sR ?_
   refine sC ?_;repeat first|simp|refine sR ?_
   by_cases e3:20<n
   .have e4:(20:Int)<n:=by omega
    simp only[Bool.false_eq_true,if_false] at hN;rw[if_pos e3] at hN;refine sC ?_;simp[e4];repeat first|simp|refine sR ?_
    refine sT (sH Hb Ht ?_);simp[<-hN]
   .have e4:¬(20:Int)<n:=by omega
    simp only[Bool.false_eq_true,if_false] at hN;rw[if_neg e3] at hN;have hwn:IntKind.i64.wrap (n:Int)=n:=wrap_in (by omega) (by omega)
    have hns:(n:Int)<=s.size:=by omega
    refine sC ?_;simp[e4];repeat first|simp[hwn,hns,hrl]|refine sR ?_
    refine sT (sH Hb Ht ?_);simp[<-hN]
 .rw[ed] at hd hrl hN;have el:letB (byteAt s 0)=false:=by
   have:=ed
   unfold digB at this;unfold letB;simp only[decide_eq_true_eq,decide_eq_false_iff_not] at this ⊢;omega
  rw[el] at hl;rw[if_pos (by simp)] at hN;have hr:=hr true;generalize runN (pd true) s 0=n at *;refine sI func191 ntmps191 fun Hb Ht=>?_
  repeat first|simp[h0,h0']|refine sR ?_
  rw[hb];refine sD (hl _ _) ?_;repeat first|simp|refine sR ?_
  refine sD (hd _ _) ?_;repeat first|simp|refine sR ?_
  refine sC ?_;repeat first|simp|refine sR ?_
  refine sD (hd _ _) ?_;repeat first|simp|refine sR ?_
  refine sD (hr _ _) ?_;repeat first|simp|refine sR ?_
  refine sD (hd _ _) ?_;repeat first|simp|refine sR ?_
  refine sC ?_;repeat first|simp|refine sR ?_
  by_cases e3:9<n
  .have e4:(9:Int)<n:=by omega
   simp only[if_true] at hN;rw[if_pos e3] at hN;refine sC ?_;simp[e4];repeat first|simp|refine sR ?_
   refine sT (sH Hb Ht ?_);simp[<-hN]
  .have e4:¬(9:Int)<n:=by omega
   simp only[if_true] at hN;rw[if_neg e3] at hN;have hwn:IntKind.i64.wrap (n:Int)=n:=wrap_in (by omega) (by omega)
   have hns:(n:Int)<=s.size:=by omega
   refine sC ?_;simp[e4];repeat first|simp[hwn,hns,hrl]|refine sR ?_
   refine sT (sH Hb Ht ?_);simp[<-hN]
theorem let_dig{c:Int}(h:letB c=true):digB c=false:=by
 unfold letB at h;unfold digB;simp only[decide_eq_true_eq,decide_eq_false_iff_not] at h ⊢;omega
theorem nameB_one{s:ByteArray}(h1:1<=s.size):((decide ((oneR s).2.2.2=0)&&decide ((oneR s).2.2.1=(s.size:Int)))&&decide ((oneR s).1=1))=nameB s:=by
 unfold nameB oneR;by_cases e1:letB (byteAt s 0)=true
 .have e2:=let_dig e1;rw[if_pos (.inl e1),e2,pd_false];simp only[Bool.false_eq_true,if_false];by_cases e3:20<runN parB s 0
  .rw[if_pos e3,Bool.eq_iff_iff];simp[e1];omega
  .rw[if_neg e3,Bool.eq_iff_iff];simp[e1];omega
 .have e1':letB (byteAt s 0)=false:=by simpa using e1
  rw[e1'];simp only[Bool.and_false,Bool.false_and];split
  .rename_i h;have hd:digB (byteAt s 0)=true:=h.resolve_left (by simp)
   rw[hd];simp only[if_true];split<;>simp
  .split
   .split
    .simp
    .split<;>simp
   .rcases sgnT_kind s signL with ⟨k1,_⟩|k1<;>simp[k1]
theorem text01_c(s:ByteArray):DC 259 [.agg [I 1,Sb s,I 0]] (Sb s):=by
 intro tok nt box nb;refine sI func259 ntmps259 fun Hb Ht=>?_
 repeat first|simp|refine sR ?_
 refine sC ?_;repeat first|simp|refine sR ?_
 refine sT (sH Hb Ht ?_);simp
theorem right01_c(s:ByteArray)(hs:s.size<=200000000000000):DC 207 [.agg [I 1,Sb s,I 0]] (B (nameB s)):=by
 intro tok nt box nb;have ht:=text01_c s;by_cases h0:s.size=0
 .have b0:(s.toList==(⟨#[]⟩:ByteArray).toList)=true:=by rw[empty_dec];simp[h0]
  have b1:s.toList=[]:=by simpa using b0
  have hn:nameB s=false:=by simp[nameB,h0]
  rw[hn];refine sI func207 ntmps207 fun Hb Ht=>?_
  repeat first|simp|refine sR ?_
  refine sD (ht _ _) ?_;repeat first|simp[b1]|refine sR ?_|refine sC ?_
  refine sT (sH Hb Ht ?_);simp
 .have b0:(s.toList==(⟨#[]⟩:ByteArray).toList)=false:=by rw[empty_dec];simp[h0]
  have b1:¬s.toList=[]:=by simpa using b0
  have hx:=one01_c s (by omega) hs;have hnb:=nameB_one (s:=s) (by omega);rw[<-hnb];generalize oneR s=N at *;refine sI func207 ntmps207 fun Hb Ht=>?_
  repeat first|simp|refine sR ?_
  refine sD (ht _ _) ?_;repeat first|simp[b1]|refine sR ?_|refine sC ?_
  refine sD (hx _ _) ?_;simp;by_cases f1:N.2.2.2=0
  .have g1:(N.2.2.2==0)=true:=by simp[f1]
   by_cases f3:N.2.2.1=(s.size:Int)
   .have g3:(N.2.2.1==(s.size:Int))=true:=by simp[f3]
    repeat first|simp[g1,g3]|refine sR ?_
    by_cases f2:N.1=1
    .have g2:(N.1==1)=true:=by simp[f2]
     refine sT (sH Hb Ht ?_);simp[f1,f2,f3,g2]
    .have g2:(N.1==1)=false:=by simp[f2]
     refine sT (sH Hb Ht ?_);simp[f1,f2,f3,g2]
   .have g3:(N.2.2.1==(s.size:Int))=false:=by simp[f3]
    repeat first|simp[g1,g3]|refine sR ?_
    refine sT (sH Hb Ht ?_);simp[f1,f3]
  .have g1:(N.2.2.2==0)=false:=by simp[f1]
   repeat first|simp[g1]|refine sR ?_
   refine sT (sH Hb Ht ?_);simp[f1]
theorem isName01_c(s:ByteArray)(hs:s.size<=200000000000000):DC 128 [Sb s] (B (nameB s)):=by
 intro tok nt box nb;have h:=right01_c s hs;refine sI func128 ntmps128 fun Hb Ht=>?_
 repeat first|simp|refine sR ?_
 refine sD (h _ _) ?_;repeat first|simp|refine sR ?_
 refine sT (sH Hb Ht ?_);simp
variable {P:Program}
def Trans(cx:Cx)(nt0:Nat)(S S':AS):Prop:=∀G0 w0 G a w,Entry cx nt0 G0->G0.nt<=nt0->RelS cx.n cx.nb G S a w->LeC cx G0 w0 G w S->∃G',RelS cx.n cx.nb G' S' a w/\LeC cx G0 w0 G' w S'
theorem AT.trans{cx:Cx}{nt0:Nat}{c:Code}{S S':AS}{K:Exit->AS->Prop}(h:Trans cx nt0 S S')(k:AT P cx nt0 c S' K):AT P cx nt0 c S K:=by
 intro G0 w0 he hn G a w hr hl;obtain⟨G',hr',hl'⟩:=h G0 w0 G a w he hn hr hl;exact k G0 w0 he hn G' a w hr' hl'
theorem AL.trans{cx:Cx}{nt0:Nat}{K:Exit->AS->Prop}{r:List CI}{S S':AS}{x:Code}(hw:Trans cx nt0 S S')(h:AL P cx nt0 K (.c x::r) S'):AL P cx nt0 K (.c x::r) S:=by
 simp only[AL] at h ⊢;exact AT.trans hw h
theorem AL.mid{cx:Cx}{nt0:Nat}{K:Exit->AS->Prop}{r:List CI}{S:AS}{x y:Code}(T:AS)(h1:AL P cx nt0 (fun e S'=>match e with
   | .normal=>Weaks cx nt0 S' T
   | e=>AU P cx nt0 K (.c y::r) e S') [.c x] S)(h2:AL P cx nt0 K (.c y::r) T):AL P cx nt0 K (.c x::.c y::r) S:=by
 have h3:=AL.start h1;simp only[AL] at h2 ⊢;refine h3.mono fun e S' h=>?_
 cases e with
 | normal=>exact AT.weaks h h2
 | _=>exact h
inductive ThTo (t k sz:Nat) (es:List (List D)):AV->AV->Prop
 | bot {x}:ThTo t k sz es x .bot
 | same {x}:ThTo t k sz es x x
 | ex:ThTo t k sz es (.ex t sz es) (.msl k 0 es.length sz)
 | agg {cs ds:List AV} (hl:cs.length=ds.length) (h:∀i (h1:i<cs.length) (h2:i<ds.length),ThTo t k sz es cs[i] ds[i]):ThTo t k sz es (.agg cs) (.agg ds)
def ThR(t k sz:Nat)(es:List (List D))(r r':List AV):Prop:=r.length=r'.length/\∀i (h1:i<r.length) (h2:i<r'.length),ThTo t k sz es r[i] r'[i]
def ThRs(t k sz:Nat)(es:List (List D))(r r':List (List AV)):Prop:=r.length=r'.length/\∀i (h1:i<r.length) (h2:i<r'.length),ThR t k sz es r[i] r'[i]
def ThL(t k sz:Nat)(es:List (List D)):List (Nat × AV)->List (Nat × AV)->Prop
 | [],[]=>True
 | (i,x)::a,(j,y)::b=>i=j/\ThTo t k sz es x y/\ThL t k sz es a b
 | _,_=>False
def ThB(t k sz:Nat)(es:List (List D)):List (Nat × List (List AV))->List (Nat × List (List AV))->Prop
 | [],[]=>True
 | (i,x)::a,(j,y)::b=>i=j/\ThRs t k sz es x y/\ThB t k sz es a b
 | _,_=>False
theorem ThL.at{t k sz:Nat}{es:List (List D)}:∀{l l':List (Nat × AV)},ThL t k sz es l l'->∀i,ThTo t k sz es (tl l i) (tl l' i)
 | [],[],_,i=>.same
 | (i,x)::a,(j,y)::b,h,q=>by
  obtain⟨rfl,h1,h2⟩:=h;rw[tl_cons,tl_cons];split
  .exact h1
  .exact ThL.at h2 q
 | [],_::_,h,_=>h.elim
 | _::_,[],h,_=>h.elim
theorem ThB.at{t k sz:Nat}{es:List (List D)}:∀{l l':List (Nat × List (List AV))},ThB t k sz es l l'->∀i,(lk l i=none/\lk l' i=none)∨∃r r',lk l i=some r/\lk l' i=some r'/\ThRs t k sz es r r'
 | [],[],_,i=>.inl ⟨rfl,rfl⟩
 | (i,x)::a,(j,y)::b,h,q=>by
  obtain⟨rfl,h1,h2⟩:=h;rw[lk_cons,lk_cons];split
  .exact .inr ⟨x,y,rfl,rfl,h1⟩
  .exact ThB.at h2 q
 | [],_::_,h,_=>h.elim
 | _::_,[],h,_=>h.elim
theorem ThRs.flat{t k sz:Nat}{es:List (List D)}:∀{r r':List (List AV)},ThRs t k sz es r r'->ThR t k sz es r.flatten r'.flatten
 | [],[],_=>⟨rfl,fun i h=>by simp at h⟩
 | x::a,y::b,h=>by
  have h0:=h.2 0 (by simp) (by simp);have ih:ThR t k sz es a.flatten b.flatten:=ThRs.flat ⟨by simpa using h.1,fun i h1 h2=>h.2 (i+1) (by simpa using h1) (by simpa using h2)⟩
  simp only[List.getElem_cons_zero] at h0;refine⟨by simp[h0.1,ih.1],fun i h1 h2=>?_⟩;have hl:=h0.1;have hi2:=ih.1;simp only[List.flatten_cons] at h1 h2 ⊢;rw[List.length_append] at h1 h2;by_cases hi:i<x.length
  .have e1:(x++a.flatten)[i]'(by rw[List.length_append];omega)=x[i]:=List.getElem_append_left hi
   have e2:(y++b.flatten)[i]'(by rw[List.length_append];omega)=y[i]'(by omega):=List.getElem_append_left (by omega)
   rw[e1,e2];exact h0.2 i hi _
  .have e1:(x++a.flatten)[i]'(by rw[List.length_append];omega)=a.flatten[i-x.length]'(by omega):=List.getElem_append_right (by omega)
   have e2:(y++b.flatten)[i]'(by rw[List.length_append];omega)=b.flatten[i-y.length]'(by omega):=List.getElem_append_right (by omega)
   rw[e1,e2];have:=ih.2 (i-x.length) (by omega) (by omega)
   simp only[hl] at this ⊢;exact this
 | [],_::_,h=>by have:=h.1;simp at this
 | _::_,[],h=>by have:=h.1;simp at this
theorem rowsD_flat(es:List (List D)):(rowsD es).flatten=es.flatten.map AV.d:=by
 induction es with
 | nil=>rfl
 | cons e es ih=>simp only[rowsD,List.map_cons,List.flatten_cons,List.map_append] at ih ⊢;rw[ih]
inductive SeTo (t k sz:Nat) (es:List (List D)):AV->AV->Prop
 | bot {x}:SeTo t k sz es x .bot
 | same {x} (h:OkIn (· ≠ k) (fun _=>True) x):SeTo t k sz es x x
 | msl:SeTo t k sz es (.msl k 0 es.length sz) (.ex t sz es)
 | agg {cs ds:List AV} (hl:cs.length=ds.length) (h:∀i (h1:i<cs.length) (h2:i<ds.length),SeTo t k sz es cs[i] ds[i]):SeTo t k sz es (.agg cs) (.agg ds)
def SeR(t k sz:Nat)(es:List (List D))(r r':List AV):Prop:=r.length=r'.length/\∀i (h1:i<r.length) (h2:i<r'.length),SeTo t k sz es r[i] r'[i]
def SeRs(t k sz:Nat)(es:List (List D))(r r':List (List AV)):Prop:=r.length=r'.length/\∀i (h1:i<r.length) (h2:i<r'.length),SeR t k sz es r[i] r'[i]
def SeL(t k sz:Nat)(es:List (List D)):List (Nat × AV)->List (Nat × AV)->Prop
 | [],[]=>True
 | (i,x)::a,(j,y)::b=>i=j/\SeTo t k sz es x y/\SeL t k sz es a b
 | _,_=>False
def SeB(t k sz:Nat)(es:List (List D)):List (Nat × List (List AV))->List (Nat × List (List AV))->Prop
 | [],[]=>True
 | (i,x)::a,(j,y)::b=>i=j/\SeRs t k sz es x y/\SeB t k sz es a b
 | _,_=>False
theorem SeL.at{t k sz:Nat}{es:List (List D)}:∀{l l':List (Nat × AV)},SeL t k sz es l l'->∀i,SeTo t k sz es (tl l i) (tl l' i)
 | [],[],_,i=>.bot
 | (i,x)::a,(j,y)::b,h,q=>by
  obtain⟨rfl,h1,h2⟩:=h;rw[tl_cons,tl_cons];split
  .exact h1
  .exact SeL.at h2 q
 | [],_::_,h,_=>h.elim
 | _::_,[],h,_=>h.elim
theorem SeB.at{t k sz:Nat}{es:List (List D)}:∀{l l':List (Nat × List (List AV))},SeB t k sz es l l'->∀i,(lk l i=none/\lk l' i=none)∨∃r r',lk l i=some r/\lk l' i=some r'/\SeRs t k sz es r r'
 | [],[],_,i=>.inl ⟨rfl,rfl⟩
 | (i,x)::a,(j,y)::b,h,q=>by
  obtain⟨rfl,h1,h2⟩:=h;rw[lk_cons,lk_cons];split
  .exact .inr ⟨x,y,rfl,rfl,h1⟩
  .exact SeB.at h2 q
 | [],_::_,h,_=>h.elim
 | _::_,[],h,_=>h.elim
theorem SeRs.flat{t k sz:Nat}{es:List (List D)}:∀{r r':List (List AV)},SeRs t k sz es r r'->SeR t k sz es r.flatten r'.flatten
 | [],[],_=>⟨rfl,fun i h=>by simp at h⟩
 | x::a,y::b,h=>by
  have h0:=h.2 0 (by simp) (by simp);have ih:SeR t k sz es a.flatten b.flatten:=SeRs.flat ⟨by simpa using h.1,fun i h1 h2=>h.2 (i+1) (by simpa using h1) (by simpa using h2)⟩
  simp only[List.getElem_cons_zero] at h0;refine⟨by simp[h0.1,ih.1],fun i h1 h2=>?_⟩;have hl:=h0.1;have hi2:=ih.1;simp only[List.flatten_cons] at h1 h2 ⊢;rw[List.length_append] at h1 h2;by_cases hi:i<x.length
  .have e1:(x++a.flatten)[i]'(by rw[List.length_append];omega)=x[i]:=List.getElem_append_left hi
   have e2:(y++b.flatten)[i]'(by rw[List.length_append];omega)=y[i]'(by omega):=List.getElem_append_left (by omega)
   rw[e1,e2];exact h0.2 i hi _
  .have e1:(x++a.flatten)[i]'(by rw[List.length_append];omega)=a.flatten[i-x.length]'(by omega):=List.getElem_append_right (by omega)
   have e2:(y++b.flatten)[i]'(by rw[List.length_append];omega)=b.flatten[i-y.length]'(by omega):=List.getElem_append_right (by omega)
   rw[e1,e2];have:=ih.2 (i-x.length) (by omega) (by omega)
   simp only[hl] at this ⊢;exact this
 | [],_::_,h=>by have:=h.1;simp at this
 | _::_,[],h=>by have:=h.1;simp at this
section
variable {t k sz:Nat} {es:List (List D)}
@[simp] theorem thTo_bot(x:AV):ThTo t k sz es x .bot:=.bot
@[simp] theorem thTo_same(x:AV):ThTo t k sz es x x:=.same
@[simp] theorem thTo_ex{n:Nat}:ThTo t k sz es (.ex t sz es) (.msl k 0 n sz)↔n=es.length:=⟨fun h=>by cases h;rfl,fun h=>by subst h;exact .ex⟩
@[simp] theorem seTo_bot(x:AV):SeTo t k sz es x .bot:=.bot
@[simp] theorem seTo_d(x:D):SeTo t k sz es (.d x) (.d x):=.same .d
@[simp] theorem seTo_osl(n:Nat)(xs:List (List D))(o:Own):SeTo t k sz es (.osl n xs o) (.osl n xs o):=.same (.osl fun _ _=>trivial)
@[simp] theorem seTo_msl:SeTo t k sz es (.msl k 0 es.length sz) (.ex t sz es):=.msl
end
@[simp] theorem to_ex{p:Nat->Prop}{fz:Option (Nat × Nat × List (List D))}(t sz:Nat)(es:List (List D)):To p (fun _=>True) fz (.ex t sz es) (.ex t sz es):=.same (.ex trivial)
@[simp] theorem okIn_ex{p q:Nat->Prop}{t sz:Nat}{es:List (List D)}:OkIn p q (.ex t sz es)↔q t:=⟨fun h=>by cases h;assumption,.ex⟩
theorem TK.more{mtok:Nat->Bool}{nt0:Nat}{tok:Nat->Bool}{nt:Nat}{os:List Own}(h:TK mtok nt0 tok nt os)(q:Nat):TK mtok nt0 (upd tok (nt+q) true) (nt+q+1) (.tok (nt+q)::os):=by
 have hle:=h.le;refine⟨fun t ht=>?_,h.lt,by omega,fun o ho t e=>?_,List.pairwise_cons.2 ⟨fun o ho t e e'=>?_,h.ne⟩⟩
 .have:=h.lt t ht
  rw[uO _ _ (by omega)];exact h.old t ht
 .rcases List.mem_cons.1 ho with rfl|ho
  .cases e;exact⟨uS _ _ _,by omega,by omega⟩
  .obtain⟨h1,h2,h3⟩:=h.own o ho t e;exact⟨by rw[uO _ _ (by omega)];exact h1,h2,by omega⟩
 .cases e;have:=(h.own o ho _ e').2.2
  omega
theorem TK.spend{mtok:Nat->Bool}{nt0:Nat}{tok:Nat->Bool}{nt t:Nat}{os:List Own}(h:TK mtok nt0 tok nt (.tok t::os)):TK mtok nt0 (upd tok t false) nt os:=by
 have hp:=List.pairwise_cons.1 h.ne;obtain⟨_,t1,t2⟩:=h.own _ (by simp) t rfl;refine⟨fun q hq=>?_,h.lt,h.le,fun o ho q e=>?_,hp.2⟩
 .have:=h.lt q hq
  rw[uO _ _ (by omega)];exact h.old q hq
 .obtain⟨h1,h2,h3⟩:=h.own o (by simp[ho]) q e;refine⟨?_,h2,h3⟩;rw[uO _ _ (fun e2=>by subst e2;exact hp.1 o ho q rfl e)];exact h1
abbrev U(n:Int):AV:=.d (.raw (.int .u64 n))
@[simp] theorem rowsI_tail(l:List Int):(rowsI l).tail=rowsI l.tail:=by simp[rowsI]
structure Sl where
 a:Int
 b:Int
 c:Int
 d:Int
 deriving DecidableEq,Inhabited
structure Te where
 k:Int
 a:Int
 b:Int
 c:Int
 d:Int
 deriving DecidableEq,Inhabited
abbrev Sl.cells(s:Sl):List D:=[.raw (.int .i64 s.a),.raw (.int .i64 s.b),.raw (.int .i64 s.c),.raw (.int .i64 s.d)]
abbrev Te.cells(t:Te):List D:=[.raw (.int .i64 t.k),.raw (.int .i64 t.a),.raw (.int .i64 t.b),.raw (.int .i64 t.c),.raw (.int .i64 t.d)]
abbrev slots(l:List Sl):D:=.sl 4 (l.map Sl.cells)
abbrev tests(l:List Te):D:=.sl 5 (l.map Te.cells)
inductive Cd where
 | mk (kind:Int) (kids:List Cd) (m:Mo) (g:Gr) (sl:List Sl) (vars:Int) (te:List Te)
def Cd.kind:Cd->Int|.mk k _ _ _ _ _ _=>k
def Cd.kids:Cd->List Cd|.mk _ c _ _ _ _ _=>c
def Cd.m:Cd->Mo|.mk _ _ m _ _ _ _=>m
def Cd.g:Cd->Gr|.mk _ _ _ g _ _ _=>g
def Cd.sl:Cd->List Sl|.mk _ _ _ _ s _ _=>s
def Cd.vars:Cd->Int|.mk _ _ _ _ _ v _=>v
def Cd.te:Cd->List Te|.mk _ _ _ _ _ _ t=>t
mutual
def Cd.cells:Cd->List D
 | .mk k c m g s v t=>[.raw (.int .i64 k),.sl 9 (Cd.rows c),ints m.nodes,ints m.edges,ints g.nodes,AM.edges g.edges,slots s,.raw (.int .i64 v),tests t]
def Cd.rows:List Cd->List (List D)
 | []=>[]
 | x::r=>Cd.cells x::Cd.rows r
end
theorem Cd.rows_map:∀l:List Cd,Cd.rows l=l.map Cd.cells
 | []=>by simp[Cd.rows]
 | x::r=>by simp[Cd.rows,Cd.rows_map r]
theorem Cd.cells_eq(c:Cd):c.cells=[.raw (.int .i64 c.kind),.sl 9 (c.kids.map Cd.cells),ints c.m.nodes,ints c.m.edges,ints c.g.nodes,AM.edges c.g.edges,slots c.sl,.raw (.int .i64 c.vars),tests c.te]:=by
 cases c;simp[Cd.cells,Cd.rows_map,Cd.kind,Cd.kids,Cd.m,Cd.g,Cd.sl,Cd.vars,Cd.te]
abbrev conds(l:List Cd):D:=.sl 9 (l.map Cd.cells)
abbrev Cd.row(c:Cd):List AV:=[I c.kind,.d (conds c.kids),.d (ints c.m.nodes),.d (ints c.m.edges),.d (ints c.g.nodes),.d (AM.edges c.g.edges),.d (slots c.sl),I c.vars,.d (tests c.te)]
abbrev Cd.av(c:Cd):AV:=.agg c.row
def bigN:Nat:=100000000000000
def kidN:Nat:=764877654105
inductive Cd.Big:Cd->Prop
 | mk {c:Cd} (hk:c.kids.length<=kidN) (hmn:c.m.nodes.length<=bigN) (hme:c.m.edges.length<=bigN) (hgn:c.g.nodes.length<=bigN) (hge:c.g.edges.length<=bigN) (hs:c.sl.length<=bigN) (ht:c.te.length<=bigN)
   (h:∀x∈c.kids,Cd.Big x):Cd.Big c
theorem Cd.Big.kids{c:Cd}(h:c.Big):c.kids.length<=kidN:=by cases h;assumption
theorem Cd.Big.kid{c:Cd}(h:c.Big):∀x∈c.kids,Cd.Big x:=by cases h;assumption
theorem Cd.get{l:List Cd}{i:Nat}(h:i<l.length):(l.map Cd.cells)[i]?=some [.raw (.int .i64 l[i].kind),conds l[i].kids,ints l[i].m.nodes,ints l[i].m.edges,ints l[i].g.nodes,AM.edges l[i].g.edges,slots l[i].sl,.raw (.int .i64 l[i].vars),tests l[i].te]:=by
 simp[h,Cd.cells_eq l[i]]
def z0(n:Int):Bool:=n==0
variable {P:Program}
inductive Bo (box:Bxs):AV->AV->Prop
 | same {x} (h:OkIn (fun _=>False) (fun _=>True) x):Bo box x x
 | msl {k sz:Nat} {es:List (List D)} (hk:box k=some (rowsD es)):Bo box (.msl k 0 es.length sz) (.d (.sl sz es))
def BoL(box:Bxs):List AV->List AV->Prop
 | [],[]=>True
 | x::a,y::b=>Bo box x y/\BoL box a b
 | _,_=>False
theorem Bo.ext{box box':Bxs}(he:Ext box box'){x y:AV}(h:Bo box x y):Bo box' x y:=by
 cases h with
 | same h=>exact .same h
 | msl h=>exact .msl (he _ _ h)
theorem BoL.ext{box box':Bxs}(he:Ext box box'):∀{a b:List AV},BoL box a b->BoL box' a b
 | [],[],_=>trivial
 | x::a,y::b,h=>⟨h.1.ext he,BoL.ext he h.2⟩
 | [],_::_,h=>h.elim
 | _::_,[],h=>h.elim
def Gh.lend(G:Gh)(p:Nat->Prop)[DecidablePred p]:Gh:={ bx:=fun _=>none,kind:=fun b=>if p b then .whole else G.kind b,tk:=G.tk,nt:=G.nt }
theorem lend_ps{G:Gh}{p:Nat->Prop}[DecidablePred p]{a:Addr}(h:G.ps a):(G.lend p).ps a:=by
 unfold Gh.ps at h ⊢;simp only[Gh.lend];by_cases e:p a.block
 .simp[e]
 .simp only[e,↓reduceIte];exact h
theorem RV.lend{G:Gh}{w:World}{p:Nat->Prop}[DecidablePred p](hp:∀b,p b->G.kind b=.box){x:AV}{v:Value}(h:RV G w x v)(ho:OkIn (fun _=>False) (fun _=>True) x):RV (G.lend p) w x v:=by
 have hc:∀(a:Addr) (u:Value),G.ps a->w.cell? a=some u->(G.lend p).ps a/\w.cell? a=some u:=fun a u h1 h2=>⟨lend_ps h1,h2⟩
 have hk:∀g,G.kind g≠.box->(G.lend p).kind g=G.kind g:=fun g hg=>by
  simp only[Gh.lend];rw[if_neg fun e=>hg (hp g e)]
 induction h with
 | bot=>exact .bot
 | d h1=>exact .d (h1.mono hc)
 | osl h1 h2 =>
  refine .osl (h1.mono hc) ?_;rename_i o _;cases o with
  | full=>exact h2
  | tok t =>
   refine⟨h2.1,fun y hy=>?_⟩;have:=h2.2 y hy
   cases y with
   | none=>exact this
   | some g =>
    obtain⟨cap,hv,hg⟩:=this;exact⟨cap,hv,(hk g (by rw[hg];intro e;cases e)).trans hg⟩
 | ptr h1=>cases ho with|ptr h=>exact h.elim
 | here h1 h2=>cases ho with|here h=>exact h.elim
 | buf h1 h2 h3 h4 =>
  refine .buf (h1.mono hc) ⟨h2.1,fun y hy=>?_⟩ h3 h4;have:=h2.2 y hy
  cases y with
  | none=>exact this
  | some g =>
   obtain⟨cap,hv,hg⟩:=this;exact⟨cap,hv,(hk g (by rw[hg];intro e;cases e)).trans hg⟩
 | cptr a u h1 h2=>exact .cptr a u (fun j hj=>hc _ _ (h1 j hj).1 (h1 j hj).2) fun j hj=>(h2 j hj).mono hc
 | msl h1=>cases ho with|msl h=>exact h.elim
 | fn hl _ ih=>cases ho with|fn h=>exact .fn hl fun i h1 h2=>ih i h1 h2 (h _ (List.getElem_mem h1))
 | agg hl _ hone ih=>cases ho with|agg h=>exact .agg hl (fun i h1 h2=>ih i h1 h2 (h _ (List.getElem_mem h1))) hone
 | tup hl _ ih=>cases ho with|tup h=>exact .tup hl fun i h1 h2=>ih i h1 h2 (h _ (List.getElem_mem h1))
 | ex h1 =>
  obtain⟨r1,r0,r2⟩:=h1;refine .ex ⟨r1,r0,fun y hy=>?_⟩;obtain⟨g,cap,cs,e,rfl,h2,h3,h4,h5,h6,h7,h8,h9,h10⟩:=r2 y hy;exact⟨g,cap,cs,e,rfl,h2,h3,h4,(hk g (by rw[h5];intro e;cases e)).trans h5,h6,h7,h8,fun i g1 g2=>(h9 i g1 g2).mono hc,h10⟩
 | stk h1 =>
  obtain⟨r1,A,cap,hv,hc1,hm,r2⟩:=h1;refine .stk ⟨r1,A,cap,hv,hc1,hm,fun y hy=>?_⟩;have h0:=r2 y hy;cases y with
  | none=>exact h0
  | some g =>
   obtain⟨hA,vs,sp,e,h5,h6,h7,h8,h9⟩:=h0;exact⟨hA,vs,sp,e,(hk g (by rw[h5];intro e;cases e)).trans h5,h6,h7,h8.mono hc,h9⟩
 | que h1 h2=>exact .que (h1.mono hc) (h2.imp h2.1 fun x hx=>⟨hx,fun g _ f c he=>(hk g (by rw[he];intro e;cases e)).trans he⟩)
 | mp h1 =>
  refine .mp (h1.imp h1.1 (fun _ _ _ _ k=>k) hc (fun x hx=>⟨hx,fun g _ he=>⟨(hk g (by rw[he];intro e;cases e)).trans he,rfl⟩⟩) fun e _ n u h2=>?_);generalize e.2.2=o at h2 ⊢;cases o with
  | full=>exact h2
  | tok t =>
   refine⟨h2.1,fun y hy=>?_⟩;have:=h2.2 y hy
   cases y with
   | none=>exact this
   | some g =>
    obtain⟨cap,hv,hg⟩:=this;exact⟨cap,hv,(hk g (by rw[hg];intro e;cases e)).trans hg⟩
 | mpd h1=>exact .mpd (h1.imp hc fun r _ hk1=>⟨by simp only[Gh.lend];split;rfl;exact hk1,rfl⟩)
theorem Bo.lend{G:Gh}{m:AMem}{w:World}{p:Nat->Prop}[DecidablePred p](hm:RelM G m w)(hp:∀b,p b↔∃k sz,G.bx k=some (b,sz)){x y:AV}{v:Value}(hb:Bo m.box x y)(h:RV G w x v):RV (G.lend p) w y v:=by
 have hpb:∀b,p b->G.kind b=.box:=fun b hb=>by
  obtain⟨k,sz,h⟩:=(hp b).1 hb;exact(hm.blt h).2
 cases hb with
 | same ho=>exact h.lend hpb ho
 | @msl k sz es hk =>
  letI:DecidablePred (fun _:Nat=>False):=fun _=>Classical.propDecidable _
  generalize hx:(AV.msl k 0 es.length sz)=x at h;have h':=h
  cases h with
  | @msl k' off n b sz' cap h1 h2 h3 =>
   cases hx;have hw:RV (G.weak (fun _=>False) (some b) G.nt) w (.d (.sl sz es)) (.slice (some ⟨b,0*sz,none⟩) es.length cap):=by
    refine RV.to (q:=fun _=>True) (fz:=some (k,sz,es)) hm (fun j hj=>by cases hj;exact(hm.blt h1).2) ?_ ?_ h' (.frz rfl) (fun t _ ht=>ht)
    .intro k2 sz2 es2 e;cases e;obtain⟨_,cs,e',_,hs,_⟩:=hm.box k (rowsD es) b sz hk h1;refine⟨rowsD es,hk,by simp,hs,fun i g1 g2=>?_⟩;have:(rowsD es)[i]=(es[i]).map AV.d:=by simp[rowsD]
     rw[this];exact toDs_map _
    .intro k2 sz2 es2 e j s hj;cases e;rw[h1] at hj;cases hj;rfl
   cases hw with
   | d hd =>
    refine .d (hd.mono fun a u h4 h5=>⟨?_,h5⟩);unfold Gh.ps at h4 ⊢;simp only[Gh.weak,Gh.lend] at h4 ⊢;by_cases e:p a.block
    .simp[e]
    .simp only[e,↓reduceIte];have hne:¬(some b=some a.block):=fun e2=>e ((hp _).2 ⟨k,sz,by cases e2;exact h1⟩)
     simp only[hne,↓reduceIte] at h4;exact h4
  | _=>cases hx
theorem BoL.lend{G:Gh}{m:AMem}{w:World}{p:Nat->Prop}[DecidablePred p](hm:RelM G m w)(hp:∀b,p b↔∃k sz,G.bx k=some (b,sz)):∀{xs ys:List AV} {vs:List Value},BoL m.box xs ys->RVs G w xs vs->RVs (G.lend p) w ys vs
 | [],[],vs,_,h=>⟨by have:=h.1;simpa using this,fun i h=>by simp at h⟩
 | x::a,y::b,vs,hb,h=>by
  obtain⟨v,us,rfl,h1,h2⟩:=h.uncons;exact RVs.cons (hb.1.lend hm hp h1) (BoL.lend hm hp hb.2 h2)
 | [],_::_,_,h,_=>h.elim
 | _::_,[],_,h,_=>h.elim
theorem RCall.lent{f:FuncId}{args args':List AV}{box:Bxs}{tok:Nat->Bool}{nt:Nat}{u:Value}{tok':Nat->Bool}{nt':Nat}(hu:u.oneCell'=true)(h:DCall P f args' tok nt (.d (.raw u)) tok' nt')(hb:BoL box args args'):RCall P f args box tok nt (.d (.raw u)) tok' nt':=by
 classical
 intro box' nb hext;have hb':=hb.ext hext
 obtain⟨hen,hc⟩:=h (fun _=>none) nb;refine⟨hen,fun G w vals hm hr=>?_⟩
 let p:Nat->Prop:=fun b=>∃k sz,G.bx k=some (b,sz)
 have hp:∀b,p b↔∃k sz,G.bx k=some (b,sz):=fun b=>Iff.rfl
 have hpb:∀b,p b->b<w.heap.size/\G.kind b=.box:=fun b ⟨k,sz,hk⟩=>hm.blt hk
 have htk:∀t g,G.tk t=some (some g)->¬p g:=fun t g ht hpg=>by
  obtain⟨f',cur,e,h1,_⟩:=hm.tokb t g ht;rw[(hpb g hpg).2] at h1;rcases h1 with ⟨h1,_⟩|h1<;>cases h1
 have hm1:RelM (G.lend p) ⟨fun _=>none,nb,tok,nt⟩ w:=by
  constructor
  case box=>intro k rows b sz h1;cases h1
  case nobox=>intro k _;rfl
  case inj=>intro k k' b sz sz' h1;cases h1
  case nb=>intro k _;rfl
  case nt=>exact hm.nt
  case toks=>exact hm.toks
  case tokb =>
   intro t g ht;obtain⟨f',cur,e,h1,h2⟩:=hm.tokb t g ht;refine⟨f',cur,e,?_,h2⟩;simp only[Gh.lend];rw[if_neg (htk t g ht)];exact h1
  case tinj=>exact hm.tinj
  case tnt=>exact hm.tnt
  case glob=>exact hm.glob.mono fun a u h1 h2=>⟨lend_ps h1,h2⟩
  case fresh =>
   intro b hb1;simp only[Gh.lend];split
   .rfl
   .exact hm.fresh b hb1
 refine Calls.mono (hc (G.lend p) w vals hm1 (hb'.lend hm hp hr)) ?_;rintro e w' ⟨v,av,m',G1,rfl,⟨rfl,rfl⟩,h3,h4,h5,h6,h7⟩;have hv:v=u:=by cases h5 with|d h=>cases h;rfl
 subst hv;have hkeep:∀b,p b->G1.kind b=.whole/\w'.heap[b]?=w.heap[b]?:=fun b hb1=>h6.whole b (hpb b hb1).1 (by simp[Gh.lend,hb1])
 let G2:Gh:={ bx:=G.bx,kind:=fun b=>if p b then .box else G1.kind b,tk:=G1.tk,nt:=G1.nt }
 have hle:Le G w G2 w':=by
  refine⟨h6.os,h6.tape,h6.output,h6.size,fun b hb1 hk=>?_,fun b f' c hk=>?_,fun _ _ h=>h,h6.nt,fun t ht=>?_,?_⟩
  .have hn:¬p b:=fun e=>by rw[(hpb b e).2] at hk;cases hk
   obtain⟨a1,a2⟩:=h6.whole b hb1 (by simp only[Gh.lend];rw[if_neg hn];exact hk);exact⟨by simp only[G2];rw[if_neg hn];exact a1,a2⟩
  .have hn:¬p b:=fun e=>by rw[(hpb b e).2] at hk;cases hk
   obtain⟨⟨f2,a1,a2⟩,a3⟩:=h6.part b f' c (by simp only[Gh.lend];rw[if_neg hn];exact hk);exact⟨⟨f2,a1,by simp only[G2];rw[if_neg hn];exact a2⟩,a3⟩
  .rcases h6.tk t ht with a1|⟨a1,a2⟩
   .exact .inl a1
   .refine .inr ⟨a1,fun g hg=>?_⟩;have hn:=htk t g hg;obtain⟨b1,b2⟩:=a2 g hg;simp only[Gh.lend] at b1 b2;rw[if_neg hn] at b1 b2;exact⟨by simp only[G2];rw[if_neg hn];exact b1,b2⟩
  .exact h6.ty
 refine⟨v,_,_,G2,rfl,⟨rfl,rfl⟩,rfl,?_,.d (.raw hu),hle,fun k hk=>⟨hk,rfl⟩⟩;constructor
 case box =>
  intro k rows b sz hk hb1;obtain⟨g1,cs,e,g2,g3,g4,g5⟩:=hm.box k rows b sz hk hb1;have hpk:p b:=⟨k,sz,hb1⟩
  exact⟨by simp[G2,hpk],cs,e,(hkeep b hpk).2.trans g2,g3,g4.mono hle,g5⟩
 case nobox=>exact hm.nobox
 case inj=>exact hm.inj
 case nb=>exact hm.nb
 case nt=>exact h4.nt
 case toks=>exact h4.toks
 case tokb =>
  intro t g ht;obtain⟨f',cur,e,g1,g2⟩:=h4.tokb t g ht;refine⟨f',cur,e,?_,g2⟩;have hn:¬p g:=fun hpg=>by
   rw[(hkeep g hpg).1] at g1;rcases g1 with ⟨g1,_⟩|g1<;>cases g1
  simp only[G2];rw[if_neg hn];exact g1
 case tinj=>exact h4.tinj
 case tnt=>exact h4.tnt
 case glob=>exact hm.glob.mono hle.cells
 case fresh =>
  intro b hb1;have:=h6.size
  have hn:¬p b:=fun hpb1=>by have:=(hpb b hpb1).1;omega
  simp only[G2];rw[if_neg hn];exact h4.fresh b hb1
open Go Go.Proofs Go.RowKit
open Go.Proofs.Tryz
def imgK(n:Nat)(by' m:List Int):Nat->List Int
 | 0=>List.replicate n (-1)
 | i+1=>(imgK n by' m i).set (by'.getD i 0).toNat (m.getD i 0)
def wantX(p:Gr)(N:List Int)(i:Nat):E:=⟨(p.edges.getD i default).ty,N.getD (p.edges.getD i default).fr.toNat 0,N.getD (p.edges.getD i default).to.toNat 0⟩
def edgeB(p g:Gr)(acc:Mo->Bool)(N:List Int):Nat->List Int->Bool
 | 0,Es=>acc ⟨N,Es⟩
 | n+1,Es=>if 0<=Es.getD (p.edges.length-(n+1)) 0 then edgeB p g acc N n Es
  else (List.range g.edges.length).any fun k=>decide (g.edges.getD k default=wantX p N (p.edges.length-(n+1)))&&!decide ((k:Int)∈Es)&&edgeB p g acc N n (Es.set (p.edges.length-(n+1)) k)
abbrev exRow(p g:Gr)(kn n ke m:Nat)(f:FuncId)(caps:List AV):List AV:=[.d (ints p.nodes),.d (AM.edges p.edges),.d (ints g.nodes),.d (AM.edges g.edges),.msl kn 0 n 1,.msl ke 0 m 1,.fn (.func f) caps]
structure ExH (p g:Gr) (f:FuncId) (caps:List AV) (kx kn ke:Nat) (E0:Bxs) (N Es:List Int) (box:Bxs):Prop where
 ext:Ext E0 box
 x:box kx=some [exRow p g kn p.nodes.length ke p.edges.length f caps]
 n:box kn=some (rowsI N)
 e:box ke=some (rowsI Es)
 nl:N.length=p.nodes.length
 el:Es.length=p.edges.length
theorem ExH.lb{p g:Gr}{f:FuncId}{caps:List AV}{kx kn ke nb:Nat}{E0:Bxs}{N Es:List Int}{box:Bxs}(h:ExH p g f caps kx kn ke E0 N Es box)(hb:lb nb box []=box)(loc:List (Nat × List (List AV))):
  ExH p g f caps kx kn ke E0 N Es (AM.lb nb box loc) :=
 ⟨Ext.lb h.ext hb loc,by rw[lO (key_lt hb h.x)];exact h.x,by rw[lO (key_lt hb h.n)];exact h.n,by rw[lO (key_lt hb h.e)];exact h.e,h.nl,h.el⟩
def NonN(l:List Int)(i:Nat):Prop:=∀j,j<i->0<=l.getD j 0
theorem NonN.succ{l:List Int}{i:Nat}(h:NonN l i)(hi:i<l.length)(h0:0<=l[i]):NonN l (i+1):=fun j hj=>by
 by_cases e:j=i
 .subst e;simpa[hi] using h0
 .exact h j (by omega)
theorem NonN.set{l:List Int}{i:Nat}(h:NonN l i)(hi:i<l.length)(k:Nat):NonN (l.set i k) (i+1):=fun j hj=>by
 by_cases e:j=i
 .subst e;simp[hi]
 .have:=h j (by omega)
  simpa[List.getD,List.getElem?_set,Ne.symm e] using this
theorem NonN.all{l:List Int}{i:Nat}(h:NonN l i)(hi:i=l.length):∀x∈l,0<=x:=fun x hx=>by
 obtain⟨j,hj,rfl⟩:=List.getElem_of_mem hx;have:=h j (by omega)
 simpa[hj] using this
def nodeB(p g:Gr)(acc:Mo->Bool)(Es:List Int):Nat->List Int->Bool
 | 0,N=>edgeB p g acc N p.edges.length Es
 | n+1,N=>if 0<=N.getD (p.nodes.length-(n+1)) 0 then nodeB p g acc Es n N
  else (List.range g.nodes.length).any fun k=>decide (g.nodes.getD k 0=p.nodes.getD (p.nodes.length-(n+1)) 0)&&!decide ((k:Int)∈N)&&nodeB p g acc Es n (N.set (p.nodes.length-(n+1)) k)
inductive Cd.Fit:Cd->Prop
 | mk {c:Cd} (hk:c.kids.length<=kidN) (hm:c.m.Fit) (hg:c.g.Fit) (hs:c.sl.length<=bigN) (ht:c.te.length<=bigN) (h:∀x∈c.kids,Cd.Fit x):Cd.Fit c
theorem Cd.Fit.kids{c:Cd}(h:c.Fit):c.kids.length<=kidN:=by cases h;assumption
theorem Cd.Fit.kid{c:Cd}(h:c.Fit):∀x∈c.kids,Cd.Fit x:=by cases h;assumption
theorem Cd.Fit.m{c:Cd}(h:c.Fit):c.m.Fit:=by cases h;assumption
theorem Cd.Fit.g{c:Cd}(h:c.Fit):c.g.Fit:=by cases h;assumption
def holStep(k:Int)(mm:Mo)(p g:Gr)(m:Mo)(bs:Mo->List Bool):Bool :=
 if k=2 then !((bs m).headD false) else if k=3 then (bs m).all id else if k=4 then (bs m).any id
 else if k=5 then nodeB p g (fun q=>(bs q).headD false) (imgK p.edges.length mm.edges m.edges mm.edges.length) p.nodes.length (imgK p.nodes.length mm.nodes m.nodes mm.nodes.length)
 else true
mutual
def Cd.hol:Cd->Gr->Mo->Bool
 | .mk k c mm p s v t,g,m=>holStep k mm p g m (fun q=>Cd.holL c g q)
def Cd.holL:List Cd->Gr->Mo->List Bool
 | [],_,_=>[]
 | x::r,g,m=>Cd.hol x g m::Cd.holL r g m
end
theorem ThR.nil{t k sz:Nat}{es:List (List D)}:ThR t k sz es [] []:=⟨rfl,fun i h=>by simp at h⟩
theorem ThR.cons{t k sz:Nat}{es:List (List D)}{x y:AV}{r r':List AV}(h:ThTo t k sz es x y)(hr:ThR t k sz es r r'):ThR t k sz es (x::r) (y::r'):=by
 refine⟨by simp[hr.1],fun i h1 h2=>?_⟩
 match i with
 | 0=>exact h
 | i+1=>exact hr.2 i (by simpa using h1) (by simpa using h2)
theorem ThRs.one{t k sz:Nat}{es:List (List D)}{r r':List AV}(h:ThR t k sz es r r'):ThRs t k sz es [r] [r']:=by
 refine⟨rfl,fun i h1 h2=>?_⟩
 match i with
 | 0=>exact h
 | i+1=>simp at h1
theorem ThRs.same{t k sz:Nat}{es:List (List D)}{r:List (List AV)}:ThRs t k sz es r r:=⟨rfl,fun i h1 h2=>⟨rfl,fun j g1 g2=>.same⟩⟩
structure Inn (m:Mo) (a b:Gr):Prop where
 ln:m.nodes.length=a.nodes.length
 le:m.edges.length=a.edges.length
 n:∀x∈m.nodes,0<=x/\x<b.nodes.length
 e:∀x∈m.edges,0<=x/\x<b.edges.length
theorem Inn.of{a b:Gr}{m:Mo}(h:validM a b m=0):Inn m a b:=have V:=validM_VM h;⟨V.ln,V.le,V.n,V.e⟩
abbrev St2:=Int × Int
def cdOf(k:Int)(kids:List Cd):Cd:=.mk k kids ⟨[],[]⟩ ⟨[],[]⟩ [] 0 []
theorem nodup_getD{l:List Int}:l.Nodup↔∀i j,i<j->j<l.length->l.getD i 0≠l.getD j 0:=by
 unfold List.Nodup;rw[List.pairwise_iff_getElem];constructor
 .intro h i j hij hj;have:=h i j (by omega) hj hij
  simpa[hj,show i<l.length by omega] using this
 .intro h i j hi hj hij;have:=h i j hij hj
  simpa[hi,hj] using this
structure Emb (a b:Gr) (m:Mo):Prop where
 v:validM a b m=0
 n:m.nodes.Nodup
 e:m.edges.Nodup
theorem Emb.vm{a b:Gr}{m:Mo}(h:Emb a b m):VM a b m:=validM_VM h.v
theorem Emb.inj{a b:Gr}{m:Mo}(h:Emb a b m):injM a b m=true:=(injM_iff a b m).2 ⟨h.v,h.n,h.e⟩
theorem Emb.of{a b:Gr}{m:Mo}(h:injM a b m=true):Emb a b m:=have h:=(injM_iff a b m).1 h;⟨h.1,h.2.1,h.2.2⟩
theorem byK_all(l h:List Int):(byK l h l.length).length=l.length:=by simp
theorem byK_getD{l h:List Int}{i:Nat}(hi:i<l.length):(byK l h l.length).getD i 0=h.getD (l.getD i 0).toNat 0:=by simp[byK,hi]
theorem nat_of{x:Int}{n:Nat}(h:0<=x/\x<n):x.toNat<n/\((x.toNat:Nat):Int)=x:=by omega
theorem byK_nodup{l h:List Int}{n:Nat}(hl:l.Nodup)(hh:h.Nodup)(hr:∀x∈l,0<=x/\x<h.length):(byK l h l.length).Nodup:=by
 rw[nodup_getD];intro i j hij hj;rw[byK_all] at hj;rw[byK_getD (by omega),byK_getD hj];intro e;have h1:=hr _ (getD_mem (d:=0) (show i<l.length by omega));have h2:=hr _ (getD_mem (d:=0) hj);have:=getD_inj hh (by omega) (by omega) e
 have:=getD_inj hl (show i<l.length by omega) hj (by omega)
 omega
theorem Emb.comp{a b c:Gr}{m n:Mo}(h:Emb a b m)(k:Emb b c n):Emb a c (thenM m n):=by
 have v:=h.vm;have w:=k.vm;have rn:∀x∈m.nodes,0<=x/\x<n.nodes.length:=fun x hx=>by rw[w.ln];exact v.n x hx
 have re:∀x∈m.edges,0<=x/\x<n.edges.length:=fun x hx=>by rw[w.le];exact v.e x hx
 have gn:∀i,i<a.nodes.length->(thenM m n).nodes.getD i 0=n.nodes.getD (m.nodes.getD i 0).toNat 0:=fun i hi=>byK_getD (by rw[v.ln];exact hi)
 have ge:∀i,i<a.edges.length->(thenM m n).edges.getD i 0=n.edges.getD (m.edges.getD i 0).toNat 0:=fun i hi=>byK_getD (by rw[v.le];exact hi)
 refine⟨validM_of ⟨v.va,w.vb,by rw[<-v.ln];exact byK_all _ _,by rw[<-v.le];exact byK_all _ _,fun x hx=>?_,fun x hx=>?_,fun i hi=>?_,fun i hi=>?_⟩,byK_nodup (n:=0) h.n k.n rn,byK_nodup (n:=0) h.e k.e re⟩
 .obtain⟨i,hi,rfl⟩:=mem_getD hx;have hi':i<a.nodes.length:=by rw[<-v.ln];simpa[thenM] using hi
  rw[gn i hi'];exact w.n _ (getD_mem (nat_of (rn _ (getD_mem (by rw[v.ln];exact hi')))).1)
 .obtain⟨i,hi,rfl⟩:=mem_getD hx;have hi':i<a.edges.length:=by rw[<-v.le];simpa[thenM] using hi
  rw[ge i hi'];exact w.e _ (getD_mem (nat_of (re _ (getD_mem (by rw[v.le];exact hi')))).1)
 .rw[gn i hi];have h1:=nat_of (v.n _ (getD_mem (d:=0) (show i<m.nodes.length by rw[v.ln];exact hi)));rw[w.nt _ h1.1,v.nt i hi]
 .rw[ge i hi];have h1:=nat_of (v.e _ (getD_mem (d:=0) (show i<m.edges.length by rw[v.le];exact hi)));rw[w.et _ h1.1,v.et i hi];have hx:=validG_edges v.va (a.edges.getD i default) (getD_mem hi);simp only;rw[gn _ (by omega),gn _ (by omega)]
section
variable {α:Type} {f:α->St2->List Cd × St2} (hs:∀x s,(f x s).2.2=0->s.2=0)
include hs
end
def up(k:Int)(s:St2):St2:=(s.1+k,s.2)
theorem nodup_iota(n:Nat):(iota n).Nodup:=by
 rw[nodup_getD];intro i j hij hj;rw[iota_length] at hj;rw[iota_getD (by omega),iota_getD hj];omega
theorem mem_iota{x:Int}{n:Nat}(h:x∈iota n):0<=x/\x<n:=by
 obtain⟨i,hi,rfl⟩:=List.mem_map.1 h;have:=List.mem_range.1 hi
 omega
structure Pre (a b:Gr):Prop where
 va:vG a=0
 vb:vG b=0
 n:∃t,b.nodes=a.nodes++t
 e:∃t,b.edges=a.edges++t
theorem Pre.emb{a b:Gr}(h:Pre a b):Emb a b (idM a):=by
 obtain⟨t,ht⟩:=h.n;obtain⟨u,hu⟩:=h.e;have ea:=validG_edges h.va;refine⟨validM_of ⟨h.va,h.vb,by simp[idM],by simp[idM],fun x hx=>?_,fun x hx=>?_,fun i hi=>?_,fun i hi=>?_⟩,nodup_iota _,nodup_iota _⟩
 .have:=mem_iota (show x∈iota a.nodes.length from hx)
  rw[ht];simp only[List.length_append];omega
 .have:=mem_iota (show x∈iota a.edges.length from hx)
  rw[hu];simp only[List.length_append];omega
 .simp only[idM];rw[iota_getD hi,Int.toNat_natCast,ht,getD_pre hi]
 .simp only[idM];have hx:=ea (a.edges.getD i default) (getD_mem hi);rw[iota_getD hi,Int.toNat_natCast,hu,getD_pre hi,iota_getD (by omega),iota_getD (by omega)];rw[Int.toNat_of_nonneg hx.1,Int.toNat_of_nonneg hx.2.2.1]
theorem Pre.refl{a:Gr}(h:vG a=0):Pre a a:=⟨h,h,⟨[],by simp⟩,⟨[],by simp⟩⟩
def ascAt(l:List Int)(n:Int)(i:Nat):Int:=if l.getD i 0<0∨n<=l.getD i 0 then 6 else if 0<i/\l.getD i 0<=l.getD (i-1) 0 then 12 else 0
def ascE(l:List Int)(n:Int):Int:=firstE (ascAt l n) l.length
def dangAt(g:Gr)(p:Mo)(i:Nat):Int:=if (g.edges.getD (p.edges.getD i 0).toNat default).fr∈p.nodes/\(g.edges.getD (p.edges.getD i 0).toNat default).to∈p.nodes then 0 else 14
def rightP(g:Gr)(p:Mo):Int :=
 if ascE p.nodes g.nodes.length≠0 then ascE p.nodes g.nodes.length else if ascE p.edges g.edges.length≠0 then ascE p.edges g.edges.length else firstE (dangAt g p) p.edges.length
def validP(g:Gr)(p:Mo):Int:=if vG g≠0 then vG g else rightP g p
theorem asc_lt{l:List Int}{n:Int}(h:ascE l n=0):∀j i,i<j->j<l.length->l.getD i 0<l.getD j 0
 | 0,i,hi,_=>absurd hi (Nat.not_lt_zero _)
 | j+1,i,hi,hj=>by
  have h1:=firstE_all _ h (j+1) hj;unfold ascAt at h1;split at h1
  .cases h1
  .split at h1
   .cases h1
   .rename_i h3;have h4:l.getD j 0<l.getD (j+1) 0:=by
     have:j+1-1=j:=rfl
     rw[this] at h3;omega
    by_cases e:i=j
    .subst e;exact h4
    .have:=asc_lt h j i (by omega) (by omega)
     omega
theorem asc_rng{l:List Int}{n:Int}(h:ascE l n=0):∀x∈l,0<=x/\x<n:=fun x hx=>by
 obtain⟨i,hi,rfl⟩:=mem_getD hx;have h1:=firstE_all _ h i hi;unfold ascAt at h1;split at h1
 .cases h1
 .omega
theorem asc_of{l:List Int}{n:Int}(h1:∀x∈l,0<=x/\x<n)(h2:∀j i,i<j->j<l.length->l.getD i 0<l.getD j 0):ascE l n=0:=firstE_zero _ fun i hi=>by
 have r:=h1 _ (getD_mem (d:=0) hi);unfold ascAt;rw[if_neg (by omega),if_neg];rintro⟨h3,h4⟩;have:=h2 i (i-1) (by omega) hi
 omega
structure VP (g:Gr) (p:Mo):Prop where
 va:vG g=0
 n:∀x∈p.nodes,0<=x/\x<g.nodes.length
 e:∀x∈p.edges,0<=x/\x<g.edges.length
 sn:∀j i,i<j->j<p.nodes.length->p.nodes.getD i 0<p.nodes.getD j 0
 se:∀j i,i<j->j<p.edges.length->p.edges.getD i 0<p.edges.getD j 0
 c:∀x∈p.edges,(g.edges.getD x.toNat default).fr∈p.nodes/\(g.edges.getD x.toNat default).to∈p.nodes
theorem VP.of{g:Gr}{p:Mo}(h:validP g p=0):VP g p:=by
 unfold validP at h;split at h
 .contradiction
 .rename_i h1;unfold rightP at h;split at h
  .contradiction
  .rename_i h2;split at h
   .contradiction
   .rename_i h3;have h2':=Decidable.not_not.1 h2
    have h3':=Decidable.not_not.1 h3
    refine⟨Decidable.not_not.1 h1,asc_rng h2',asc_rng h3',asc_lt h2',asc_lt h3',fun x hx=>?_⟩;obtain⟨i,hi,rfl⟩:=mem_getD hx;have h4:=firstE_all _ h i hi;unfold dangAt at h4;split at h4
    .assumption
    .cases h4
theorem VP.v{g:Gr}{p:Mo}(h:VP g p):validP g p=0:=by
 unfold validP rightP;rw[if_neg (by simp[h.va]),if_neg (by simp[asc_of h.n h.sn]),if_neg (by simp[asc_of h.e h.se])];refine firstE_zero _ fun i hi=>?_
 unfold dangAt;rw[if_pos (h.c _ (getD_mem (d:=0) hi))]
theorem nodup_of_lt{l:List Int}(h:∀j i,i<j->j<l.length->l.getD i 0<l.getD j 0):l.Nodup:=by
 rw[nodup_getD];intro i j hij hj e;have:=h j i hij hj
 omega
theorem len_of{l:List Int}{n:Nat}(h:l.Nodup)(hr:∀x∈l,0<=x/\x<n):l.length<=n:=by
 have:=nodup_le l (iota n) h fun x hx=>by
  have:=hr x hx
  simp only[iota,List.mem_map,List.mem_range];exact⟨x.toNat,by omega,by omega⟩
 simpa[iota] using this
theorem VP.len{g:Gr}{p:Mo}(h:VP g p):p.nodes.length<=g.nodes.length/\p.edges.length<=g.edges.length:=⟨len_of (nodup_of_lt h.sn) h.n,len_of (nodup_of_lt h.se) h.e⟩
def exE1(g:Gr)(p:Mo)(k:Int):E:=⟨(g.edges.getD k.toNat default).ty,indexI p.nodes (g.edges.getD k.toNat default).fr,indexI p.nodes (g.edges.getD k.toNat default).to⟩
def exG(g:Gr)(p:Mo):Gr:=⟨p.nodes.map fun k=>g.nodes.getD k.toNat 0,p.edges.map (exE1 g p)⟩
theorem indexI_in{l:List Int}{x:Int}(h:x∈l):0<=indexI l x/\indexI l x<l.length/\l.getD (indexI l x).toNat 0=x:=by
 rcases indexI_spec l x with ⟨_,hn⟩|⟨k,h2,h3,h4⟩
 .exact absurd h hn
 .rw[h2];exact⟨by omega,by omega,h4⟩
theorem indexI_gd{l:List Int}(hl:l.Nodup){i:Nat}(h:i<l.length):indexI l (l.getD i 0)=i:=by
 obtain⟨h1,h2,h3⟩:=indexI_in (getD_mem (d:=0) h);have:=getD_inj hl (show (indexI l (l.getD i 0)).toNat<l.length by omega) h h3
 omega
theorem VP.emb{g:Gr}{p:Mo}(h:VP g p):Emb (exG g p) g p:=by
 have hl:=h.len;obtain⟨hs,ht,he⟩:=validG_types h.va;have hv:vG (exG g p)=0:=by
  refine validG_of (by simp only[exG,List.length_map];omega) (fun n hn=>?_) fun e hx=>?_
  .simp only[exG,List.mem_map] at hn;obtain⟨k,hk,rfl⟩:=hn;have:=h.n k hk
   exact ht _ (getD_mem (by omega))
  .simp only[exG,List.mem_map] at hx;obtain⟨k,hk,rfl⟩:=hx;have h1:=h.e k hk;have h2:=h.c k hk;have h3:=(fitsB_iff _ _).1 (he _ (getD_mem (d:=default) (show k.toNat<g.edges.length by omega)));have i1:=indexI_in h2.1;have i2:=indexI_in h2.2;rw[fitsB_iff];simp only[exE1,exG,List.length_map];exact⟨h3.1,⟨i1.1,i1.2.1⟩,⟨i2.1,i2.2.1⟩⟩
 refine⟨validM_of ⟨hv,h.va,by simp[exG],by simp[exG],h.n,h.e,fun i hi=>?_,fun i hi=>?_⟩,nodup_of_lt h.sn,nodup_of_lt h.se⟩
 .have hi':i<p.nodes.length:=by simpa[exG] using hi
  simp[exG,hi']
 .have hi':i<p.edges.length:=by simpa[exG] using hi
  have e1:(exG g p).edges.getD i default=exE1 g p (p.edges.getD i 0):=by simp[exG,hi']
  have h2:=h.c _ (getD_mem (d:=0) hi');rw[e1];simp only[exE1];rw[(indexI_in h2.1).2.2,(indexI_in h2.2).2.2]
def liftM(q h:Mo):Mo:=⟨h.nodes.map (indexI q.nodes),h.edges.map (indexI q.edges)⟩
def ascL(l:List Int)(n:Nat):List Int:=((List.range n).filter fun (k:Nat)=>decide ((k:Int)∈l)).map fun (k:Nat)=>(k:Int)
def imgP(y:Gr)(q:Mo):Mo:=⟨ascL q.nodes y.nodes.length,ascL q.edges y.edges.length⟩
def goneI(images keep:List Int):List Int:=((List.range images.length).filter fun (i:Nat)=>decide ((i:Int)∉keep)).map fun (i:Nat)=>images.getD i 0
def restI(n:Nat)(images keep:List Int):List Int:=((List.range n).filter fun (k:Nat)=>decide ((k:Int)∉goneI images keep)).map fun (k:Nat)=>(k:Int)
def cmpl(g:Gr)(keep m:Mo):Mo:=⟨restI g.nodes.length m.nodes keep.nodes,restI g.edges.length m.edges keep.edges⟩
end Go.AM
