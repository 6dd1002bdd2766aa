import Derived.Test.YtchfmhhbiealcaaGreatDoorPIB7
import Derived.Sort.EveryDepth
import Derived.Shelf.Small.Strs
import Derived.Shelf.Strings.Search1
import Derived.Shelf.Slices.Reverse
import Derived.Ground.Names2Prog
import Derived.Test.YtchfmhhbiealcaaGreatDoorProg
import Derived.Laws.Strings
import Derived.WideShapes
set_option linter.unusedSimpArgs false
set_option linter.unusedVariables false
namespace Go.Proofs.YtchfmhhbiealcaaGreatDoor.values
open Go Go.Proofs Go.RowKit Go.Shelf Go.Sort
open Go.Proofs.Tryz
theorem aDH(a:Option Addr)(len cap:Nat)(w:World):
  Calls prog 215 #[.slice a len cap] w fun e w'=>e=.returned (.func (.func 270) #[] #[.pointer (some ⟨w.heap.size,0,none⟩)])/\w'=w.alloc (.cells #[.slice a len cap] 37) :=
 calls_of_every_depth (L:=[215]) (n:=0) fun D=>aGH (Fence.list [215] (some D)) 0 (by simp[Fence.list]) rfl a len cap w
set_option maxRecDepth 100000 in
set_option maxHeartbeats 2000000 in
theorem aAL(Bs:Nat)(sv:Value)(zs:List Int)(hlen:zs.length<=maxLen)(hbytes:zs.length*8<=140737488351232)(w:World)(hBs:Bs<w.heap.size)(hc:w.cell? ⟨Bs,0,none⟩=some sv)(hI:aBV w.heap.size w sv zs):
  Calls prog 269 #[.func (.func 270) #[] #[.pointer (some ⟨Bs,0,none⟩)]] w fun e W'=>∃v,e=.returned v/\W'.ownsRow w.heap.size 3 1 v zs.length (zs.map (Value.int .i64))/\(v=.slice none 0 0↔zs=[])/\Below w.heap.size w W':=by
 have hap:Calls prog 305 #[.slice none 0 0,.func (.func 270) #[] #[.pointer (some ⟨Bs,0,none⟩)]] w fun e W'=>∃v,e=.returned v/\W'.ownsRow w.heap.size 3 1 v zs.length (zs.map (Value.int .i64))/\(v=.slice none 0 0↔zs=[])/\Below w.heap.size w W' :=
  calls_of_every_depth (L:=[305,270]) (n:=3) fun D=>aBe (Fence.list [305,270] (some D)) 3 (by simp[Fence.list]) (by simp[Fence.list]) rfl (by decide) Bs sv zs hlen hbytes w hBs hc hI
 go_enter func269,ntmps269
 go_wp2_with (go_at_call 305;refine hap.mono ?_;rintro e w1 ⟨v1,rfl,hown,hnn,hbel⟩)
 go_ret
 exact⟨_,rfl,hown,hnn,hbel⟩
set_option maxRecDepth 100000 in
set_option maxHeartbeats 2000000 in
theorem aJu(Bs:Nat)(sv:Value)(zs:List Int)(hlen:zs.length<=maxLen)(hbytes:zs.length*8<=140737488351232)(w:World)(hBs:Bs<w.heap.size)(hc:w.cell? ⟨Bs,0,none⟩=some sv)(hI:aBV w.heap.size w sv zs)(hne:zs≠[]):
    Calls prog 214 #[.func (.func 270) #[] #[.pointer (some ⟨Bs,0,none⟩)]] w fun e W'=>∃g cap,e=.returned (.slice (some ⟨g,0,none⟩) zs.length cap)/\w.heap.size<=g/\g<W'.heap.size/\zs.length<=cap/\cap<=maxLen /\
      W'.ownsRow w.heap.size 3 1 (.slice (some ⟨g,0,none⟩) zs.length cap) zs.length ((zs.mergeSort fun x y=>decide (x<=y)).map (Value.int .i64))/\Below w.heap.size w W':=by
  have hcol:=aAL Bs sv zs hlen hbytes w hBs hc hI;clear hc hI
  go_enter func214,ntmps214
  go_wp2_with (first
    | (go_at_call 269;refine hcol.mono ?_;rintro e w1 ⟨v1,rfl,hown,hnn,hbel⟩
       have hown':=hown
       obtain⟨g,cap,rfl,hbg,hgl,hncap,hcm,hlen2,hH⟩:=Lib.holds_of_ownsRow hown (fun h=>hne (hnn.1 h));have hsort:=Tryz.slices_Sort_int g 0 cap zs w1 hH hgl (by unfold maxLen at hlen;omega);have X:Aside (w1.ownsRow w.heap.size 3 1 (.slice (some ⟨g,0,none⟩) zs.length cap) zs.length (zs.map (Value.int .i64))/\Below w.heap.size w w1/\w.heap.size<=g/\g<w1.heap.size/\zs.length<=cap/\cap<=maxLen):=⟨hown',hbel,hbg,hgl,hncap,hcm⟩
       clear hown hown' hbel hH hnn)
    | (go_at_call 205;refine hsort.mono ?_;rintro e w2 ⟨rfl,nn,os,rfl⟩))
  go_ret
  obtain⟨x1,x2,x3,x4,x5,x6⟩:=X.out;rcases x1.2 with ⟨e0,_⟩|⟨g',cap',cur,hv,hbase,hb,h1,h2,h3,h4⟩
  . cases e0
  cases hv;exact⟨g,cap,rfl,x3,by simp[grow,putRow,mapBlock,Sort.ahead];omega,x5,x6,ownsRow_sortedI (by simp) hbase hb h1 h2 h3,x2.grown (grownBy_sortedI _) x2.size (fun j hj=>by cases hj;exact hbase)⟩
set_option maxRecDepth 100000 in
set_option maxHeartbeats 2000000 in
theorem aBR(Bs:Nat)(sv:Value)(w:World)(hBs:Bs<w.heap.size)(hc:w.cell? ⟨Bs,0,none⟩=some sv)(hI:aBV w.heap.size w sv []):
  Calls prog 214 #[.func (.func 270) #[] #[.pointer (some ⟨Bs,0,none⟩)]] w fun e W'=>e=.returned (.slice none 0 0)/\Below w.heap.size w W':=by
 have hcol:=aAL Bs sv [] (by simp) (by simp) w hBs hc hI;clear hc hI
 go_enter func214,ntmps214
 go_wp2_with (first
  | (go_at_call 269;refine hcol.mono ?_;rintro e w1 ⟨v1,rfl,hown,hnn,hbel⟩;obtain rfl:v1=.slice none 0 0:=hnn.2 rfl;clear hown hnn)
  | (go_at_call 205;refine(Tryz.slices_Sort_int_none none 0 _).mono ?_;rintro e w2 ⟨rfl,rfl⟩))
 go_ret
 exact⟨rfl,hbel⟩
end Go.Proofs.YtchfmhhbiealcaaGreatDoor.values
namespace Go.AM
theorem da:type_of% @Bool.false_and:=@Bool.false_and
theorem fq:type_of% @Int.toNat_of_nonneg:=@Int.toNat_of_nonneg
open Go Go.Proofs Go.RowKit
open Go.Proofs.Tryz
theorem nK{G:Gh}{w w':World}{m:bH}(hm:aV G m w){v:Value}{xs:List Int}(h:w'.ownsRow w.heap.size 3 1 v xs.length (xs.map (Value.int .i64))):RVd w'.cell? G.ps (ints xs) v:=by
 rcases h.2 with ⟨rfl,h0⟩|⟨g,cap,cur,rfl,hb,hg,h1,h2,h3,h4⟩
 .obtain rfl:xs=[]:=dj.1 h0;exact .sl (es:=[]) (fun _ _=>default) (nr0 _) (by decide) (by simp) (by simp) (by simp) (by simp)
 .have hl:xs.length=(xs.map fun n=>[D.raw (.int .i64 n)]).length:=by simp
  have j6:∀i,i<xs.length->cur[i]?=some (.int .i64 (xs.getD i 0)):=fun i hi=>by
   have e:(cur.toList.take (xs.length*1))[i]?=(xs.map (Value.int .i64))[i]?:=by rw[h4]
   rw[List.getElem?_take,af (by omega),Array.getElem?_toList,f9,ab hi] at e;rw[e];simp[hi]
  unfold ints
  conv=>rhs;rw[hl]
  refine .sl (fun i _=>.int .i64 (xs.getD i 0)) (by simpa using h1) h2 (fun e he=>?_) (fun _=>⟨_,rfl⟩) (fun a ha i j hi hj=>?_) (fun i j hi hj=>?_)
  .obtain⟨y,_,rfl⟩:=bc.1 he;rfl
  .cases ha;have oe:i<xs.length:=by simpa using hi
   have Ah:j=0:=by omega
   subst Ah;refine⟨?_,?_⟩
   .unfold Gh.ps;have qq:(Addr.add ⟨g,0,none⟩ (i*1+0)).block=g:=by unfold Addr.add;split<;>rfl
    rw[qq,hm.fresh g hb];trivial
   .have ha:Addr.add ⟨g,0,none⟩ (i*1+0)=⟨g,i,none⟩:=by
     unfold Addr.add;split
     .rename_i h0;congr 1;omega
     .simp
    rw[ha];simp only[World.cell?,hg,fe,bu,if_false];exact j6 i oe
  .simp only[br] at hi;simp only[bl,ci,db] at hj ⊢;have Ah:j=0:=by omega
   subst Ah;have e:xs.getD i 0=xs[i]:=by simp[hi]
   simp only[ck,e];exact .raw rfl
end Go.AM
namespace Go.Proofs.YtchfmhhbiealcaaGreatDoor.sorted34
open Go Go.Proofs Go.RowKit Go.Shelf Go.Sort
open Go.Proofs.Tryz
end Go.Proofs.YtchfmhhbiealcaaGreatDoor.sorted34
namespace Go.AM
open Go Go.Proofs Go.RowKit
open Go.Proofs.Tryz
abbrev Ub(n:Int):AV:=.d (.raw (.int .u8 n))
abbrev Sb(s:ByteArray):AV:=.d (.raw (.string s))
def fS(c:Int):Bool:=decide (97<=c/\c<=122∨65<=c/\c<=90)
def eP(c:Int):Bool:=decide (48<=c/\c<=57)
def pR(c:Int):Bool:=fS c||eP c||c==95
def aK(s:ByteArray)(i:Nat):Int:=(s.data.toList.getD i 0).toNat
theorem aC5(c:Int):DC 315 [Ub c] (B (fS c)):=by
 intro tok nt box nb;by_cases h1:97<=c
 .by_cases h2:c<=122
  .refine sI func315 ntmps315 fun Hb Ht=>?_
   repeat first|simp[h1,h2]|refine sR ?_
   refine sT (sH ?_);simp[fS,h1,h2]
  .have h3:¬c<=90:=by omega
   have h4:65<=c:=by omega
   refine sI func315 ntmps315 fun Hb Ht=>?_
   repeat first|simp[h1,h2,h3,h4]|refine sR ?_
   refine sT (sH ?_);simp[fS,h1,h2,h3,h4]
 .by_cases h3:65<=c
  .by_cases h4:c<=90
   .refine sI func315 ntmps315 fun Hb Ht=>?_
    repeat first|simp[h1,h3,h4]|refine sR ?_
    refine sT (sH ?_);simp[fS,h1,h3,h4]
   .refine sI func315 ntmps315 fun Hb Ht=>?_
    repeat first|simp[h1,h3,h4]|refine sR ?_
    refine sT (sH ?_);simp[fS,h1,h3,h4]
  .refine sI func315 ntmps315 fun Hb Ht=>?_
   repeat first|simp[h1,h3]|refine sR ?_
   refine sT (sH ?_);simp[fS,h1,h3]
theorem aBh(c:Int):DC 318 [Ub c] (B (eP c)):=by
 intro tok nt box nb;by_cases h1:48<=c
 .by_cases h2:c<=57
  .refine sI func318 ntmps318 fun Hb Ht=>?_
   repeat first|simp[h1,h2]|refine sR ?_
   refine sT (sH ?_);simp[eP,h1,h2]
  .refine sI func318 ntmps318 fun Hb Ht=>?_
   repeat first|simp[h1,h2]|refine sR ?_
   refine sT (sH ?_);simp[eP,h1,h2]
 .refine sI func318 ntmps318 fun Hb Ht=>?_
  repeat first|simp[h1]|refine sR ?_
  refine sT (sH ?_);simp[eP,h1]
theorem aKK(c:Int):DC 317 [Ub c] (B (pR c)):=by
 intro tok nt box nb;have h1:=aC5 c;have h2:=aBh c;cases e1:fS c
 .cases e2:eP c
  .rw[e1] at h1;rw[e2] at h2;refine sI func317 ntmps317 fun Hb Ht=>?_
   repeat first|simp|refine sR ?_
   refine sD (h1 _ _) ?_;repeat first|simp|refine sR ?_
   refine sD (h2 _ _) ?_;repeat first|simp|refine sR ?_
   refine sT (sH ?_);simp[pR,e1,e2]
  .rw[e1] at h1;rw[e2] at h2;refine sI func317 ntmps317 fun Hb Ht=>?_
   repeat first|simp|refine sR ?_
   refine sD (h1 _ _) ?_;repeat first|simp|refine sR ?_
   refine sD (h2 _ _) ?_;repeat first|simp|refine sR ?_
   refine sT (sH ?_);simp[pR,e1,e2]
 .rw[e1] at h1;refine sI func317 ntmps317 fun Hb Ht=>?_
  repeat first|simp|refine sR ?_
  refine sD (h1 _ _) ?_;repeat first|simp|refine sR ?_
  refine sT (sH ?_);simp[pR,e1]
def eS(p:Int->Bool)(s:ByteArray)(at':Nat):Nat:=((s.data.toList.drop at').takeWhile fun b=>p (b.toNat:Int)).length
theorem aAf{α:Type}(q:α->Bool)(d:α):∀(l:List α) (i:Nat),i<=l.length->(∀j,j<i->q (l.getD j d)=true)->(i=l.length∨q (l.getD i d)=false)->(l.takeWhile q).length=i
 | [],i,hi,_,_=>by simp at hi;subst hi;rfl
 | x::l,0,_,_,h=>by
  have h2:q x=false:=by simpa using h
  simp[List.takeWhile_cons,h2]
 | x::l,i+1,hi,h1,h2=>by
  have hx:q x=true:=by simpa using h1 0 (by omega)
  have ih:=aAf q d l i (by simpa using hi) (fun j hj=>by simpa using h1 (j+1) (by omega)) (by simpa using h2);simp[List.takeWhile_cons,hx,ih]
theorem nG(s:ByteArray):s.data.toList.length=s.size:=by rw[Array.length_toList];rfl
theorem iL{s:ByteArray}{i:Nat}(h:i<s.size):(s.data[i].toNat:Int)=aK s i:=by
 have h2:i<s.data.toList.length:=by rw[nG];exact h
 rw[aK,ao,ab h2,dx,Array.getElem_toList]
theorem vN{p:Int->Bool}{s:ByteArray}{a i:Nat}(hi:a+i<=s.size)(h1:∀j,j<i->p (aK s (a+j))=true)(h2:a+i=s.size∨p (aK s (a+i))=false):eS p s a=i:=by
 have hl:=nG s;have g:∀j,(s.data.toList.drop a).getD j 0=s.data.toList.getD (a+j) 0:=fun j=>by simp[ao,gr]
 refine aAf _ 0 _ i (by rw[eg];omega) (fun j hj=>?_) ?_
 .rw[g];exact h1 j hj
 .rcases h2 with h2|h2
  .left;rw[eg];omega
  .right;rw[g];exact h2
def aPs(s:ByteArray)(f:FuncId)(nb:Nat)(box:Bxs)(tok:Tks)(nt:Nat)(i:Nat):AS:=⟨tl [(0,Sb s),(1,.fn (.func f) []),(5,I i)],lb nb box [],tok,nt⟩
theorem aIx(s:ByteArray)(f:FuncId)(p:Int->Bool)(hs:s.size<=200000000000000)(tok:Tks)(nt:Nat)(hf:∀c,cZ prog f [Ub c] tok nt (B (p c)) tok nt):cZ prog 316 [Sb s,.fn (.func f) []] tok nt (I (eS p s 0)) tok nt:=by
 intro box nb;refine sI func316 ntmps316 fun Hb Ht=>?_
 repeat first|simp|refine sR ?_
 apply sN;have hc:∀c∈([]:List AV),bF (fun k=>box k≠none) (fun _=>True) c:=by simp
 refine sL (aPs s f nb box tok nt) (fun i=>i<=s.size/\∀j,j<i->p (aK s j)=true) (fun i=>s.size-i) 0 ⟨ai _,by omega⟩ (wM (nr0 _) rfl (by simp[ToL,lk];exact .same (lI hc Hb [] (by simp) rfl _)) trivial) ?_;rintro i S' ⟨hi,ia⟩ hS;simp only[aPs] at hS;subst hS;have hw:=sW (i:=i) (by omega);by_cases hlt:i<s.size
 .have wm:=iL hlt;have hr:=vN (p:=p) (s:=s) (a:=0) (i:=i) (by omega) (fun j hj=>by rw[cd];exact ia j hj);rw[cd,<-wm] at hr;have kj:p (s.data[i].toNat)=true->∀j,j<i+1->p (aK s j)=true:=fun h j hj=>by
   by_cases e:j=i
   .rw[e,<-wm];exact h
   .exact ia j (by omega)
  repeat first|simp[hlt]|refine sR ?_
  refine sD (hf _) ?_;repeat first|simp|refine sR ?_
  generalize (s.data[i].toNat:Int)=c at *;cases e:p c
  .have hr:=hr (.inr e);apply sC;simp;apply sX;simp only[AU,↓reduceIte];repeat first|simp|refine sR ?_
   refine sT (sH ?_);simp[hr]
  .apply sC;simp;repeat first|simp[hw]|refine sR ?_
   apply sE;exact⟨i+1,⟨hlt,kj e⟩,by omega,wM (nr0 _) rfl (by simp[ToL,lk];exact .same (lI hc Hb [] (by simp) rfl _)) trivial⟩
 .have Cj:i=s.size:=by omega
  have hr:=vN (p:=p) (s:=s) (a:=0) (i:=i) (by omega) (fun j hj=>by rw[cd];exact ia j hj) (.inl (by omega));repeat first|simp[hlt]|refine sR ?_|apply sC
  apply sX;simp only[AU,↓reduceIte];repeat first|simp|refine sR ?_
  refine sT (sH ?_);simp[hr]
end Go.AM
namespace Go.Proofs
open Go.Shelf
open Go.Proofs.Tryz
def Tryz.lays137_ren:Go.Shelf.Ren:=⟨fun|137=>321|217=>334|266=>337|n=>n,fun|9=>9|5=>5|3=>3|n=>n,fun|n=>n⟩
theorem Tryz.lays137:Go.Proofs.Lays.n137 prog Tryz.lays137_ren:={
 mixed:=by kernel_rfl
 f137:=func321.trans (congrArg some (by kernel_rfl))
 f217:=func334.trans (congrArg some (by kernel_rfl))
 f266:=func337.trans (congrArg some (by kernel_rfl))
 t3:=underlying3
 a3:=isAgg3
 z3:=sizeOf3
 v3:=zeroValue3
 t5:=underlying5
 a5:=isAgg5
 z5:=sizeOf5
 v5:=zeroValue5
 t9:=underlying9
 a9:=isAgg9
 z9:=sizeOf9
 v9:=zeroValue9 }
open Go.RowKit in
theorem Tryz.strings_IndexByte(s:ByteArray)(c:Int)(w:World):
  Calls prog 321 #[.string s,.int .u8 c] w fun e w'=>e=.returned (.int .i64 (Lib.indexByte s.data.toList c.toNat.toUInt8))/\w'=w:=Any.strings_IndexByte Tryz.lays137 s c w
def Tryz.lays112_ren:Go.Shelf.Ren:=⟨fun|112=>322|n=>n,fun|28=>37|3=>3|4=>4|0=>0|n=>n,fun|n=>n⟩
theorem Tryz.lays112:Go.Proofs.Lays.n112 prog Tryz.lays112_ren:={
 mixed:=by kernel_rfl
 f112:=func322.trans (congrArg some (by kernel_rfl))
 t0:=underlying0
 a0:=isAgg0
 z0:=sizeOf0
 v0:=zeroValue0
 t3:=underlying3
 a3:=isAgg3
 z3:=sizeOf3
 v3:=zeroValue3
 t4:=underlying4
 a4:=isAgg4
 z4:=sizeOf4
 v4:=zeroValue4
 t28:=underlying37
 a28:=isAgg37
 z28:=sizeOf37
 v28:=zeroValue37 }
open Go.RowKit Go.Lib Go.Sort in
theorem Tryz.slices_Reverse_int(blk off cap:Nat)(zs:List Int)(w:World)(hH:Holds (Value.int .i64) w blk off zs.toArray)(hsz:zs.length<=9223372036854775807):
  Calls prog 322 #[.slice (some ⟨blk,off,none⟩) zs.length cap] w fun e w'=>e=.returned (.tuple #[])/\∃n,w'=putRow (Value.int .i64) (Sort.ahead w n) blk off zs.reverse.toArray:=Any.slices_Reverse_int Tryz.lays112 blk off cap zs w hH hsz
open Go.RowKit Go.Lib Go.Sort in
theorem Tryz.slices_Reverse_int_empty(a:Option Addr)(cap:Nat)(w:World):
  Calls prog 322 #[.slice a 0 cap] w fun e w'=>e=.returned (.tuple #[])/\w'=w:=Any.slices_Reverse_int_empty Tryz.lays112 a cap w
end Go.Proofs
namespace Go.AM
open Go Go.Proofs Go.Shelf
open Go.Proofs.Tryz
theorem aKW{a b:ByteArray}:a.toList=b.toList↔a=b:=⟨fun h=>by rw[ByteArray.toList_eq,ByteArray.toList_eq] at h;exact Go.WideShapes.bytes_inj h,fun h=>by rw[h]⟩
theorem cX(a b:ByteArray):(a.toList==b.toList)=decide (a=b):=by rw[dp,g8,au,aKW]
abbrev lM(l:List ByteArray):D:=.sl 1 (l.map fun s=>[.raw (.string s)])
def pA(xs:List ByteArray)(v:ByteArray):Bool:=xs.any fun x=>decide (v=x)
theorem qT{xs:List ByteArray}{v:ByteArray}:pA xs v=true↔v∈xs:=by simp[pA]
def wX(xs:List ByteArray)(v:ByteArray):Int:=if pA xs v=true then (xs.findIdx (fun x=>decide (v=x)):Int) else -1
theorem yY(xs:List ByteArray)(v:ByteArray):(0<=wX xs v)↔pA xs v=true:=by
 unfold wX;split<;>simp[*]
def aQf(xs:List ByteArray)(v:ByteArray)(nb:Nat)(box:Bxs)(tok:Tks)(nt:Nat)(i:Nat):AS:=⟨tl [(0,.d (lM xs)),(1,Sb v),(7,I xs.length),(8,I i)],lb nb box [],tok,nt⟩
theorem aFT{l:List ByteArray}{i:Nat}(h:i<l.length):(l.map fun s=>[D.raw (.string s)])[i]?=some [D.raw (.string l[i])]:=by simp[h]
theorem aIl(xs:List ByteArray)(v:ByteArray)(hx:xs.length<=1000000):DC 332 [.d (lM xs),Sb v] (I (wX xs v)):=by
 intro tok nt box nb;refine sI func332 ntmps332 fun Hb Ht=>?_
 repeat first|simp|refine sR ?_
 apply sN;refine sL (aQf xs v nb box tok nt) (fun i=>i<=xs.length/\v∉xs.take i) (fun i=>xs.length-i) 0 ⟨ai _,by simp⟩ (wM (nr0 _) rfl (by simp[ToL,lk]) trivial) ?_;rintro i S' ⟨hi,htk⟩ hS;simp only[aQf] at hS;subst hS;have hw:=sW (i:=i) (by omega);repeat first|simp|refine sR ?_|apply sC
 refine⟨fun hlt=>?_,fun hge=>?_⟩
 .have qf:xs=xs.take i++xs[i]::xs.drop (i+1):=by simp
  by_cases he:v=xs[i]
  .have b:(v.toList==xs[i].toList)=true:=by rw[cX];simpa using he
   have jg:pA xs v=true:=qT.2 (by rw[he];exact aa _)
   have y8:xs.findIdx (fun x=>decide (v=x))=i:=by
    rw[gc hlt];refine⟨by simpa using he,fun j hj=>?_⟩;have:¬v=xs[j]:=fun e=>htk (by rw[e,cc];exact⟨j,by omega,rfl⟩)
    simpa using this
   repeat first|simp[hlt,b]|refine sR ?_
   apply sC;repeat first|simp|refine sR ?_
   refine sT (sH ?_);simp[wX,jg,y8]
  .have b:(v.toList==xs[i].toList)=false:=by rw[cX];simpa using he
   repeat first|simp[hlt,b]|refine sR ?_
   apply sC;simp;repeat first|simp[hw]|refine sR ?_
   apply sE;refine⟨i+1,⟨hlt,?_⟩,by omega,wM (nr0 _) rfl (by simp[ToL,lk]) trivial⟩;rw[ah hlt];simp only[ap,a7,not_or];exact⟨htk,he⟩
 .apply sX;simp only[AU,↓reduceIte];repeat first|simp|refine sR ?_
  have hn:pA xs v=false:=by
   rw[ak hge] at htk;rw[<-Bool.not_eq_true,qT];exact htk
  refine sT (sH ?_);simp[wX,hn]
theorem uK(xs:List ByteArray)(v:ByteArray)(hx:xs.length<=1000000):DC 314 [.d (lM xs),Sb v] (B (pA xs v)):=by
 intro tok nt box nb;refine sI func314 ntmps314 fun Hb Ht=>?_
 repeat first|simp|refine sR ?_
 refine sD (aIl xs v hx _ _) ?_;repeat first|simp|refine sR ?_
 refine sT (sH ?_);simp[yY]
theorem aCs(s:ByteArray)(c:Int):DC 321 [Sb s,Ub c] (I (Lib.indexByte s.data.toList c.toNat.toUInt8)):=by
 intro tok nt box nb;refine⟨iC.mk func321 rfl (by kernel_rfl),fun G w vals hm hr=>?_⟩;obtain⟨hlen,ql⟩:=hr
 match vals,hlen with
 | [v,u],_ =>
  have h0:=ql 0 (by simp) (by simp);have h1:=ql 1 (by simp) (by simp);simp only[ck,List.getElem_cons_succ] at h0 h1;cases h0 with
  | d h0 =>
  cases h0 with
  | raw h0 =>
  cases h1 with
  | d h1 =>
  cases h1 with
  | raw h1 =>
   refine(Tryz.strings_IndexByte s c w).mono ?_;rintro e w' ⟨rfl,rfl⟩;exact⟨_,_,_,G,rfl,⟨rfl,rfl⟩,rfl,hm,.d (.raw rfl),Le.refl _ _,fun k hk=>⟨hk,rfl⟩⟩
def qG(c:Int):Bool:=decide (32<=c/\c<=126)&&c != 34
theorem aG9(c:Int):DC 333 [Ub c] (B (qG c)):=by
 intro tok nt box nb;by_cases h1:32<=c
 .by_cases h2:c<=126
  .refine sI func333 ntmps333 fun Hb Ht=>?_
   repeat first|simp[h1,h2]|refine sR ?_
   refine sT (sH ?_);simp[qG,h1,h2]
  .refine sI func333 ntmps333 fun Hb Ht=>?_
   repeat first|simp[h1,h2]|refine sR ?_
   refine sT (sH ?_);simp[qG,h1,h2]
 .refine sI func333 ntmps333 fun Hb Ht=>?_
  repeat first|simp[h1]|refine sR ?_
  refine sT (sH ?_);simp[qG,h1]
theorem vK(p:Int->Bool)(s:ByteArray)(a:Nat):eS p s a<=s.size-a:=by
 have h:=(List.takeWhile_sublist (l:=s.data.toList.drop a) fun b=>p (b.toNat:Int)).length_le;rw[eg,nG] at h;exact h
theorem zY{s:ByteArray}:(s.extract 1 s.size).size=s.size-1:=by simp[ByteArray.size_extract]
def aJO(s:ByteArray):Int × Int :=
 if 1+eS qG (s.extract 1 s.size) 0=s.size then (0,2) else if aK s (1+eS qG (s.extract 1 s.size) 0)≠34 then (0,2)
 else if 60<eS qG (s.extract 1 s.size) 0 then (0,3) else ((eS qG (s.extract 1 s.size) 0:Int)+2,0)
theorem aJv(s:ByteArray)(h1:1<=s.size)(hs:s.size<=200000000000000):DC 319 [Sb s] (.tup [I (aJO s).1,I (aJO s).2]):=by
 intro tok nt box nb;have hr:=aIx (s.extract 1 s.size) 333 qG (by rw[zY];omega) tok nt fun c=>aG9 c tok nt
 have iv:=vK qG (s.extract 1 s.size) 0;rw[zY] at iv;have hq:aJO s=if 1+eS qG (s.extract 1 s.size) 0=s.size then (0,2) else if aK s (1+eS qG (s.extract 1 s.size) 0)≠34 then (0,2) else if 60<eS qG (s.extract 1 s.size) 0 then (0,3) else ((eS qG (s.extract 1 s.size) 0:Int)+2,0):=rfl
 generalize eS qG (s.extract 1 s.size) 0=n at *;have tw:(1:Int)<=s.size:=by omega
 have w1:IntKind.i64.wrap (1+(n:Int))=((1+n:Nat):Int):=by rw[aM (by omega) (by omega)];omega
 have w2:IntKind.i64.wrap ((n:Int)+2)=(n:Int)+2:=aM (by omega) (by omega)
 refine sI func319 ntmps319 fun Hb Ht=>?_
 repeat first|simp[h1,tw]|refine sR ?_
 refine sD (hr) ?_;simp;by_cases e1:1+n=s.size
 .have b1:((1:Int)+n==s.size)=true:=by rw[g8];omega
  rw[af e1] at hq;rw[hq];repeat first|simp[w1,b1]|refine sR ?_
  apply sC;repeat first|simp|refine sR ?_
  refine sT (sH ?_);simp
 .have b1:((1:Int)+n==s.size)=false:=by rw[beq_eq_false_iff_ne];omega
  have hlt:1+n<s.size:=by omega
  have hb:=iL hlt;have l1:(0:Int)<=1+n:=by omega
  have l2:(1:Int)+n<s.size:=by omega
  have t1:((1:Int)+n).toNat=1+n:=by omega
  rw[ac e1] at hq;repeat first|simp[w1,b1,l1,l2,t1,hlt]|refine sR ?_
  rw[hb];by_cases e2:aK s (1+n)=34
  .have b2:(aK s (1+n) != 34)=false:=by simp[e2]
   rw[ac (by simp[e2])] at hq;simp only[b2];apply sC;simp;repeat first|simp[w2]|refine sR ?_
   by_cases e3:60<n
   .have e4:(60:Int)<n:=by omega
    rw[af e3] at hq;rw[hq];apply sC;simp[e4];repeat first|simp|refine sR ?_
    refine sT (sH ?_);simp
   .have e4:¬(60:Int)<n:=by omega
    rw[ac e3] at hq;rw[hq];apply sC;simp[e4];repeat first|simp[w2]|refine sR ?_
    refine sT (sH ?_);simp
  .have b2:(aK s (1+n) != 34)=true:=by simp[e2]
   rw[af e2] at hq;rw[hq];simp only[b2];apply sC;repeat first|simp|refine sR ?_
   refine sT (sH ?_);simp
def aMO:List ByteArray:=[⟨#[45,62]⟩,⟨#[60,61]⟩,⟨#[62,61]⟩,⟨#[61,61]⟩,⟨#[33,61]⟩]
def aCS(s:ByteArray):Bool:=decide (2<=s.size)&&pA aMO (s.extract 0 2)
theorem aNy(s:ByteArray)(hs:s.size<=200000000000000):DC 320 [Sb s] (B (aCS s)):=by
 intro tok nt box nb;by_cases h2:2<=s.size
 .have vv:(2:Int)<=s.size:=by omega
  refine sI func320 ntmps320 fun Hb Ht=>?_
  have hc:=uK aMO (s.extract 0 2) (by decide);repeat first|simp[h2,vv]|refine sR ?_
  refine⟨rfl,?_⟩;refine aN.data ?_;refine sD (hc _ _) ?_;repeat first|simp|refine sR ?_
  refine sT (sH ?_);simp[aCS,h2]
 .have vv:¬(2:Int)<=s.size:=by omega
  refine sI func320 ntmps320 fun Hb Ht=>?_
  repeat first|simp[h2,vv]|refine sR ?_
  refine sT (sH ?_);simp[aCS,h2]
def nO(s:ByteArray):Int × Int × Int :=
 if fS (aK s 0)=true then (if 20<eS pR s 0 then (0,0,3) else (1,eS pR s 0,0))
 else if eP (aK s 0)=true then (if 9<eS eP s 0 then (0,0,3) else (2,eS eP s 0,0))
 else if aK s 0=34 then (3,(aJO s).1,(aJO s).2) else if aCS s=true then (4,2,0)
 else if 0<=Lib.indexByte [123,125,40,41,91,93,44,59,58,61,43,45,42,60,62,33,38,124,46,63] (UInt8.ofNat (aK s 0).toNat) then (4,1,0) else (0,0,2)
theorem aNO(s:ByteArray)(h1:1<=s.size)(hs:s.size<=200000000000000):DC 284 [Sb s] (.tup [I (nO s).1,I (nO s).2.1,I (nO s).2.2]):=by
 intro tok nt box nb;have hl:=aC5 (aK s 0);have hd:=aBh (aK s 0);have r1:=aIx s 317 pR hs tok nt fun c=>aKK c tok nt
 have r2:=aIx s 318 eP hs tok nt fun c=>aBh c tok nt
 have hq:=aJv s h1 hs;have hp:=aNy s hs;have hx:=fun q=>aCs q (aK s 0)
 have h0:0<s.size:=h1
 have zb:(0:Int)<s.size:=by omega
 have hb:=iL h0;obtain⟨N,hN⟩:∃N,nO s=N:=⟨_,rfl⟩
 rw[hN];unfold nO at hN;have n1:eS pR s 0<=s.size:=vK _ _ _
 have n2:eS eP s 0<=s.size:=vK _ _ _
 generalize eS pR s 0=a1 at *;generalize eS eP s 0=a2 at *;refine sI func284 ntmps284 fun Hb Ht=>?_
 repeat first|simp[h0,zb]|refine sR ?_
 rw[hb];refine sD (hl _ _) ?_;repeat first|simp|refine sR ?_
 cases e1:fS (aK s 0)
 .rw[ac (by simp[e1])] at hN;apply sC;repeat first|simp|refine sR ?_
  refine sD (hd _ _) ?_;repeat first|simp|refine sR ?_
  cases e2:eP (aK s 0)
  .rw[ac (by simp[e2])] at hN;apply sC;repeat first|simp|refine sR ?_
   by_cases e3:aK s 0=34
   .rw[af e3] at hN;have b3:(aK s 0==34)=true:=by simp[e3]
    simp only[b3];apply sC;repeat first|simp|refine sR ?_
    refine sD (hq _ _) ?_;repeat first|simp|refine sR ?_
    refine sT (sH ?_);simp[<-hN]
   .rw[ac e3] at hN;have b3:(aK s 0==34)=false:=by simp[e3]
    simp only[b3];apply sC;repeat first|simp|refine sR ?_
    refine sD (hp _ _) ?_;repeat first|simp|refine sR ?_
    cases e4:aCS s
    .rw[ac (by simp[e4])] at hN;apply sC;repeat first|simp|refine sR ?_
     refine sD (hx _ _ _) ?_;repeat first|simp|refine sR ?_
     by_cases e5:0<=Lib.indexByte [123,125,40,41,91,93,44,59,58,61,43,45,42,60,62,33,38,124,46,63] (UInt8.ofNat (aK s 0).toNat)
     .rw[af e5] at hN;apply sC;simp[e5];repeat first|simp|refine sR ?_
      refine sT (sH ?_);simp[<-hN]
     .rw[ac e5] at hN;apply sC;simp[e5];repeat first|simp|refine sR ?_
      refine sT (sH ?_);simp[<-hN]
    .rw[af e4] at hN;apply sC;repeat first|simp|refine sR ?_
     refine sT (sH ?_);simp[<-hN]
  .rw[af e2] at hN;apply sC;repeat first|simp|refine sR ?_
   refine sD (r2) ?_;repeat first|simp|refine sR ?_
   by_cases e3:9<a2
   .have e4:(9:Int)<a2:=by omega
    rw[af e3] at hN;apply sC;simp[e4];repeat first|simp|refine sR ?_
    refine sT (sH ?_);simp[<-hN]
   .have e4:¬(9:Int)<a2:=by omega
    rw[ac e3] at hN;apply sC;simp[e4];repeat first|simp|refine sR ?_
    refine sT (sH ?_);simp[<-hN]
 .rw[af e1] at hN;apply sC;repeat first|simp|refine sR ?_
  refine sD (r1) ?_;repeat first|simp|refine sR ?_
  by_cases e3:20<a1
  .have e4:(20:Int)<a1:=by omega
   rw[af e3] at hN;apply sC;simp[e4];repeat first|simp|refine sR ?_
   refine sT (sH ?_);simp[<-hN]
  .have e4:¬(20:Int)<a1:=by omega
   rw[ac e3] at hN;apply sC;simp[e4];repeat first|simp|refine sR ?_
   refine sT (sH ?_);simp[<-hN]
def cO(s:ByteArray):Bool:=decide (1<=s.size/\s.size<=20)&&fS (aK s 0)&&decide (eS pR s 0=s.size)
theorem aEs{s:ByteArray}(h1:1<=s.size):((decide ((nO s).2.2=0)&&decide ((nO s).1=1))&&decide ((nO s).2.1=(s.size:Int)))=cO s:=by
 unfold cO nO;by_cases e1:fS (aK s 0)=true
 .rw[af e1];by_cases e2:20<eS pR s 0
  .rw[af e2];have:¬((1<=s.size/\s.size<=20)/\eS pR s 0=s.size):=by omega
   rw[dp];simp[e1];omega
  .rw[ac e2];rw[dp];simp[e1];omega
 .rw[ac e1];have j9:fS (aK s 0)=false:=by simpa using e1
  rw[j9];simp only[Bool.and_false,da];split
  .split<;>simp
  .split
   .simp
   .split
    .simp
    .split<;>simp
theorem oX{s:ByteArray}:(s.toList==(⟨#[]⟩:ByteArray).toList)=decide (s.size=0):=by
 rw[cX,dp,au,au];constructor
 .rintro rfl;rfl
 .intro h;obtain⟨⟨l⟩⟩:=s;cases l with
  | nil=>rfl
  | cons x r=>simp[ByteArray.size] at h
theorem aI6(s:ByteArray)(hs:s.size<=200000000000000):DC 243 [.agg [I 1,Sb s,I 0]] (.tup [Sb s,B (cO s)]):=by
 intro tok nt box nb;by_cases h0:s.size=0
 .have b0:(s.toList==(⟨#[]⟩:ByteArray).toList)=true:=by rw[oX];simp[h0]
  have yq:s=⟨#[]⟩:=by rw[cX] at b0;simpa using b0
  have hn:cO s=false:=by simp[cO,h0]
  rw[hn];refine sI func243 ntmps243 fun Hb Ht=>?_
  repeat (first|simp|refine sR ?_)
  apply sC
  repeat (first|simp|refine sR ?_)
  have b1:s.toList=[]:=by simpa using b0
  repeat first|simp[b1]|refine sR ?_|apply sC
  refine sT (sH ?_);simp[yq]
 .have b0:(s.toList==(⟨#[]⟩:ByteArray).toList)=false:=by rw[oX];simp[h0]
  have hx:=aNO s (by omega) hs;have j8:=aEs (s:=s) (by omega);generalize nO s=N at *;refine sI func243 ntmps243 fun Hb Ht=>?_
  repeat (first|simp|refine sR ?_)
  apply sC
  repeat (first|simp|refine sR ?_)
  have b1:¬s.toList=[]:=by simpa using b0
  repeat first|simp[b1]|refine sR ?_|apply sC
  refine sD (hx _ _) ?_;simp;by_cases f1:N.2.2=0
  .have g1:(N.2.2==0)=true:=by simp[f1]
   by_cases f2:N.1=1
   .have g2:(N.1==1)=true:=by simp[f2]
    repeat first|simp[g1,g2]|refine sR ?_
    by_cases f3:N.2.1=(s.size:Int)
    .have g3:(N.2.1==(s.size:Int))=true:=by simp[f3]
     rw[<-j8];refine sT (sH ?_);simp[f1,f2,f3,g3]
    .have g3:(N.2.1==(s.size:Int))=false:=by simp[f3]
     rw[<-j8];refine sT (sH ?_);simp[f1,f2,f3,g3]
   .have g2:(N.1==1)=false:=by simp[f2]
    rw[<-j8];repeat first|simp[g1,g2]|refine sR ?_
    refine sT (sH ?_);simp[f1,f2]
  .have g1:(N.2.2==0)=false:=by simp[f1]
   rw[<-j8];repeat first|simp[g1]|refine sR ?_
   refine sT (sH ?_);simp[f1]
theorem nI(s:ByteArray)(hs:s.size<=200000000000000):DC 184 [Sb s] (B (cO s)):=by
 intro tok nt box nb;have h:=aI6 s hs;refine sI func184 ntmps184 fun Hb Ht=>?_
 repeat first|simp|refine sR ?_
 refine sD (h _ _) ?_;repeat first|simp|refine sR ?_
 refine sT (sH ?_);simp
theorem xH(c:Int):DC 306 [Ub c] (B (fS c)):=by
 intro tok nt box nb;by_cases h1:97<=c
 .by_cases h2:c<=122
  .refine sI func306 ntmps306 fun Hb Ht=>?_
   repeat first|simp[h1,h2]|refine sR ?_
   refine sT (sH ?_);simp[fS,h1,h2]
  .have h3:¬c<=90:=by omega
   have h4:65<=c:=by omega
   refine sI func306 ntmps306 fun Hb Ht=>?_
   repeat first|simp[h1,h2,h3,h4]|refine sR ?_
   refine sT (sH ?_);simp[fS,h1,h2,h3,h4]
 .by_cases h3:65<=c
  .by_cases h4:c<=90
   .refine sI func306 ntmps306 fun Hb Ht=>?_
    repeat first|simp[h1,h3,h4]|refine sR ?_
    refine sT (sH ?_);simp[fS,h1,h3,h4]
   .refine sI func306 ntmps306 fun Hb Ht=>?_
    repeat first|simp[h1,h3,h4]|refine sR ?_
    refine sT (sH ?_);simp[fS,h1,h3,h4]
  .refine sI func306 ntmps306 fun Hb Ht=>?_
   repeat first|simp[h1,h3]|refine sR ?_
   refine sT (sH ?_);simp[fS,h1,h3]
theorem aAm(c:Int):DC 307 [Ub c] (B (eP c)):=by
 intro tok nt box nb;by_cases h1:48<=c
 .by_cases h2:c<=57
  .refine sI func307 ntmps307 fun Hb Ht=>?_
   repeat first|simp[h1,h2]|refine sR ?_
   refine sT (sH ?_);simp[eP,h1,h2]
  .refine sI func307 ntmps307 fun Hb Ht=>?_
   repeat first|simp[h1,h2]|refine sR ?_
   refine sT (sH ?_);simp[eP,h1,h2]
 .refine sI func307 ntmps307 fun Hb Ht=>?_
  repeat first|simp[h1]|refine sR ?_
  refine sT (sH ?_);simp[eP,h1]
def aMT(s:ByteArray)(d:Bool)(nb:Nat)(box:Bxs)(tok:Tks)(nt:Nat)(i:Nat):AS:=⟨tl [(0,Sb s),(1,I 0),(2,B d),(7,I i)],lb nb box [],tok,nt⟩
def pd(d:Bool)(c:Int):Bool:=eP c||(!d&&(fS c||c==95))
theorem aJc:pd false=pR:=by
 funext c
 simp only[pd,pR,Bool.not_false,b9];cases fS c<;>cases eP c<;>simp
set_option maxRecDepth 100000 in
theorem aKP(s:ByteArray)(d:Bool)(hs:s.size<=200000000000000):DC 308 [Sb s,I 0,B d] (I (eS (pd d) s 0)):=by
 intro tok nt box nb;have hl:=xH;have hd:=aAm;refine sI func308 ntmps308 fun Hb Ht=>?_
 repeat first|simp|refine sR ?_
 apply sN;refine sL (aMT s d nb box tok nt) (fun i=>i<=s.size/\∀j,j<i->pd d (aK s j)=true) (fun i=>s.size-i) 0 ⟨ai _,by omega⟩ (wM (nr0 _) rfl (by simp[ToL,lk]) trivial) ?_;rintro i S' ⟨hi,ia⟩ hS;simp only[aMT] at hS;subst hS;have hw:=sW (i:=i) (by omega);have oj:IntKind.i64.wrap (i:Int)=i:=aM (by omega) (by omega)
 by_cases hlt:i<s.size
 .have wm:=iL hlt;have hr:=vN (p:=pd d) (s:=s) (a:=0) (i:=i) (by omega) (fun j hj=>by rw[cd];exact ia j hj);rw[cd,<-wm] at hr;have kj:pd d (s.data[i].toNat)=true->∀j,j<i+1->pd d (aK s j)=true:=fun h j hj=>by
   by_cases e:j=i
   .rw[e,<-wm];exact h
   .exact ia j (by omega)
  have hd:=hd (s.data[i].toNat);have hl:=hl (s.data[i].toNat);have fin1:pd d (s.data[i].toNat)=false->eS (pd d) s 0=i:=fun h=>hr (.inr h)
  cases ed:eP (s.data[i].toNat)
  .rw[ed] at hd;cases d
   .cases el:fS (s.data[i].toNat)
    .rw[el] at hl;cases eu:((s.data[i].toNat:Int)==95)
     .have hr:=fin1 (by simp[pd,ed,el,eu]);repeat first|simp[hlt,oj]|refine sR ?_
      refine sD (hd _ _) ?_;simp;repeat first|simp[hlt,oj]|refine sR ?_
      refine sD (hl _ _) ?_;simp;repeat first|simp[hlt,oj,eu]|refine sR ?_|apply sC
      apply sX;simp only[AU,↓reduceIte];repeat first|simp|refine sR ?_
      refine sT (sH ?_);simp[hr]
     .have hv:=kj (by simp[pd,ed,el,eu]);repeat first|simp[hlt,oj]|refine sR ?_
      refine sD (hd _ _) ?_;simp;repeat first|simp[hlt,oj]|refine sR ?_
      refine sD (hl _ _) ?_;simp;repeat first|simp[hlt,oj,eu]|refine sR ?_
      apply sC;simp;repeat first|simp[hw]|refine sR ?_
      apply sE;exact⟨i+1,⟨hlt,hv⟩,by omega,wM (nr0 _) rfl (by simp[ToL,lk]) trivial⟩
    .rw[el] at hl;have hv:=kj (by simp[pd,ed,el]);repeat first|simp[hlt,oj]|refine sR ?_
     refine sD (hd _ _) ?_;simp;repeat first|simp[hlt,oj]|refine sR ?_
     refine sD (hl _ _) ?_;simp;repeat first|simp[hlt,oj]|refine sR ?_
     apply sC;simp;repeat first|simp[hw]|refine sR ?_
     apply sE;exact⟨i+1,⟨hlt,hv⟩,by omega,wM (nr0 _) rfl (by simp[ToL,lk]) trivial⟩
   .have hr:=fin1 (by simp[pd,ed]);repeat first|simp[hlt,oj]|refine sR ?_
    refine sD (hd _ _) ?_;simp;repeat first|simp[hlt,oj]|refine sR ?_|apply sC
    apply sX;simp only[AU,↓reduceIte];repeat first|simp|refine sR ?_
    refine sT (sH ?_);simp[hr]
  .rw[ed] at hd;have hv:=kj (by simp[pd,ed]);repeat first|simp[hlt,oj]|refine sR ?_
   refine sD (hd _ _) ?_;simp;repeat first|simp[hlt,oj]|refine sR ?_
   apply sC;simp;repeat first|simp[hw]|refine sR ?_
   apply sE;exact⟨i+1,⟨hlt,hv⟩,by omega,wM (nr0 _) rfl (by simp[ToL,lk]) trivial⟩
 .have Cj:i=s.size:=by omega
  have hr:=vN (p:=pd d) (s:=s) (a:=0) (i:=i) (by omega) (fun j hj=>by rw[cd];exact ia j hj) (.inl (by omega));repeat first|simp[hlt,oj]|refine sR ?_|apply sC
  apply sX;simp only[AU,↓reduceIte];repeat first|simp|refine sR ?_
  refine sT (sH ?_);simp[hr]
def kD(s:ByteArray)(n:Nat):Int :=
 if n<s.size then (if aK s n=34 then (n:Int)+1 else if aK s n<32∨126<aK s n then 0 else kD s (n+1)) else 0
termination_by s.size-n
theorem yR{s:ByteArray}{n:Nat}(h:¬n<s.size):kD s n=0:=by rw[kD,ac h]
theorem aIn{s:ByteArray}{n:Nat}(h:n<s.size)(h1:aK s n=34):kD s n=(n:Int)+1:=by rw[kD,af h,af h1]
theorem yS{s:ByteArray}{n:Nat}(h:n<s.size)(h1:¬aK s n=34)(h2:aK s n<32∨126<aK s n):kD s n=0:=by rw[kD,af h,ac h1,af h2]
theorem aF5{s:ByteArray}{n:Nat}(h:n<s.size)(h1:¬aK s n=34)(h2:¬(aK s n<32∨126<aK s n)):kD s n=kD s (n+1):=by rw[kD,af h,ac h1,ac h2]
theorem aC7(s:ByteArray):∀(k n:Nat),s.size-n=k->1<=n->kD s n=0∨2<=kD s n/\kD s n<=s.size
 | 0,n,hk,_=>.inl (yR (by omega))
 | k+1,n,hk,h1=>by
  have hlt:n<s.size:=by omega
  by_cases e1:aK s n=34
  .rw[aIn hlt e1];right;omega
  .by_cases e2:aK s n<32∨126<aK s n
   .exact .inl (yS hlt e1 e2)
   .rw[aF5 hlt e1 e2];exact aC7 s k (n+1) (by omega) (by omega)
def aFs(s:ByteArray)(nb:Nat)(box:Bxs)(tok:Tks)(nt:Nat)(i:Nat):AS:=⟨tl [(0,Sb s),(1,I 0),(5,I i)],lb nb box [],tok,nt⟩
theorem aEC(s:ByteArray)(hs:s.size<=200000000000000):DC 309 [Sb s,I 0] (I (kD s 1)):=by
 intro tok nt box nb;refine sI func309 ntmps309 fun Hb Ht=>?_
 repeat first|simp|refine sR ?_
 apply sN;by_cases h0:1<=s.size
 .refine sL (aFs s nb box tok nt) (fun i=>i<=s.size/\kD s 1=kD s i) (fun i=>s.size-i) 1 ⟨h0,rfl⟩ (wM (nr0 _) rfl (by simp[ToL,lk]) trivial) ?_;rintro i S' ⟨hi,hq⟩ hS;simp only[aFs] at hS;subst hS;have hw:=sW (i:=i) (by omega);have oj:IntKind.i64.wrap (i:Int)=i:=aM (by omega) (by omega)
  by_cases hlt:i<s.size
  .have wm:=iL hlt;repeat (first|simp[hlt,oj]|refine sR ?_)
   apply sC
   repeat (first|simp[hlt,oj]|refine sR ?_)
   rw[wm];by_cases e1:aK s i=34
   .have b1:(aK s i==34)=true:=by simp[e1]
    have hr:=aIn hlt e1;simp only[b1];apply sC;simp;repeat first|simp[hw]|refine sR ?_
    refine sT (sH ?_);simp[hq,hr]
   .have b1:(aK s i==34)=false:=by simp[e1]
    simp only[b1];apply sC;simp;by_cases e2:aK s i<32
    .have hr:=yS hlt e1 (.inl e2);repeat first|simp[e2]|refine sR ?_
     apply sC;repeat first|simp|refine sR ?_
     refine sT (sH ?_);simp[hq,hr]
    .by_cases e3:126<aK s i
     .have hr:=yS hlt e1 (.inr e3);repeat first|simp[e2,e3]|refine sR ?_
      apply sC;repeat first|simp|refine sR ?_
      refine sT (sH ?_);simp[hq,hr]
     .have hr:=aF5 hlt e1 (by omega);repeat first|simp[e2,e3]|refine sR ?_
      apply sC;simp;repeat first|simp[hw]|refine sR ?_
      apply sE;exact⟨i+1,⟨hlt,hq.trans hr⟩,by omega,wM (nr0 _) rfl (by simp[ToL,lk]) trivial⟩
  .have hr:=yR hlt;repeat first|simp[hlt,oj]|refine sR ?_|apply sC
   apply sX;simp only[AU,↓reduceIte];repeat first|simp|refine sR ?_
   refine sT (sH ?_);simp[hq,hr]
 .have hr:=yR (s:=s) (n:=1) (by omega);refine sL (aFs s nb box tok nt) (fun i=>i=1) (fun i=>0) 1 rfl (wM (nr0 _) rfl (by simp[ToL,lk]) trivial) ?_;rintro i S' rfl hS;simp only[aFs] at hS;subst hS;have h1:¬(1:Int)<s.size:=by omega
  have oj:IntKind.i64.wrap (1:Int)=1:=rfl
  repeat first|simp[oj,h1]|refine sR ?_|apply sC
  apply sX;simp only[AU,↓reduceIte];repeat first|simp|refine sR ?_
  refine sT (sH ?_);simp[hr]
def lW:List ByteArray:=[⟨#[45,62]⟩,⟨#[60,61]⟩,⟨#[62,61]⟩,⟨#[61,61]⟩,⟨#[33,61]⟩,⟨#[123]⟩,⟨#[125]⟩,⟨#[40]⟩,⟨#[41]⟩,⟨#[91]⟩,⟨#[93]⟩,⟨#[44]⟩,⟨#[59]⟩,⟨#[58]⟩,⟨#[61]⟩,⟨#[43]⟩,⟨#[45]⟩,⟨#[42]⟩,⟨#[60]⟩,⟨#[62]⟩,⟨#[33]⟩,⟨#[38]⟩,⟨#[124]⟩,⟨#[46]⟩,⟨#[63]⟩]
theorem aGP:DC 310 [] (.d (lM lW)):=by
 intro tok nt box nb;refine sI func310 ntmps310 fun Hb Ht=>?_
 repeat first|simp|refine sR ?_
 refine⟨rfl,?_⟩;repeat first|simp|refine sR ?_
 refine sT (sH ?_);simp[lM,lW]
def wG(s:ByteArray):List ByteArray->Int × ByteArray × Int × Int
 | []=>(0,⟨#[]⟩,0,2)
 | x::r=>if x.size<=s.size/\s.extract 0 x.size=x then (4,x,x.size,0) else wG s r
theorem aHh(s x:ByteArray)(r:List ByteArray):wG s (x::r)=if x.size<=s.size/\s.extract 0 x.size=x then ((4:Int),x,(x.size:Int),(0:Int)) else wG s r:=rfl
theorem aAP(s:ByteArray):∀l,(wG s l).1=4/\(wG s l).2.2.2=0∨(wG s l).2.2.2=2
 | []=>.inr rfl
 | x::r=>by
  unfold wG;split
  .exact .inl ⟨rfl,rfl⟩
  .exact aAP s r
def xU(s:ByteArray):Int × ByteArray × Int × Int :=
 if fS (aK s 0)=true∨eP (aK s 0)=true then
  (if (if eP (aK s 0)=true then 9 else 20)<eS (pd (eP (aK s 0))) s 0 then (0,⟨#[]⟩,0,3)
   else (if eP (aK s 0)=true then 2 else 1,s.extract 0 (eS (pd (eP (aK s 0))) s 0),eS (pd (eP (aK s 0))) s 0,0))
 else if aK s 0=34 then (if kD s 1=0 then (0,⟨#[]⟩,0,2) else if 60<kD s 1-2 then (0,⟨#[]⟩,0,3) else (3,s.extract 1 ((kD s 1).toNat-1),kD s 1,0))
 else wG s lW
def aQM(s:ByteArray)(L:List ByteArray)(nb:Nat)(box:Bxs)(tok:Tks)(nt:Nat)(i:Nat):AS :=
 ⟨tl [(13,I i),(12,.d (lM L)),(4,.ptr (nb+4) 0 0),(0,Sb s),(1,I 0)],lb nb box [(4,[[I 0,Sb ⟨#[]⟩,I 0]])],tok,nt⟩
set_option maxRecDepth 100000 in
theorem aLQ(s:ByteArray)(h1:1<=s.size)(hs:s.size<=200000000000000):DC 272 [Sb s,I 0] (.tup [.agg [I (xU s).1,Sb (xU s).2.1,I 0],I (xU s).2.2.1,I (xU s).2.2.2]):=by
 intro tok nt box nb;obtain⟨N,hN⟩:∃N,xU s=N:=⟨_,rfl⟩
 rw[hN];unfold xU at hN;have hl:=xH (aK s 0);have hd:=aAm (aK s 0);have hr:=fun d=>aKP s d hs
 have hq:=aEC s hs;have DQ:=aC7 s _ 1 rfl (nr0 _);have AG:=aGP;have h0:0<s.size:=h1
 have zb:(0:Int)<s.size:=by omega
 have hb:=iL h0;have n9:eS (pd (eP (aK s 0))) s 0<=s.size:=vK _ _ _
 cases ed:eP (aK s 0)
 .rw[ed] at hd n9 hN;cases el:fS (aK s 0)
  .rw[el] at hl hN;rw[ac (by simp)] at hN;refine sI func272 ntmps272 fun Hb Ht=>?_
   repeat first|simp[h0,zb]|refine sR ?_
   rw[hb];refine sD (hl _ _) ?_;repeat first|simp|refine sR ?_
   refine sD (hd _ _) ?_;repeat (first|simp|refine sR ?_)
   apply sC
   repeat (first|simp|refine sR ?_)
   by_cases e3:aK s 0=34
   .rw[af e3] at hN;have b3:(aK s 0==34)=true:=by simp[e3]
    generalize kD s 1=q at *;repeat first|simp[b3]|refine sR ?_
    apply sC;repeat first|simp|refine sR ?_
    refine sD (hq _ _) ?_;simp;by_cases q0:q=0
    .have b4:(q==0)=true:=by simp[q0]
     rw[af q0] at hN;repeat first|simp[b4]|refine sR ?_
     apply sC;repeat first|simp|refine sR ?_
     refine sT (sH ?_);simp[<-hN]
    .have b4:(q==0)=false:=by simp[q0]
     obtain⟨q1,q2⟩:=DQ.resolve_left q0;rw[ac q0] at hN;have w1:IntKind.i64.wrap (q-2)=q-2:=aM (by omega) (by omega)
     have w2:IntKind.i64.wrap q=q:=aM (by omega) (by omega)
     have w3:IntKind.i64.wrap (q-1)=q-1:=aM (by omega) (by omega)
     have w4:IntKind.i64.wrap 1=1:=rfl
     by_cases q3:60<q-2
     .rw[af q3] at hN;repeat first|simp[b4]|refine sR ?_
      apply sC;simp;repeat first|simp[w1]|refine sR ?_
      apply sC;simp[q3];repeat first|simp|refine sR ?_
      refine sT (sH ?_);simp[<-hN]
     .rw[ac q3] at hN;have q4:(1:Int)<=q-1:=by omega
      have q5:q-1<=s.size:=by omega
      have q6:1<=q.toNat-1:=by omega
      have q7:q.toNat-1<=s.size:=by omega
      have q8:0<=q-1:=by omega
      repeat first|simp[b4]|refine sR ?_
      apply sC;simp;repeat first|simp[w1]|refine sR ?_
      apply sC;simp[q3];repeat first|simp[w2,w3,w4,q4,q5,q6,q7,q8]|refine sR ?_
      refine⟨by omega,?_⟩;repeat first|simp|refine sR ?_
      refine sT (sH ?_);simp[<-hN]
   .rw[ac e3] at hN;have b3:(aK s 0==34)=false:=by simp[e3]
    repeat first|simp[b3]|refine sR ?_
    apply sC;repeat first|simp|refine sR ?_
    refine sD (AG _ _) ?_;repeat first|simp|refine sR ?_
    apply sN;refine sL (aQM s lW nb box tok nt) (fun i=>i<=lW.length/\wG s lW=wG s (lW.drop i)) (fun i=>lW.length-i) 0 ⟨ai _,rfl⟩ wkA ?_;rintro i S' ⟨hi,vw⟩ hS;simp only[aQM] at hS;subst hS;have hlen:lW.length<=1000:=by decide
    have i9:∀x∈lW,x.size<=2:=by decide
    generalize lW=L at *;have hw:=sW (i:=i) (by omega);repeat first|simp|refine sR ?_|apply sC
    refine⟨fun hlt=>?_,fun hge=>?_⟩
    .have hx:=i9 _ (aa hlt);have Cb:L.drop i=L[i]::L.drop (i+1):=List.drop_eq_getElem_cons hlt
     have rb:IntKind.i64.wrap (L[i].size:Int)=L[i].size:=aM (by omega) (by omega)
     rw[Cb] at vw;rw[aHh] at vw;by_cases c1:L[i].size<=s.size
     .have sm:(L[i].size:Int)<=s.size:=by omega
      by_cases c2:s.extract 0 L[i].size=L[i]
      .have b2:((s.extract 0 L[i].size).toList==L[i].toList)=true:=by rw[cX];simp[c2]
       rw[af ⟨c1,c2⟩] at vw;repeat first|simp[hlt,rb,c1,sm,b2]|refine sR ?_
       apply sC;simp[hlt,rb,c1,sm,b2]
       apply sN;refine AL.region2 bS (nr0 _) (by kernel_rfl) (mH.of (by simp)) ?_;simp[hlt];refine sT (sH ?_);simp[vw,<-hN]
      .have b2:((s.extract 0 L[i].size).toList==L[i].toList)=false:=by rw[cX];simp[c2]
       rw[ac fun h=>c2 h.2] at vw;repeat first|simp[hlt,rb,c1,sm,b2]|refine sR ?_
       apply sC;simp;repeat first|simp[hw]|refine sR ?_
       apply sE;exact⟨i+1,⟨hlt,vw⟩,by omega,wkA⟩
     .have sm:¬(L[i].size:Int)<=s.size:=by omega
      rw[ac fun h=>c1 h.1] at vw;repeat first|simp[hlt,rb,c1,sm]|refine sR ?_
      apply sC;simp;repeat first|simp[hw]|refine sR ?_
      apply sE;exact⟨i+1,⟨hlt,vw⟩,by omega,wkA⟩
    .apply sX;simp only[AU,↓reduceIte];repeat first|simp|refine sR ?_
     have Cj:i=L.length:=by omega
     rw[Cj,List.drop_length] at vw;refine sT (sH ?_);simp[<-hN,vw,wG]
  .rw[el] at hl hN;rw[af (by simp)] at hN;have hr:=hr false;generalize eS (pd false) s 0=n at *;refine sI func272 ntmps272 fun Hb Ht=>?_
   repeat first|simp[h0,zb]|refine sR ?_
   rw[hb];refine sD (hl _ _) ?_;repeat first|simp|refine sR ?_
   apply sC;repeat first|simp|refine sR ?_
   refine sD (hd _ _) ?_;repeat first|simp|refine sR ?_
   refine sD (hr _ _) ?_;repeat first|simp|refine sR ?_
   refine sD (hd _ _) ?_;repeat first|simp|refine sR ?_
   apply sC;repeat first|simp|refine sR ?_
   by_cases e3:20<n
   .have e4:(20:Int)<n:=by omega
    simp only[bu,if_false] at hN;rw[af e3] at hN;apply sC;simp[e4];repeat first|simp|refine sR ?_
    refine sT (sH ?_);simp[<-hN]
   .have e4:¬(20:Int)<n:=by omega
    simp only[bu,if_false] at hN;rw[ac e3] at hN;have w6:IntKind.i64.wrap (n:Int)=n:=aM (by omega) (by omega)
    have uo:(n:Int)<=s.size:=by omega
    apply sC;simp[e4];repeat first|simp[w6,uo,n9]|refine sR ?_
    refine sT (sH ?_);simp[<-hN]
 .rw[ed] at hd n9 hN;have el:fS (aK s 0)=false:=by
   have:=ed
   unfold eP at this;unfold fS;simp only[au,bq] at this ⊢;omega
  rw[el] at hl;rw[af (by simp)] at hN;have hr:=hr true;generalize eS (pd true) s 0=n at *;refine sI func272 ntmps272 fun Hb Ht=>?_
  repeat first|simp[h0,zb]|refine sR ?_
  rw[hb];refine sD (hl _ _) ?_;repeat first|simp|refine sR ?_
  refine sD (hd _ _) ?_;repeat first|simp|refine sR ?_
  apply sC;repeat first|simp|refine sR ?_
  refine sD (hd _ _) ?_;repeat first|simp|refine sR ?_
  refine sD (hr _ _) ?_;repeat first|simp|refine sR ?_
  refine sD (hd _ _) ?_;repeat first|simp|refine sR ?_
  apply sC;repeat first|simp|refine sR ?_
  by_cases e3:9<n
  .have e4:(9:Int)<n:=by omega
   simp only[if_true] at hN;rw[af e3] at hN;apply sC;simp[e4];repeat first|simp|refine sR ?_
   refine sT (sH ?_);simp[<-hN]
  .have e4:¬(9:Int)<n:=by omega
   simp only[if_true] at hN;rw[ac e3] at hN;have w6:IntKind.i64.wrap (n:Int)=n:=aM (by omega) (by omega)
   have uo:(n:Int)<=s.size:=by omega
   apply sC;simp[e4];repeat first|simp[w6,uo,n9]|refine sR ?_
   refine sT (sH ?_);simp[<-hN]
theorem aLo{c:Int}(h:fS c=true):eP c=false:=by
 unfold fS at h;unfold eP;simp only[au,bq] at h ⊢;omega
theorem aG3{s:ByteArray}(h1:1<=s.size):((decide ((xU s).2.2.2=0)&&decide ((xU s).2.2.1=(s.size:Int)))&&decide ((xU s).1=1))=cO s:=by
 unfold cO xU;by_cases e1:fS (aK s 0)=true
 .have e2:=aLo e1;rw[af (.inl e1),e2,aJc];simp only[bu,if_false];by_cases e3:20<eS pR s 0
  .rw[af e3,dp];simp[e1];omega
  .rw[ac e3,dp];simp[e1];omega
 .have j9:fS (aK s 0)=false:=by simpa using e1
  rw[j9];simp only[Bool.and_false,da];split
  .rename_i h;have hd:eP (aK s 0)=true:=h.resolve_left (by simp)
   rw[hd];simp only[if_true];split<;>simp
  .split
   .split
    .simp
    .split<;>simp
   .rcases aAP s lW with ⟨k1,_⟩|k1<;>simp[k1]
theorem aIU(s:ByteArray):DC 271 [.agg [I 1,Sb s,I 0]] (Sb s):=by
 intro tok nt box nb;refine sI func271 ntmps271 fun Hb Ht=>?_
 repeat first|simp|refine sR ?_
 apply sC;repeat first|simp|refine sR ?_
 refine sT (sH ?_);simp
theorem aGC(s:ByteArray)(hs:s.size<=200000000000000):DC 221 [.agg [I 1,Sb s,I 0]] (B (cO s)):=by
 intro tok nt box nb;have ht:=aIU s;by_cases h0:s.size=0
 .have b0:(s.toList==(⟨#[]⟩:ByteArray).toList)=true:=by rw[oX];simp[h0]
  have b1:s.toList=[]:=by simpa using b0
  have hn:cO s=false:=by simp[cO,h0]
  rw[hn];refine sI func221 ntmps221 fun Hb Ht=>?_
  repeat first|simp|refine sR ?_
  refine sD (ht _ _) ?_;repeat first|simp[b1]|refine sR ?_|apply sC
  refine sT (sH ?_);simp
 .have b0:(s.toList==(⟨#[]⟩:ByteArray).toList)=false:=by rw[oX];simp[h0]
  have b1:¬s.toList=[]:=by simpa using b0
  have hx:=aLQ s (by omega) hs;have j8:=aG3 (s:=s) (by omega);rw[<-j8];generalize xU s=N at *;refine sI func221 ntmps221 fun Hb Ht=>?_
  repeat first|simp|refine sR ?_
  refine sD (ht _ _) ?_;repeat first|simp[b1]|refine sR ?_|apply sC
  refine sD (hx _ _) ?_;simp;by_cases f1:N.2.2.2=0
  .have g1:(N.2.2.2==0)=true:=by simp[f1]
   by_cases f3:N.2.2.1=(s.size:Int)
   .have g3:(N.2.2.1==(s.size:Int))=true:=by simp[f3]
    repeat first|simp[g1,g3]|refine sR ?_
    by_cases f2:N.1=1
    .have g2:(N.1==1)=true:=by simp[f2]
     refine sT (sH ?_);simp[f1,f2,f3,g2]
    .have g2:(N.1==1)=false:=by simp[f2]
     refine sT (sH ?_);simp[f1,f2,f3,g2]
   .have g3:(N.2.2.1==(s.size:Int))=false:=by simp[f3]
    repeat first|simp[g1,g3]|refine sR ?_
    refine sT (sH ?_);simp[f1,f3]
  .have g1:(N.2.2.2==0)=false:=by simp[f1]
   repeat first|simp[g1]|refine sR ?_
   refine sT (sH ?_);simp[f1]
theorem jA(s:ByteArray)(hs:s.size<=200000000000000):DC 165 [Sb s] (B (cO s)):=by
 intro tok nt box nb;have h:=aGC s hs;refine sI func165 ntmps165 fun Hb Ht=>?_
 repeat first|simp|refine sR ?_
 refine sD (h _ _) ?_;repeat first|simp|refine sR ?_
 refine sT (sH ?_);simp
variable {P:Program}
def iO(cx:Cx)(nt0:Nat)(S S':AS):Prop:=∀G0 w0 G a w,aGn cx nt0 G0->G0.nt<=nt0->cS cx.n cx.nb G S a w->LeC cx G0 w0 G w S->∃G',cS cx.n cx.nb G' S' a w/\LeC cx G0 w0 G' w S'
theorem AT.trans{cx:Cx}{nt0:Nat}{c:Code}{S S':AS}{K:Exit->AS->Prop}(h:iO cx nt0 S S')(k:AT P cx nt0 c S' K):AT P cx nt0 c S K:=by
 intro G0 w0 he hn G a w hr hl;obtain⟨G',qp,lh⟩:=h G0 w0 G a w he hn hr hl;exact k G0 w0 he hn G' a w qp lh
theorem AL.trans{cx:Cx}{nt0:Nat}{K:Exit->AS->Prop}{r:List CI}{S S':AS}{x:Code}(hw:iO cx nt0 S S')(h:AL P cx nt0 K (.c x::r) S'):AL P cx nt0 K (.c x::r) S:=by
 simp only[AL] at h ⊢;exact AT.trans hw h
inductive uV (t k sz:Nat) (es:List (List D)):AV->AV->Prop
 | bot {x}:uV t k sz es x .bot
 | same {x}:uV t k sz es x x
 | ex:uV t k sz es (.ex t sz es) (.msl k 0 es.length sz)
 | agg {cs ds:List AV} (hl:cs.length=ds.length) (h:∀i (h1:i<cs.length) (h2:i<ds.length),uV t k sz es cs[i] ds[i]):uV t k sz es (.agg cs) (.agg ds)
def ThR(t k sz:Nat)(es:List (List D))(r r':List AV):Prop:=r.length=r'.length/\∀i (h1:i<r.length) (h2:i<r'.length),uV t k sz es r[i] r'[i]
def aBp(t k sz:Nat)(es:List (List D))(r r':List (List AV)):Prop:=r.length=r'.length/\∀i (h1:i<r.length) (h2:i<r'.length),ThR t k sz es r[i] r'[i]
def ThL(t k sz:Nat)(es:List (List D)):List (Nat × AV)->List (Nat × AV)->Prop
 | [],[]=>True
 | (i,x)::a,(j,y)::b=>i=j/\uV t k sz es x y/\ThL t k sz es a b
 | _,_=>False
def ThB(t k sz:Nat)(es:List (List D)):List (Nat × List (List AV))->List (Nat × List (List AV))->Prop
 | [],[]=>True
 | (i,x)::a,(j,y)::b=>i=j/\aBp t k sz es x y/\ThB t k sz es a b
 | _,_=>False
theorem ThL.at{t k sz:Nat}{es:List (List D)}:∀{l l':List (Nat × AV)},ThL t k sz es l l'->∀i,uV t k sz es (tl l i) (tl l' i)
 | [],[],_,i=>.same
 | (i,x)::a,(j,y)::b,h,q=>by
  obtain⟨rfl,h1,h2⟩:=h;rw[jP,jP];split
  .exact h1
  .exact ThL.at h2 q
 | [],_::_,h,_=>h.elim
 | _::_,[],h,_=>h.elim
theorem ThB.at{t k sz:Nat}{es:List (List D)}:∀{l l':List (Nat × List (List AV))},ThB t k sz es l l'->∀i,(lk l i=none/\lk l' i=none)∨∃r r',lk l i=some r/\lk l' i=some r'/\aBp t k sz es r r'
 | [],[],_,i=>.inl ⟨rfl,rfl⟩
 | (i,x)::a,(j,y)::b,h,q=>by
  obtain⟨rfl,h1,h2⟩:=h;rw[cC,cC];split
  .exact .inr ⟨x,y,rfl,rfl,h1⟩
  .exact ThB.at h2 q
 | [],_::_,h,_=>h.elim
 | _::_,[],h,_=>h.elim
theorem aBp.flat{t k sz:Nat}{es:List (List D)}:∀{r r':List (List AV)},aBp t k sz es r r'->ThR t k sz es r.flatten r'.flatten
 | [],[],_=>⟨rfl,fun i h=>by simp at h⟩
 | x::a,y::b,h=>by
  have h0:=h.2 0 (by simp) (by simp);have ih:ThR t k sz es a.flatten b.flatten:=aBp.flat ⟨by simpa using h.1,fun i h1 h2=>h.2 (i+1) (by simpa using h1) (by simpa using h2)⟩
  simp only[ck] at h0;refine⟨by simp[h0.1,ih.1],fun i h1 h2=>?_⟩;have hl:=h0.1;have uf:=ih.1;simp only[cr] at h1 h2 ⊢;rw[am] at h1 h2;by_cases hi:i<x.length
  .have e1:(x++a.flatten)[i]'(by rw[am];omega)=x[i]:=b6 hi
   have e2:(y++b.flatten)[i]'(by rw[am];omega)=y[i]'(by omega):=b6 (by omega)
   rw[e1,e2];exact h0.2 i hi _
  .have e1:(x++a.flatten)[i]'(by rw[am];omega)=a.flatten[i-x.length]'(by omega):=ch (by omega)
   have e2:(y++b.flatten)[i]'(by rw[am];omega)=b.flatten[i-y.length]'(by omega):=ch (by omega)
   rw[e1,e2];have:=ih.2 (i-x.length) (by omega) (by omega)
   simp only[hl] at this ⊢;exact this
 | [],_::_,h=>by have:=h.1;simp at this
 | _::_,[],h=>by have:=h.1;simp at this
theorem wL(es:List (List D)):(cI es).flatten=es.flatten.map AV.d:=by
 induction es with
 | nil=>rfl
 | cons e es ih=>simp only[cI,di,cr,c7] at ih ⊢;rw[ih]
inductive uZ (t k sz:Nat) (es:List (List D)):AV->AV->Prop
 | bot {x}:uZ t k sz es x .bot
 | same {x} (h:bF (· ≠ k) (fun _=>True) x):uZ t k sz es x x
 | msl:uZ t k sz es (.msl k 0 es.length sz) (.ex t sz es)
 | agg {cs ds:List AV} (hl:cs.length=ds.length) (h:∀i (h1:i<cs.length) (h2:i<ds.length),uZ t k sz es cs[i] ds[i]):uZ t k sz es (.agg cs) (.agg ds)
def SeR(t k sz:Nat)(es:List (List D))(r r':List AV):Prop:=r.length=r'.length/\∀i (h1:i<r.length) (h2:i<r'.length),uZ t k sz es r[i] r'[i]
def aJ2(t k sz:Nat)(es:List (List D))(r r':List (List AV)):Prop:=r.length=r'.length/\∀i (h1:i<r.length) (h2:i<r'.length),SeR t k sz es r[i] r'[i]
def SeL(t k sz:Nat)(es:List (List D)):List (Nat × AV)->List (Nat × AV)->Prop
 | [],[]=>True
 | (i,x)::a,(j,y)::b=>i=j/\uZ t k sz es x y/\SeL t k sz es a b
 | _,_=>False
def SeB(t k sz:Nat)(es:List (List D)):List (Nat × List (List AV))->List (Nat × List (List AV))->Prop
 | [],[]=>True
 | (i,x)::a,(j,y)::b=>i=j/\aJ2 t k sz es x y/\SeB t k sz es a b
 | _,_=>False
theorem SeL.at{t k sz:Nat}{es:List (List D)}:∀{l l':List (Nat × AV)},SeL t k sz es l l'->∀i,uZ t k sz es (tl l i) (tl l' i)
 | [],[],_,i=>.bot
 | (i,x)::a,(j,y)::b,h,q=>by
  obtain⟨rfl,h1,h2⟩:=h;rw[jP,jP];split
  .exact h1
  .exact SeL.at h2 q
 | [],_::_,h,_=>h.elim
 | _::_,[],h,_=>h.elim
theorem SeB.at{t k sz:Nat}{es:List (List D)}:∀{l l':List (Nat × List (List AV))},SeB t k sz es l l'->∀i,(lk l i=none/\lk l' i=none)∨∃r r',lk l i=some r/\lk l' i=some r'/\aJ2 t k sz es r r'
 | [],[],_,i=>.inl ⟨rfl,rfl⟩
 | (i,x)::a,(j,y)::b,h,q=>by
  obtain⟨rfl,h1,h2⟩:=h;rw[cC,cC];split
  .exact .inr ⟨x,y,rfl,rfl,h1⟩
  .exact SeB.at h2 q
 | [],_::_,h,_=>h.elim
 | _::_,[],h,_=>h.elim
theorem aJ2.flat{t k sz:Nat}{es:List (List D)}:∀{r r':List (List AV)},aJ2 t k sz es r r'->SeR t k sz es r.flatten r'.flatten
 | [],[],_=>⟨rfl,fun i h=>by simp at h⟩
 | x::a,y::b,h=>by
  have h0:=h.2 0 (by simp) (by simp);have ih:SeR t k sz es a.flatten b.flatten:=aJ2.flat ⟨by simpa using h.1,fun i h1 h2=>h.2 (i+1) (by simpa using h1) (by simpa using h2)⟩
  simp only[ck] at h0;refine⟨by simp[h0.1,ih.1],fun i h1 h2=>?_⟩;have hl:=h0.1;have uf:=ih.1;simp only[cr] at h1 h2 ⊢;rw[am] at h1 h2;by_cases hi:i<x.length
  .have e1:(x++a.flatten)[i]'(by rw[am];omega)=x[i]:=b6 hi
   have e2:(y++b.flatten)[i]'(by rw[am];omega)=y[i]'(by omega):=b6 (by omega)
   rw[e1,e2];exact h0.2 i hi _
  .have e1:(x++a.flatten)[i]'(by rw[am];omega)=a.flatten[i-x.length]'(by omega):=ch (by omega)
   have e2:(y++b.flatten)[i]'(by rw[am];omega)=b.flatten[i-y.length]'(by omega):=ch (by omega)
   rw[e1,e2];have:=ih.2 (i-x.length) (by omega) (by omega)
   simp only[hl] at this ⊢;exact this
 | [],_::_,h=>by have:=h.1;simp at this
 | _::_,[],h=>by have:=h.1;simp at this
section
variable {t k sz:Nat} {es:List (List D)}
@[simp] theorem aO7(x:AV):uV t k sz es x .bot:=.bot
@[simp] theorem aOj(x:AV):uV t k sz es x x:=.same
@[simp] theorem aRo{n:Nat}:uV t k sz es (.ex t sz es) (.msl k 0 n sz)↔n=es.length:=⟨fun h=>by cases h;rfl,fun h=>by subst h;exact .ex⟩
@[simp] theorem aQO(x:AV):uZ t k sz es x .bot:=.bot
@[simp] theorem aSY(x:D):uZ t k sz es (.d x) (.d x):=.same .d
@[simp] theorem aPo(n:Nat)(xs:List (List D))(o:Own):uZ t k sz es (.osl n xs o) (.osl n xs o):=.same (.osl fun _ _=>trivial)
@[simp] theorem aOn:uZ t k sz es (.msl k 0 es.length sz) (.ex t sz es):=.msl
end
@[simp] theorem aS0{p:Nat->Prop}{fz:Option (Nat × Nat × List (List D))}(t sz:Nat)(es:List (List D)):To p (fun _=>True) fz (.ex t sz es) (.ex t sz es):=.same (.ex trivial)
@[simp] theorem aSr{p q:Nat->Prop}{t sz:Nat}{es:List (List D)}:bF p q (.ex t sz es)↔q t:=⟨fun h=>by cases h;assumption,.ex⟩
theorem TK.more{mtok:Nat->Bool}{nt0:Nat}{tok:Nat->Bool}{nt:Nat}{os:List Own}(h:TK mtok nt0 tok nt os)(q:Nat):TK mtok nt0 (upd tok (nt+q) true) (nt+q+1) (.tok (nt+q)::os):=by
 have iv:=h.le;refine⟨fun t ht=>?_,h.lt,by omega,fun o ho t e=>?_,du.2 ⟨fun o ho t e e'=>?_,h.ne⟩⟩
 .have:=h.lt t ht
  rw[uO _ _ (by omega)];exact h.old t ht
 .rcases ca.1 ho with rfl|ho
  .cases e;exact⟨uS _ _ _,by omega,by omega⟩
  .obtain⟨h1,h2,h3⟩:=h.own o ho t e;exact⟨by rw[uO _ _ (by omega)];exact h1,h2,by omega⟩
 .cases e;have:=(h.own o ho _ e').2.2
  omega
abbrev U(n:Int):AV:=.d (.raw (.int .u64 n))
theorem u64_in{n:Int}(h0:0<=n)(h1:n<=18446744073709551615):IntKind.u64.wrap n=n:=by
 exact IntWalk.u64_in n ⟨h0,h1⟩
@[simp] theorem aM7(l:List Int):(dL l).tail=dL l.tail:=by simp[dL]
structure Sl where
 a:Int
 b:Int
 c:Int
 d:Int
 deriving DecidableEq,Inhabited
structure Te where
 k:Int
 a:Int
 b:Int
 c:Int
 d:Int
 deriving DecidableEq,Inhabited
abbrev Sl.cells(s:Sl):List D:=[.raw (.int .i64 s.a),.raw (.int .i64 s.b),.raw (.int .i64 s.c),.raw (.int .i64 s.d)]
abbrev Te.cells(t:Te):List D:=[.raw (.int .i64 t.k),.raw (.int .i64 t.a),.raw (.int .i64 t.b),.raw (.int .i64 t.c),.raw (.int .i64 t.d)]
abbrev iE(l:List Sl):D:=.sl 4 (l.map Sl.cells)
abbrev iG(l:List Te):D:=.sl 5 (l.map Te.cells)
inductive Cd where
 | mk (kind:Int) (kids:List Cd) (m:Mo) (g:Gr) (sl:List Sl) (vars:Int) (te:List Te)
def Cd.kind:Cd->Int|.mk k _ _ _ _ _ _=>k
def Cd.kids:Cd->List Cd|.mk _ c _ _ _ _ _=>c
def Cd.m:Cd->Mo|.mk _ _ m _ _ _ _=>m
def Cd.g:Cd->Gr|.mk _ _ _ g _ _ _=>g
def Cd.sl:Cd->List Sl|.mk _ _ _ _ s _ _=>s
def Cd.vars:Cd->Int|.mk _ _ _ _ _ v _=>v
def Cd.te:Cd->List Te|.mk _ _ _ _ _ _ t=>t
mutual
def Cd.cells:Cd->List D
 | .mk k c m g s v t=>[.raw (.int .i64 k),.sl 9 (Cd.rows c),ints m.nodes,ints m.edges,ints g.nodes,AM.edges g.edges,iE s,.raw (.int .i64 v),iG t]
def Cd.rows:List Cd->List (List D)
 | []=>[]
 | x::r=>Cd.cells x::Cd.rows r
end
theorem Cd.rows_map:∀l:List Cd,Cd.rows l=l.map Cd.cells
 | []=>by simp[Cd.rows]
 | x::r=>by simp[Cd.rows,Cd.rows_map r]
theorem Cd.cells_eq(c:Cd):c.cells=[.raw (.int .i64 c.kind),.sl 9 (c.kids.map Cd.cells),ints c.m.nodes,ints c.m.edges,ints c.g.nodes,AM.edges c.g.edges,iE c.sl,.raw (.int .i64 c.vars),iG c.te]:=by
 cases c;simp[Cd.cells,Cd.rows_map,Cd.kind,Cd.kids,Cd.m,Cd.g,Cd.sl,Cd.vars,Cd.te]
abbrev zU(l:List Cd):D:=.sl 9 (l.map Cd.cells)
abbrev Cd.row(c:Cd):List AV:=[I c.kind,.d (zU c.kids),.d (ints c.m.nodes),.d (ints c.m.edges),.d (ints c.g.nodes),.d (AM.edges c.g.edges),.d (iE c.sl),I c.vars,.d (iG c.te)]
abbrev Cd.av(c:Cd):AV:=.agg c.row
def dP:Nat:=100000000000000
theorem bP:dP=100000000000000:=rfl
def aIe:Nat:=764877654105
theorem aKA:aIe=764877654105:=rfl
inductive Cd.Big:Cd->Prop
 | mk {c:Cd} (hk:c.kids.length<=aIe) (xy:c.m.nodes.length<=dP) (Ck:c.m.edges.length<=dP) (rc:c.g.nodes.length<=dP) (hge:c.g.edges.length<=dP) (hs:c.sl.length<=dP) (ht:c.te.length<=dP)
   (h:∀x∈c.kids,Cd.Big x):Cd.Big c
theorem Cd.Big.kids{c:Cd}(h:c.Big):c.kids.length<=aIe:=by cases h;assumption
mutual
def Cd.meas:Cd->Int × Int
 | .mk k c _ _ _ _ _=>let a:=Cd.measL c (1,0);if k=5 then (a.1,IntKind.i64.wrap (a.2+1)) else a
def Cd.measL:List Cd->Int × Int->Int × Int
 | [],a=>a
 | x::r,a=>Cd.measL r (IntKind.i64.wrap (a.1+(Cd.meas x).1),max a.2 (Cd.meas x).2)
end
theorem Cd.get{l:List Cd}{i:Nat}(h:i<l.length):(l.map Cd.cells)[i]?=some [.raw (.int .i64 l[i].kind),zU l[i].kids,ints l[i].m.nodes,ints l[i].m.edges,ints l[i].g.nodes,AM.edges l[i].g.edges,iE l[i].sl,.raw (.int .i64 l[i].vars),iG l[i].te]:=by
 simp[h,Cd.cells_eq l[i]]
def z0(n:Int):Bool:=n==0
def aJY(c:Cd):Bool:=z0 c.sl.length&&(z0 c.vars&&z0 c.te.length)
def aBD(c:Cd):Bool:=z0 c.m.nodes.length&&(z0 c.m.edges.length&&(z0 c.g.nodes.length&&(z0 c.g.edges.length&&aJY c)))
def okC(c:Cd):Bool :=
 if c.kind=1 then z0 c.kids.length&&aBD c
 else if c.kind=2 then decide ((c.kids.length:Int)=1)&&aBD c
 else if c.kind=3∨c.kind=4 then decide (0<c.kids.length)&&aBD c
 else if c.kind=5 then decide ((c.kids.length:Int)=1)
 else false
def aIz(c:Cd):Int:=if okC c=true then if aJY c=true then 0 else 8 else 1
def aNH(c:Cd):Int:=if 2000<c.meas.1∨3<c.meas.2 then 3 else 0
variable {P:Program}
inductive Bo (box:Bxs):AV->AV->Prop
 | same {x} (h:bF (fun _=>False) (fun _=>True) x):Bo box x x
 | msl {k sz:Nat} {es:List (List D)} (hk:box k=some (cI es)):Bo box (.msl k 0 es.length sz) (.d (.sl sz es))
def BoL(box:Bxs):List AV->List AV->Prop
 | [],[]=>True
 | x::a,y::b=>Bo box x y/\BoL box a b
 | _,_=>False
theorem Bo.ext{box box':Bxs}(he:Ext box box'){x y:AV}(h:Bo box x y):Bo box' x y:=by
 cases h with
 | same h=>exact .same h
 | msl h=>exact .msl (he _ _ h)
theorem BoL.ext{box box':Bxs}(he:Ext box box'):∀{a b:List AV},BoL box a b->BoL box' a b
 | [],[],_=>trivial
 | x::a,y::b,h=>⟨h.1.ext he,BoL.ext he h.2⟩
 | [],_::_,h=>h.elim
 | _::_,[],h=>h.elim
def Gh.lend(G:Gh)(p:Nat->Prop)[DecidablePred p]:Gh:={ bx:=fun _=>none,kind:=fun b=>if p b then .whole else G.kind b,tk:=G.tk,nt:=G.nt }
theorem aFK{G:Gh}{p:Nat->Prop}[DecidablePred p]{a:Addr}(h:G.ps a):(G.lend p).ps a:=by
 unfold Gh.ps at h ⊢;simp only[Gh.lend];by_cases e:p a.block
 .simp[e]
 .simp only[e,↓reduceIte];exact h
theorem RV.lend{G:Gh}{w:World}{p:Nat->Prop}[DecidablePred p](hp:∀b,p b->G.kind b=.box){x:AV}{v:Value}(h:RV G w x v)(ho:bF (fun _=>False) (fun _=>True) x):RV (G.lend p) w x v:=by
 have hc:∀(a:Addr) (u:Value),G.ps a->w.cell? a=some u->(G.lend p).ps a/\w.cell? a=some u:=fun a u h1 h2=>⟨aFK h1,h2⟩
 have hk:∀g,G.kind g≠.box->(G.lend p).kind g=G.kind g:=fun g hg=>by
  simp only[Gh.lend];rw[ac fun e=>hg (hp g e)]
 induction h with
 | bot=>exact .bot
 | d h1=>exact .d (h1.mono hc)
 | osl h1 h2 =>
  refine .osl (h1.mono hc) ?_;rename_i o _;cases o with
  | full=>exact h2
  | tok t =>
   refine⟨h2.1,fun y hy=>?_⟩;have:=h2.2 y hy
   cases y with
   | none=>exact this
   | some g =>
    obtain⟨cap,hv,hg⟩:=this;exact⟨cap,hv,(hk g (by rw[hg];intro e;cases e)).trans hg⟩
 | ptr h1=>cases ho with|ptr h=>exact h.elim
 | here h1 h2=>cases ho with|here h=>exact h.elim
 | buf h1 h2 h3 h4 =>
  refine .buf (h1.mono hc) ⟨h2.1,fun y hy=>?_⟩ h3 h4;have:=h2.2 y hy
  cases y with
  | none=>exact this
  | some g =>
   obtain⟨cap,hv,hg⟩:=this;exact⟨cap,hv,(hk g (by rw[hg];intro e;cases e)).trans hg⟩
 | cptr a u h1 h2=>exact .cptr a u (fun j hj=>hc _ _ (h1 j hj).1 (h1 j hj).2) fun j hj=>(h2 j hj).mono hc
 | msl h1=>cases ho with|msl h=>exact h.elim
 | fn hl _ ih=>cases ho with|fn h=>exact .fn hl fun i h1 h2=>ih i h1 h2 (h _ (aa h1))
 | agg hl _ jq ih=>cases ho with|agg h=>exact .agg hl (fun i h1 h2=>ih i h1 h2 (h _ (aa h1))) jq
 | tup hl _ ih=>cases ho with|tup h=>exact .tup hl fun i h1 h2=>ih i h1 h2 (h _ (aa h1))
 | ex h1 =>
  obtain⟨r1,r0,r2⟩:=h1;refine .ex ⟨r1,r0,fun y hy=>?_⟩;obtain⟨g,cap,cs,e,rfl,h2,h3,h4,h5,h6,h7,h8,h9,yi⟩:=r2 y hy;exact⟨g,cap,cs,e,rfl,h2,h3,h4,(hk g (by rw[h5];intro e;cases e)).trans h5,h6,h7,h8,fun i g1 g2=>(h9 i g1 g2).mono hc,yi⟩
 | stk h1 =>
  obtain⟨r1,A,cap,hv,hc1,hm,r2⟩:=h1;refine .stk ⟨r1,A,cap,hv,hc1,hm,fun y hy=>?_⟩;have h0:=r2 y hy;cases y with
  | none=>exact h0
  | some g =>
   obtain⟨hA,vs,sp,e,h5,h6,h7,h8,h9⟩:=h0;exact⟨hA,vs,sp,e,(hk g (by rw[h5];intro e;cases e)).trans h5,h6,h7,h8.mono hc,h9⟩
 | que h1 h2=>exact .que (h1.mono hc) (h2.imp h2.1 fun x hx=>⟨hx,fun g _ f c he=>(hk g (by rw[he];intro e;cases e)).trans he⟩)
 | mp h1 =>
  refine .mp (h1.imp h1.1 (fun _ _ _ _ k=>k) hc (fun x hx=>⟨hx,fun g _ he=>⟨(hk g (by rw[he];intro e;cases e)).trans he,rfl⟩⟩) fun e _ n u h2=>?_);generalize e.2.2=o at h2 ⊢;cases o with
  | full=>exact h2
  | tok t =>
   refine⟨h2.1,fun y hy=>?_⟩;have:=h2.2 y hy
   cases y with
   | none=>exact this
   | some g =>
    obtain⟨cap,hv,hg⟩:=this;exact⟨cap,hv,(hk g (by rw[hg];intro e;cases e)).trans hg⟩
 | mpd h1=>exact .mpd (h1.imp hc fun r _ qm=>⟨by simp only[Gh.lend];split;rfl;exact qm,rfl⟩)
theorem Bo.lend{G:Gh}{m:bH}{w:World}{p:Nat->Prop}[DecidablePred p](hm:aV G m w)(hp:∀b,p b↔∃k sz,G.bx k=some (b,sz)){x y:AV}{v:Value}(hb:Bo m.box x y)(h:RV G w x v):RV (G.lend p) w y v:=by
 have wv:∀b,p b->G.kind b=.box:=fun b hb=>by
  obtain⟨k,sz,h⟩:=(hp b).1 hb;exact(hm.blt h).2
 cases hb with
 | same ho=>exact h.lend wv ho
 | @msl k sz es hk =>
  letI:DecidablePred (fun _:Nat=>False):=fun _=>Classical.propDecidable _
  generalize hx:(AV.msl k 0 es.length sz)=x at h;have h':=h
  cases h with
  | @msl k' off n b sz' cap h1 h2 h3 =>
   cases hx;have hw:RV (G.weak (fun _=>False) (some b) G.nt) w (.d (.sl sz es)) (.slice (some ⟨b,0*sz,none⟩) es.length cap):=by
    refine RV.to (q:=fun _=>True) (fz:=some (k,sz,es)) hm (fun j hj=>by cases hj;exact(hm.blt h1).2) ?_ ?_ h' (.frz rfl) (fun t _ ht=>ht)
    .intro k2 sz2 es2 e;cases e;obtain⟨_,cs,e',_,hs,_⟩:=hm.box k (cI es) b sz hk h1;refine⟨cI es,hk,by simp,hs,fun i g1 g2=>?_⟩;have:(cI es)[i]=(es[i]).map AV.d:=by simp[cI]
     rw[this];exact vY _
    .intro k2 sz2 es2 e j s hj;cases e;rw[h1] at hj;cases hj;rfl
   cases hw with
   | d hd =>
    refine .d (hd.mono fun a u h4 h5=>⟨?_,h5⟩);unfold Gh.ps at h4 ⊢;simp only[Gh.weak,Gh.lend] at h4 ⊢;by_cases e:p a.block
    .simp[e]
    .simp only[e,↓reduceIte];have hne:¬(some b=some a.block):=fun e2=>e ((hp _).2 ⟨k,sz,by cases e2;exact h1⟩)
     simp only[hne,↓reduceIte] at h4;exact h4
  | _=>cases hx
theorem BoL.lend{G:Gh}{m:bH}{w:World}{p:Nat->Prop}[DecidablePred p](hm:aV G m w)(hp:∀b,p b↔∃k sz,G.bx k=some (b,sz)):∀{xs ys:List AV} {vs:List Value},BoL m.box xs ys->RVs G w xs vs->RVs (G.lend p) w ys vs
 | [],[],vs,_,h=>⟨by have:=h.1;simpa using this,fun i h=>by simp at h⟩
 | x::a,y::b,vs,hb,h=>by
  obtain⟨v,us,rfl,h1,h2⟩:=h.uncons;exact RVs.cons (hb.1.lend hm hp h1) (BoL.lend hm hp hb.2 h2)
 | [],_::_,_,h,_=>h.elim
 | _::_,[],_,h,_=>h.elim
theorem cW.lent{f:FuncId}{args args':List AV}{box:Bxs}{tok:Nat->Bool}{nt:Nat}{u:Value}{tok':Nat->Bool}{nt':Nat}(hu:u.oneCell'=true)(h:cZ P f args' tok nt (.d (.raw u)) tok' nt')(hb:BoL box args args'):cW P f args box tok nt (.d (.raw u)) tok' nt':=by
 classical
 intro box' nb zd;have hb':=hb.ext zd
 obtain⟨qt,hc⟩:=h (fun _=>none) nb;refine⟨qt,fun G w vals hm hr=>?_⟩
 let p:Nat->Prop:=fun b=>∃k sz,G.bx k=some (b,sz)
 have hp:∀b,p b↔∃k sz,G.bx k=some (b,sz):=fun b=>Iff.rfl
 have wv:∀b,p b->b<w.heap.size/\G.kind b=.box:=fun b ⟨k,sz,hk⟩=>hm.blt hk
 have htk:∀t g,G.tk t=some (some g)->¬p g:=fun t g ht AH=>by
  obtain⟨f',cur,e,h1,_⟩:=hm.tokb t g ht;rw[(wv g AH).2] at h1;rcases h1 with ⟨h1,_⟩|h1<;>cases h1
 have tu:aV (G.lend p) ⟨fun _=>none,nb,tok,nt⟩ w:=by
  constructor
  case box=>intro k rows b sz h1;cases h1
  case nobox=>intro k _;rfl
  case inj=>intro k k' b sz sz' h1;cases h1
  case nb=>intro k _;rfl
  case nt=>exact hm.nt
  case toks=>exact hm.toks
  case tokb =>
   intro t g ht;obtain⟨f',cur,e,h1,h2⟩:=hm.tokb t g ht;refine⟨f',cur,e,?_,h2⟩;simp only[Gh.lend];rw[ac (htk t g ht)];exact h1
  case tinj=>exact hm.tinj
  case tnt=>exact hm.tnt
  case glob=>exact hm.glob.mono fun a u h1 h2=>⟨aFK h1,h2⟩
  case fresh =>
   intro b ki;simp only[Gh.lend];split
   .rfl
   .exact hm.fresh b ki
 refine Calls.mono (hc (G.lend p) w vals tu (hb'.lend hm hp hr)) ?_;rintro e w' ⟨v,av,m',G1,rfl,⟨rfl,rfl⟩,h3,h4,h5,h6,h7⟩;have hv:v=u:=by cases h5 with|d h=>cases h;rfl
 subst hv;have jk:∀b,p b->G1.kind b=.whole/\w'.heap[b]?=w.heap[b]?:=fun b ki=>h6.whole b (wv b ki).1 (by simp[Gh.lend,ki])
 let G2:Gh:={ bx:=G.bx,kind:=fun b=>if p b then .box else G1.kind b,tk:=G1.tk,nt:=G1.nt }
 have iv:Le G w G2 w':=by
  refine⟨h6.os,h6.tape,h6.output,h6.size,fun b ki hk=>?_,fun b f' c hk=>?_,fun _ _ h=>h,h6.nt,fun t ht=>?_,?_⟩
  .have hn:¬p b:=fun e=>by rw[(wv b e).2] at hk;cases hk
   obtain⟨a1,a2⟩:=h6.whole b ki (by simp only[Gh.lend];rw[ac hn];exact hk);exact⟨by simp only[G2];rw[ac hn];exact a1,a2⟩
  .have hn:¬p b:=fun e=>by rw[(wv b e).2] at hk;cases hk
   obtain⟨⟨f2,a1,a2⟩,a3⟩:=h6.part b f' c (by simp only[Gh.lend];rw[ac hn];exact hk);exact⟨⟨f2,a1,by simp only[G2];rw[ac hn];exact a2⟩,a3⟩
  .rcases h6.tk t ht with a1|⟨a1,a2⟩
   .exact .inl a1
   .refine .inr ⟨a1,fun g hg=>?_⟩;have hn:=htk t g hg;obtain⟨b1,b2⟩:=a2 g hg;simp only[Gh.lend] at b1 b2;rw[ac hn] at b1 b2;exact⟨by simp only[G2];rw[ac hn];exact b1,b2⟩
  .exact h6.ty
 refine⟨v,_,_,G2,rfl,⟨rfl,rfl⟩,rfl,?_,.d (.raw hu),iv,fun k hk=>⟨hk,rfl⟩⟩;constructor
 case box =>
  intro k rows b sz hk ki;obtain⟨g1,cs,e,g2,g3,g4,g5⟩:=hm.box k rows b sz hk ki;have wd:p b:=⟨k,sz,ki⟩
  exact⟨by simp[G2,wd],cs,e,(jk b wd).2.trans g2,g3,g4.mono iv,g5⟩
 case nobox=>exact hm.nobox
 case inj=>exact hm.inj
 case nb=>exact hm.nb
 case nt=>exact h4.nt
 case toks=>exact h4.toks
 case tokb =>
  intro t g ht;obtain⟨f',cur,e,g1,g2⟩:=h4.tokb t g ht;refine⟨f',cur,e,?_,g2⟩;have hn:¬p g:=fun AH=>by
   rw[(jk g AH).1] at g1;rcases g1 with ⟨g1,_⟩|g1<;>cases g1
  simp only[G2];rw[ac hn];exact g1
 case tinj=>exact h4.tinj
 case tnt=>exact h4.tnt
 case glob=>exact hm.glob.mono iv.cells
 case fresh =>
  intro b ki;have:=h6.size
  have hn:¬p b:=fun zf=>by have:=(wv b zf).1;omega
  simp only[G2];rw[ac hn];exact h4.fresh b ki
open Go Go.Proofs Go.RowKit
open Go.Proofs.Tryz
def fZ(p:Gr)(N:List Int)(i:Nat):E:=⟨(p.edges.getD i default).ty,N.getD (p.edges.getD i default).fr.toNat 0,N.getD (p.edges.getD i default).to.toNat 0⟩
abbrev aOJ(p g:Gr)(kn n ke m:Nat)(f:FuncId)(caps:List AV):List AV:=[.d (ints p.nodes),.d (AM.edges p.edges),.d (ints g.nodes),.d (AM.edges g.edges),.msl kn 0 n 1,.msl ke 0 m 1,.fn (.func f) caps]
structure ExH (p g:Gr) (f:FuncId) (caps:List AV) (kx kn ke:Nat) (E0:Bxs) (N Es:List Int) (box:Bxs):Prop where
 ext:Ext E0 box
 x:box kx=some [aOJ p g kn p.nodes.length ke p.edges.length f caps]
 n:box kn=some (dL N)
 e:box ke=some (dL Es)
 nl:N.length=p.nodes.length
 el:Es.length=p.edges.length
theorem ExH.lb{p g:Gr}{f:FuncId}{caps:List AV}{kx kn ke nb:Nat}{E0:Bxs}{N Es:List Int}{box:Bxs}(h:ExH p g f caps kx kn ke E0 N Es box)(hb:lb nb box []=box)(loc:List (Nat × List (List AV))):
  ExH p g f caps kx kn ke E0 N Es (AM.lb nb box loc) :=
 ⟨Ext.lb h.ext hb loc,by rw[lO (bC hb h.x)];exact h.x,by rw[lO (bC hb h.n)];exact h.n,by rw[lO (bC hb h.e)];exact h.e,h.nl,h.el⟩
def aIv(l:List Int)(i:Nat):Prop:=∀j,j<i->0<=l.getD j 0
theorem aIv.set{l:List Int}{i:Nat}(h:aIv l i)(hi:i<l.length)(k:Nat):aIv (l.set i k) (i+1):=fun j hj=>by
 by_cases e:j=i
 .subst e;simp[hi]
 .have:=h j (by omega)
  simpa[List.getD,List.getElem?_set,Ne.symm e] using this
theorem aIv.all{l:List Int}{i:Nat}(h:aIv l i)(hi:i=l.length):∀x∈l,0<=x:=fun x hx=>by
 obtain⟨j,hj,rfl⟩:=bf hx;have:=h j (by omega)
 simpa[hj] using this
inductive Cd.Fit:Cd->Prop
 | mk {c:Cd} (hk:c.kids.length<=aIe) (hm:c.m.Fit) (hg:c.g.Fit) (hs:c.sl.length<=dP) (ht:c.te.length<=dP) (h:∀x∈c.kids,Cd.Fit x):Cd.Fit c
theorem Cd.Fit.kids{c:Cd}(h:c.Fit):c.kids.length<=aIe:=by cases h;assumption
theorem Cd.Fit.m{c:Cd}(h:c.Fit):c.m.Fit:=by cases h;assumption
theorem Cd.Fit.g{c:Cd}(h:c.Fit):c.g.Fit:=by cases h;assumption
theorem Cd.Fit.big{c:Cd}(h:c.Fit):c.Big:=by
 induction h with
 | mk hk hm hg hs ht _ ih =>
  refine⟨hk,?_,?_,?_,?_,hs,ht,ih⟩
  .have:=hm.n;rw[bP];omega
  .have:=hm.e;rw[bP];omega
  .have:=hg.n;rw[bP];omega
  .have:=hg.e;rw[bP];omega
def aFC(a:Gr)(k:Int)(m:Mo)(g:Gr):Int:=if k=5 then (if aG a g m≠0 then aG a g m else if fV a g m=true then 0 else 1) else 0
mutual
def Cd.ovr:Cd->Gr->Int
 | .mk k c m g s v t,a=>if aIz (.mk k c m g s v t)=0 then if aFC a k m g=0 then Cd.ovrL c (if k=5 then g else a) else aFC a k m g else aIz (.mk k c m g s v t)
def Cd.ovrL:List Cd->Gr->Int
 | [],_=>0
 | x::r,a=>if Cd.ovr x a=0 then Cd.ovrL r a else Cd.ovr x a
end
abbrev Cd.inn(c:Cd)(a:Gr):Gr:=if c.kind=5 then c.g else a
def aBJ(a:Gr)(c:Cd):Int:=if vG a≠0 then vG a else if c.ovr a≠0 then c.ovr a else aNH c
theorem ThR.nil{t k sz:Nat}{es:List (List D)}:ThR t k sz es [] []:=⟨rfl,fun i h=>by simp at h⟩
theorem ThR.cons{t k sz:Nat}{es:List (List D)}{x y:AV}{r r':List AV}(h:uV t k sz es x y)(hr:ThR t k sz es r r'):ThR t k sz es (x::r) (y::r'):=by
 refine⟨by simp[hr.1],fun i h1 h2=>?_⟩
 match i with
 | 0=>exact h
 | i+1=>exact hr.2 i (by simpa using h1) (by simpa using h2)
theorem aBp.one{t k sz:Nat}{es:List (List D)}{r r':List AV}(h:ThR t k sz es r r'):aBp t k sz es [r] [r']:=by
 refine⟨rfl,fun i h1 h2=>?_⟩
 match i with
 | 0=>exact h
 | i+1=>simp at h1
theorem aBp.same{t k sz:Nat}{es:List (List D)}{r:List (List AV)}:aBp t k sz es r r:=⟨rfl,fun i h1 h2=>⟨rfl,fun j g1 g2=>.same⟩⟩
structure Inn (m:Mo) (a b:Gr):Prop where
 ln:m.nodes.length=a.nodes.length
 le:m.edges.length=a.edges.length
 n:∀x∈m.nodes,0<=x/\x<b.nodes.length
 e:∀x∈m.edges,0<=x/\x<b.edges.length
theorem Inn.of{a b:Gr}{m:Mo}(h:aG a b m=0):Inn m a b:=have V:=lE h;⟨V.ln,V.le,V.n,V.e⟩
structure aPl (b p:Gr) (o:Ov):Prop where
 l:aG b o.g o.l=0
 r:aG p o.g o.r=0
 il:fV b o.g o.l=true
 ir:fV p o.g o.r=true
theorem iI{b p:Gr}{o:Ov}(ho:o∈(oR b p).1):aPl b p o:=by
 by_cases hb:vG b=0
 .by_cases hp:vG p=0
  .by_cases hs:40<b.nodes.length+p.nodes.length∨80<b.edges.length+p.edges.length
   .simp[oR,hb,hp,hs] at ho
   .rw[xJ b p hb hp hs] at ho;split at ho
    .simp at ho
    .simp only[pJ,bc] at ho;obtain⟨⟨x,es⟩,h1,rfl⟩:=ho;have CZ:=(aEW b p _).1 h1;have g1:=aDS hb hp (by omega) CZ;have g2:=aHe hb hp (by omega) CZ;exact⟨g1.2.1,g1.2.2,g2.1,g2.2.1⟩
  .simp[oR,hb,hp] at ho
 .simp[oR,hb] at ho
abbrev St2:=Int × Int
def sZ(k:Int)(kids:List Cd):Cd:=.mk k kids ⟨[],[]⟩ ⟨[],[]⟩ [] 0 []
theorem jI{l:List Int}:l.Nodup↔∀i j,i<j->j<l.length->l.getD i 0≠l.getD j 0:=by
 unfold List.Nodup;rw[dh];constructor
 .intro h i j pr hj;have:=h i j (by omega) hj pr
  simpa[hj,show i<l.length by omega] using this
 .intro h i j hi hj pr;have:=h i j pr hj
  simpa[hi,hj] using this
theorem aDm{l l':List Int}(h:l.length=l'.length)(h2:∀j,j<l.length->l.getD j 0=l'.getD j 0):l=l' :=
 f7 h fun i h1 h3=>by have:=h2 i h1;simpa[h1,h3] using this
structure Emb (a b:Gr) (m:Mo):Prop where
 v:aG a b m=0
 n:m.nodes.Nodup
 e:m.edges.Nodup
theorem Emb.vm{a b:Gr}{m:Mo}(h:Emb a b m):VM a b m:=lE h.v
theorem Emb.inj{a b:Gr}{m:Mo}(h:Emb a b m):fV a b m=true:=(aEd a b m).2 ⟨h.v,h.n,h.e⟩
theorem Emb.of{a b:Gr}{m:Mo}(h:fV a b m=true):Emb a b m:=have h:=(aEd a b m).1 h;⟨h.1,h.2.1,h.2.2⟩
theorem Emb.inn{a b:Gr}{m:Mo}(h:Emb a b m):Inn m a b:=have V:=h.vm;⟨V.ln,V.le,V.n,V.e⟩
theorem aBS(l h:List Int):(byK l h l.length).length=l.length:=by simp
theorem nC{l h:List Int}{i:Nat}(hi:i<l.length):(byK l h l.length).getD i 0=h.getD (l.getD i 0).toNat 0:=by simp[byK,hi]
theorem aBt{x:Int}{n:Nat}(h:0<=x/\x<n):x.toNat<n/\((x.toNat:Nat):Int)=x:=by omega
theorem aAx{l h:List Int}{n:Nat}(hl:l.Nodup)(hh:h.Nodup)(hr:∀x∈l,0<=x/\x<h.length):(byK l h l.length).Nodup:=by
 rw[jI];intro i j pr hj;rw[aBS] at hj;rw[nC (by omega),nC hj];intro e;have h1:=hr _ (aR (d:=0) (show i<l.length by omega));have h2:=hr _ (aR (d:=0) hj);have:=mO hh (by omega) (by omega) e
 have:=mO hl (show i<l.length by omega) hj (by omega)
 omega
theorem Emb.comp{a b c:Gr}{m n:Mo}(h:Emb a b m)(k:Emb b c n):Emb a c (pN m n):=by
 have v:=h.vm;have w:=k.vm;have rn:∀x∈m.nodes,0<=x/\x<n.nodes.length:=fun x hx=>by rw[w.ln];exact v.n x hx
 have re:∀x∈m.edges,0<=x/\x<n.edges.length:=fun x hx=>by rw[w.le];exact v.e x hx
 have gn:∀i,i<a.nodes.length->(pN m n).nodes.getD i 0=n.nodes.getD (m.nodes.getD i 0).toNat 0:=fun i hi=>nC (by rw[v.ln];exact hi)
 have ge:∀i,i<a.edges.length->(pN m n).edges.getD i 0=n.edges.getD (m.edges.getD i 0).toNat 0:=fun i hi=>nC (by rw[v.le];exact hi)
 refine⟨oZ ⟨v.va,w.vb,by rw[<-v.ln];exact aBS _ _,by rw[<-v.le];exact aBS _ _,fun x hx=>?_,fun x hx=>?_,fun i hi=>?_,fun i hi=>?_⟩,aAx (n:=0) h.n k.n rn,aAx (n:=0) h.e k.e re⟩
 .obtain⟨i,hi,rfl⟩:=eR hx;have oe:i<a.nodes.length:=by rw[<-v.ln];simpa[pN] using hi
  rw[gn i oe];exact w.n _ (aR (aBt (rn _ (aR (by rw[v.ln];exact oe)))).1)
 .obtain⟨i,hi,rfl⟩:=eR hx;have oe:i<a.edges.length:=by rw[<-v.le];simpa[pN] using hi
  rw[ge i oe];exact w.e _ (aR (aBt (re _ (aR (by rw[v.le];exact oe)))).1)
 .rw[gn i hi];have h1:=aBt (v.n _ (aR (d:=0) (show i<m.nodes.length by rw[v.ln];exact hi)));rw[w.nt _ h1.1,v.nt i hi]
 .rw[ge i hi];have h1:=aBt (v.e _ (aR (d:=0) (show i<m.edges.length by rw[v.le];exact hi)));rw[w.et _ h1.1,v.et i hi];have hx:=aE v.va (a.edges.getD i default) (aR hi);simp only;rw[gn _ (by omega),gn _ (by omega)]
section
variable {α:Type} {f:α->St2->List Cd × St2} (hs:∀x s,(f x s).2.2=0->s.2=0)
include hs
end
theorem aBj{b p:Gr}{o:Ov}(ho:o∈(oR b p).1):Emb b o.g o.l/\Emb p o.g o.r:=⟨Emb.of (iI ho).il,Emb.of (iI ho).ir⟩
theorem yE(n:Nat):(fD n).Nodup:=by
 rw[jI];intro i j pr hj;rw[tW] at hj;rw[cV (by omega),cV hj];omega
theorem aDe{x:Int}{n:Nat}(h:x∈fD n):0<=x/\x<n:=by
 obtain⟨i,hi,rfl⟩:=bc.1 h;have:=ay.1 hi
 omega
structure Pre (a b:Gr):Prop where
 va:vG a=0
 vb:vG b=0
 n:∃t,b.nodes=a.nodes++t
 e:∃t,b.edges=a.edges++t
theorem Pre.emb{a b:Gr}(h:Pre a b):Emb a b (idM a):=by
 obtain⟨t,ht⟩:=h.n;obtain⟨u,hu⟩:=h.e;have ea:=aE h.va;refine⟨oZ ⟨h.va,h.vb,by simp[idM],by simp[idM],fun x hx=>?_,fun x hx=>?_,fun i hi=>?_,fun i hi=>?_⟩,yE _,yE _⟩
 .have:=aDe (show x∈fD a.nodes.length from hx)
  rw[ht];simp only[am];omega
 .have:=aDe (show x∈fD a.edges.length from hx)
  rw[hu];simp only[am];omega
 .simp only[idM];rw[cV hi,bz,ht,nF hi]
 .simp only[idM];have hx:=ea (a.edges.getD i default) (aR hi);rw[cV hi,bz,hu,nF hi,cV (by omega),cV (by omega)];rw[fq hx.1,fq hx.2.2.1]
theorem Pre.refl{a:Gr}(h:vG a=0):Pre a a:=⟨h,h,⟨[],by simp⟩,⟨[],by simp⟩⟩
def mtI(F G:List Int)(n:Nat):List Int:=(List.range n).map fun (j:Nat)=>if aU G j<0 then -1 else F.getD (aU G j).toNat 0
def aOx(b c:Gr)(f g:Mo):Ov:=bV b c (mtI f.nodes g.nodes c.nodes.length) (mtI f.edges g.edges c.edges.length)
def jZ(l:List Int)(n:Int)(i:Nat):Int:=if l.getD i 0<0∨n<=l.getD i 0 then 6 else if 0<i/\l.getD i 0<=l.getD (i-1) 0 then 12 else 0
def kC(l:List Int)(n:Int):Int:=aA (jZ l n) l.length
def gR(g:Gr)(p:Mo)(i:Nat):Int:=if (g.edges.getD (p.edges.getD i 0).toNat default).fr∈p.nodes/\(g.edges.getD (p.edges.getD i 0).toNat default).to∈p.nodes then 0 else 14
def fC(g:Gr)(p:Mo):Int :=
 if kC p.nodes g.nodes.length≠0 then kC p.nodes g.nodes.length else if kC p.edges g.edges.length≠0 then kC p.edges g.edges.length else aA (gR g p) p.edges.length
def cU(g:Gr)(p:Mo):Int:=if vG g≠0 then vG g else fC g p
theorem aBY{l:List Int}{n:Int}(h:kC l n=0):∀j i,i<j->j<l.length->l.getD i 0<l.getD j 0
 | 0,i,hi,_=>absurd hi (b8 _)
 | j+1,i,hi,hj=>by
  have h1:=dD _ h (j+1) hj;unfold jZ at h1;split at h1
  .cases h1
  .split at h1
   .cases h1
   .rename_i h3;have h4:l.getD j 0<l.getD (j+1) 0:=by
     have:j+1-1=j:=rfl
     rw[this] at h3;omega
    by_cases e:i=j
    .subst e;exact h4
    .have:=aBY h j i (by omega) (by omega)
     omega
theorem vJ{l:List Int}{n:Int}(h:kC l n=0):∀x∈l,0<=x/\x<n:=fun x hx=>by
 obtain⟨i,hi,rfl⟩:=eR hx;have h1:=dD _ h i hi;unfold jZ at h1;split at h1
 .cases h1
 .omega
theorem aIY{l:List Int}{n:Int}(h1:∀x∈l,0<=x/\x<n)(h2:∀j i,i<j->j<l.length->l.getD i 0<l.getD j 0):kC l n=0:=cD _ fun i hi=>by
 have r:=h1 _ (aR (d:=0) hi);unfold jZ;rw[ac (by omega),ac];rintro⟨h3,h4⟩;have:=h2 i (i-1) (by omega) hi
 omega
structure VP (g:Gr) (p:Mo):Prop where
 va:vG g=0
 n:∀x∈p.nodes,0<=x/\x<g.nodes.length
 e:∀x∈p.edges,0<=x/\x<g.edges.length
 sn:∀j i,i<j->j<p.nodes.length->p.nodes.getD i 0<p.nodes.getD j 0
 se:∀j i,i<j->j<p.edges.length->p.edges.getD i 0<p.edges.getD j 0
 c:∀x∈p.edges,(g.edges.getD x.toNat default).fr∈p.nodes/\(g.edges.getD x.toNat default).to∈p.nodes
theorem VP.of{g:Gr}{p:Mo}(h:cU g p=0):VP g p:=by
 unfold cU at h;split at h
 .contradiction
 .rename_i h1;unfold fC at h;split at h
  .contradiction
  .rename_i h2;split at h
   .contradiction
   .rename_i h3;have vv:=dq.1 h2
    have Da:=dq.1 h3
    refine⟨dq.1 h1,vJ vv,vJ Da,aBY vv,aBY Da,fun x hx=>?_⟩;obtain⟨i,hi,rfl⟩:=eR hx;have h4:=dD _ h i hi;unfold gR at h4;split at h4
    .assumption
    .cases h4
theorem VP.v{g:Gr}{p:Mo}(h:VP g p):cU g p=0:=by
 unfold cU fC;rw[ac (by simp[h.va]),ac (by simp[aIY h.n h.sn]),ac (by simp[aIY h.e h.se])];refine cD _ fun i hi=>?_
 unfold gR;rw[af (h.c _ (aR (d:=0) hi))]
theorem dN{l:List Int}(h:∀j i,i<j->j<l.length->l.getD i 0<l.getD j 0):l.Nodup:=by
 rw[jI];intro i j pr hj e;have:=h j i pr hj
 omega
theorem aH1{l:List Int}{n:Nat}(h:l.Nodup)(hr:∀x∈l,0<=x/\x<n):l.length<=n:=by
 have:=rN l (fD n) h fun x hx=>by
  have:=hr x hx
  simp only[fD,bc,ay];exact⟨x.toNat,by omega,by omega⟩
 simpa[fD] using this
theorem VP.len{g:Gr}{p:Mo}(h:VP g p):p.nodes.length<=g.nodes.length/\p.edges.length<=g.edges.length:=⟨aH1 (dN h.sn) h.n,aH1 (dN h.se) h.e⟩
def qY(g:Gr)(p:Mo)(k:Int):E:=⟨(g.edges.getD k.toNat default).ty,aU p.nodes (g.edges.getD k.toNat default).fr,aU p.nodes (g.edges.getD k.toNat default).to⟩
def exG(g:Gr)(p:Mo):Gr:=⟨p.nodes.map fun k=>g.nodes.getD k.toNat 0,p.edges.map (qY g p)⟩
theorem fH{l:List Int}{x:Int}(h:x∈l):0<=aU l x/\aU l x<l.length/\l.getD (aU l x).toNat 0=x:=by
 rcases tY l x with ⟨_,hn⟩|⟨k,h2,h3,h4⟩
 .exact absurd h hn
 .rw[h2];exact⟨by omega,by omega,h4⟩
theorem zV{l:List Int}(hl:l.Nodup){i:Nat}(h:i<l.length):aU l (l.getD i 0)=i:=by
 obtain⟨h1,h2,h3⟩:=fH (aR (d:=0) h);have:=mO hl (show (aU l (l.getD i 0)).toNat<l.length by omega) h h3
 omega
theorem VP.emb{g:Gr}{p:Mo}(h:VP g p):Emb (exG g p) g p:=by
 have hl:=h.len;obtain⟨hs,ht,he⟩:=bG h.va;have hv:vG (exG g p)=0:=by
  refine oQ (by simp only[exG,br];omega) (fun n hn=>?_) fun e hx=>?_
  .simp only[exG,bc] at hn;obtain⟨k,hk,rfl⟩:=hn;have:=h.n k hk
   exact ht _ (aR (by omega))
  .simp only[exG,bc] at hx;obtain⟨k,hk,rfl⟩:=hx;have h1:=h.e k hk;have h2:=h.c k hk;have h3:=(fL _ _).1 (he _ (aR (d:=default) (show k.toNat<g.edges.length by omega)));have i1:=fH h2.1;have i2:=fH h2.2;rw[fL];simp only[qY,exG,br];exact⟨h3.1,⟨i1.1,i1.2.1⟩,⟨i2.1,i2.2.1⟩⟩
 refine⟨oZ ⟨hv,h.va,by simp[exG],by simp[exG],h.n,h.e,fun i hi=>?_,fun i hi=>?_⟩,dN h.sn,dN h.se⟩
 .have oe:i<p.nodes.length:=by simpa[exG] using hi
  simp[exG,oe]
 .have oe:i<p.edges.length:=by simpa[exG] using hi
  have e1:(exG g p).edges.getD i default=qY g p (p.edges.getD i 0):=by simp[exG,oe]
  have h2:=h.c _ (aR (d:=0) oe);rw[e1];simp only[qY];rw[(fH h2.1).2.2,(fH h2.2).2.2]
def aL7(q h:Mo):Mo:=⟨h.nodes.map (aU q.nodes),h.edges.map (aU q.edges)⟩
def mJ(l:List Int)(n:Nat):List Int:=((List.range n).filter fun (k:Nat)=>decide ((k:Int)∈l)).map fun (k:Nat)=>(k:Int)
theorem jD{l:List Int}{n:Nat}{x:Int}:x∈mJ l n↔x∈l/\0<=x/\x<n:=by
 simp only[mJ,bc,ce,ay,au];constructor
 .rintro⟨k,⟨h1,h2⟩,rfl⟩;exact⟨h2,by omega,by omega⟩
 .rintro⟨h1,h2,h3⟩;exact⟨x.toNat,⟨by omega,by rwa [show ((x.toNat:Nat):Int)=x by omega]⟩,by omega⟩
theorem aBW(l:List Int)(n:Nat):(mJ l n).Pairwise (· < ·):=by
 unfold mJ;rw[List.pairwise_map];refine List.Pairwise.filter _ (List.Pairwise.imp (R:=(· < ·)) (fun h=>by omega) gj)
theorem jO{l:List Int}:l.Pairwise (· < ·)->∀j i,i<j->j<l.length->l.getD i 0<l.getD j 0:=fun h j i pr hj=>by
 have:=dh.1 h i j (by omega) hj pr
 simpa[ao,hj,show i<l.length by omega] using this
theorem aHM:∀{l m:List Int},l.Pairwise (· < ·)->m.Pairwise (· < ·)->(∀x,x∈l↔x∈m)->l=m
 | [],[],_,_,_=>rfl
 | [],y::m,_,_,h=>by have:=(h y).2 (by simp);simp at this
 | x::l,[],_,_,h=>by have:=(h x).1 (by simp);simp at this
 | x::l,y::m,hl,hm,h=>by
  rw[du] at hl hm;have h1:=(h x).1 (by simp);have h2:=(h y).2 (by simp);have e:x=y:=by
   rcases ca.1 h1 with h1|h1
   .exact h1
   .rcases ca.1 h2 with h2|h2
    .exact h2.symm
    .have:=hl.1 y h2
     have:=hm.1 x h1
     omega
  subst e;congr 1
  refine aHM hl.2 hm.2 fun z=>?_
  have:=h z
  simp only[ca] at this;constructor
  .intro hz;rcases this.1 (.inr hz) with e|e
   .subst e;have:=hl.1 z hz;omega
   .exact e
  .intro hz;rcases this.2 (.inr hz) with e|e
   .subst e;have:=hm.1 z hz;omega
   .exact e
def zJ(y:Gr)(q:Mo):Mo:=⟨mJ q.nodes y.nodes.length,mJ q.edges y.edges.length⟩
theorem aBT{c y:Gr}{q:Mo}(hq:Emb c y q):VP y (zJ y q):=by
 have v:=hq.vm;refine⟨v.vb,fun x hx=>(jD.1 hx).2,fun x hx=>(jD.1 hx).2,jO (aBW _ _),jO (aBW _ _),fun x hx=>?_⟩;obtain⟨h1,h2,h3⟩:=jD.1 hx;obtain⟨i,hi,rfl⟩:=eR h1;have oe:i<c.edges.length:=by rw[<-v.le];exact hi
 have he:=aE v.va (c.edges.getD i default) (aR oe);have m1:q.nodes.getD (c.edges.getD i default).fr.toNat 0∈q.nodes:=aR (by rw[v.ln];omega)
 have m2:q.nodes.getD (c.edges.getD i default).to.toNat 0∈q.nodes:=aR (by rw[v.ln];omega)
 rw[v.et i oe];exact⟨jD.2 ⟨m1,v.n _ m1⟩,jD.2 ⟨m2,v.n _ m2⟩⟩
def cA(images keep:List Int):List Int:=((List.range images.length).filter fun (i:Nat)=>decide ((i:Int)∉keep)).map fun (i:Nat)=>images.getD i 0
def gH(n:Nat)(images keep:List Int):List Int:=((List.range n).filter fun (k:Nat)=>decide ((k:Int)∉cA images keep)).map fun (k:Nat)=>(k:Int)
def kA(g:Gr)(keep m:Mo):Bool:=(List.range g.edges.length).any fun (i:Nat)=>decide ((i:Int)∉m.edges/\((g.edges.getD i default).fr∈cA m.nodes keep.nodes∨(g.edges.getD i default).to∈cA m.nodes keep.nodes))
def aHf(g:Gr)(keep m:Mo):Mo:=⟨gH g.nodes.length m.nodes keep.nodes,gH g.edges.length m.edges keep.edges⟩
theorem oS{images keep:List Int}{x:Int}:x∈cA images keep↔∃i:Nat,i<images.length/\(i:Int)∉keep/\images.getD i 0=x:=by
 simp only[cA,bc,ce,ay,au];constructor
 .rintro⟨i,⟨h1,h2⟩,h3⟩;exact⟨i,h1,h2,h3⟩
 .rintro⟨i,h1,h2,h3⟩;exact⟨i,⟨h1,h2⟩,h3⟩
theorem eC{n:Nat}{images keep:List Int}{x:Int}:x∈gH n images keep↔(0<=x/\x<n)/\x∉cA images keep:=by
 simp only[gH,bc,ce,ay,au];constructor
 .rintro⟨k,⟨h1,h2⟩,rfl⟩;exact⟨⟨by omega,by omega⟩,h2⟩
 .rintro⟨⟨h1,h2⟩,h3⟩;exact⟨x.toNat,⟨by omega,by rwa [show ((x.toNat:Nat):Int)=x by omega]⟩,by omega⟩
theorem rU(n:Nat)(images keep:List Int):(gH n images keep).Pairwise (· < ·):=by
 unfold gH;rw[List.pairwise_map];refine List.Pairwise.filter _ (List.Pairwise.imp (R:=(· < ·)) (fun h=>by omega) gj)
theorem pI{images keep:List Int}(hn:images.Nodup){i:Nat}(hi:i<images.length)(hk:(i:Int)∈keep):images.getD i 0∉cA images keep:=fun h=>by
 obtain⟨j,hj,vd,e⟩:=oS.1 h;have:=mO hn hj hi e
 subst this;exact vd hk
theorem aLm{l g:Gr}{keep m:Mo}(hm:Emb l g m)(hk:VP l keep)(hd:kA g keep m=false):VP g (aHf g keep m):=by
 have v:=hm.vm;refine⟨v.vb,fun x hx=>(eC.1 hx).1,fun x hx=>(eC.1 hx).1,jO (rU _ _ _),jO (rU _ _ _),fun x hx=>?_⟩;obtain⟨⟨h1,h2⟩,h3⟩:=eC.1 hx;have AF:x.toNat<g.edges.length:=by omega
 have he:=aE v.vb (g.edges.getD x.toNat default) (aR AF);have key:(g.edges.getD x.toNat default).fr∉cA m.nodes keep.nodes/\(g.edges.getD x.toNat default).to∉cA m.nodes keep.nodes:=by
  by_cases wq:x∈m.edges
  .obtain⟨i,hi,rfl⟩:=eR wq;have oe:i<l.edges.length:=by rw[<-v.le];exact hi
   have AI:(i:Int)∈keep.edges:=Decidable.byContradiction fun hc=>h3 (oS.2 ⟨i,hi,hc,rfl⟩)
   have hc:=hk.c _ AI;have iv:=aE v.va (l.edges.getD i default) (aR oe);rw[bz] at hc;rw[v.et i oe];refine⟨pI hm.n (by rw[v.ln];omega) ?_,pI hm.n (by rw[v.ln];omega) ?_⟩
   .rw[show (((l.edges.getD i default).fr.toNat:Nat):Int)=(l.edges.getD i default).fr by omega];exact hc.1
   .rw[show (((l.edges.getD i default).to.toNat:Nat):Int)=(l.edges.getD i default).to by omega];exact hc.2
  .unfold kA at hd;rw[d7] at hd;have:=hd x.toNat (ay.2 AF)
   simp only[au,not_and,not_or] at this;exact this (by rwa [show ((x.toNat:Nat):Int)=x by omega])
 exact⟨eC.2 ⟨⟨he.1,he.2.1⟩,key.1⟩,eC.2 ⟨⟨he.2.2.1,he.2.2.2⟩,key.2⟩⟩
variable {P:Program}
theorem aC3.val{o:Oper}{ρ:Operand->AV}{box box':Bxs}{tok tok':Nat->Bool}{nt nt':Nat}{v:AV}(h:aC3 P o ρ box tok nt v box' tok' nt'):aGh o.op=true:=by
 unfold aC3 at h;split at h
 .rename_i c ho;split at h
  .rename_i f hf;rw[ho];obtain⟨cal,args,tys⟩:=c;simp only at hf;subst hf;rfl
  .exact h.elim
 .exact h.elim
def aIg(S:AS):List (Operand × Operand)->Prop
 | []=>True
 | (p,q)::r=>NK (S.ev p) (S.ev q)/\aIg S r
theorem aIg.at{S:AS}{p q:Operand}:∀{L:List (Operand × Operand)},aIg S L->(p,q)∈L->NK (S.ev p) (S.ev q)
 | (a,b)::r,h,hm=>by
  rcases ca.1 hm with e|hm
  .cases e;exact h.1
  .exact aIg.at h.2 hm
def aDN(P:Program)(o:Oper)(fid:FuncId)(args:List AV)(S:AS)(K:AS->Prop):Prop :=
 (∃v tok' nt',cW P fid args S.box S.tok S.nt v tok' nt'/\K ⟨bX S.tmps o.dst v,S.box,tok',nt'⟩) ∨
 ∃x k i off rows v tok' nt',aCe o.op=some x/\S.ev x=.ptr k i off/\S.box k≠none/\aMI P fid args k S.box S.tok S.nt v rows tok' nt'/\K ⟨bX S.tmps o.dst v,upd S.box k (some rows),tok',nt'⟩
def aCr(P:Program)(cx:Cx)(o:Oper)(K:AS->Prop)(S:AS):Prop:=match cP o S.ev with
 | some (fid,args)=>aDN P o fid args S K
 | none=>zR P cx true o K S
def kS(P:Program)(cx:Cx)(ops:Array Oper):List Oper->(AS->Prop)->AS->Prop
 | [],K,S=>K S
 | o::r,K,S=>match o.guard with
  | none=>aCr P cx o (kS P cx ops r K) S
  | some (j,want)=>match dS ops S j with
   | some (some b)=>Gd b want (aCr P cx o (kS P cx ops r K)) (qU o.dst (kS P cx ops r K)) S
   | some none=>qU o.dst (kS P cx ops r K) S
   | none=>False
def aQh(P:Program)(cx:Cx)(ops:Array Oper)(K:AS->Prop)(S:AS):Prop:=match aDc P cx.base ops.toList S.box with
 | some b=>kS P cx ops ops.toList K ⟨S.tmps,b,S.tok,S.nt⟩
 | none=>False
theorem aDN.of_r{o:Oper}{fid:FuncId}{args:List AV}{S:AS}{K:AS->Prop}{v:AV}{tok':Nat->Bool}{nt':Nat}(h:cW P fid args S.box S.tok S.nt v tok' nt')(hk:K ⟨bX S.tmps o.dst v,S.box,tok',nt'⟩):aDN P o fid args S K:=.inl ⟨v,tok',nt',h,hk⟩
theorem aDN.of_d{o:Oper}{fid:FuncId}{args:List AV}{S:AS}{K:AS->Prop}{v:AV}{tok':Nat->Bool}{nt':Nat}(h:cZ P fid args S.tok S.nt v tok' nt')(hk:K ⟨bX S.tmps o.dst v,S.box,tok',nt'⟩):aDN P o fid args S K:=.of_r (h.r _) hk
attribute [simp] aQh aCr cP aIg
@[simp] theorem aNZ{cx:Cx}{ops:Array Oper}{K:AS->Prop}{t:Nat->AV}{b:Bxs}{k:Nat->Bool}{n:Nat}:kS P cx ops [] K ⟨t,b,k,n⟩=K ⟨t,b,k,n⟩:=by simp only[kS]
@[simp] theorem aNu{cx:Cx}{ops:Array Oper}{o:Oper}{r:List Oper}{K:AS->Prop}{t:Nat->AV}{b:Bxs}{k:Nat->Bool}{n:Nat}:kS P cx ops (o::r) K ⟨t,b,k,n⟩=match o.guard with
  | none=>aCr P cx o (kS P cx ops r K) ⟨t,b,k,n⟩
  | some (j,want)=>match dS ops ⟨t,b,k,n⟩ j with
   | some (some g)=>Gd g want (aCr P cx o (kS P cx ops r K)) (qU o.dst (kS P cx ops r K)) ⟨t,b,k,n⟩
   | some none=>qU o.dst (kS P cx ops r K) ⟨t,b,k,n⟩
   | none=>False:=by
 simp only[kS]
abbrev cT:AV:=.osl 0 [] .full
theorem aFg{b p:Gr}{q:List Ov × Int}(hb:b.Fit)(B5:vG b=0)(hp:p.Fit)(h:oR b p=q):(∀o∈q.1,aPl b p o)/\∀o∈q.1,o.Fit:=by
 subst h;refine⟨fun o ho=>iI ho,fun o ho=>?_⟩;have hk:=iI ho;have AJ:vG p=0:=(lE hk.r).va
 have h1:=(bG B5).1;have h2:=(bG AJ).1;exact(pM b p ⟨by omega,by omega⟩ ⟨by omega,by omega⟩).2 o ho
theorem aCd{b p:Gr}{q:List Ov × Int}(B5:vG b=0)(h:oR b p=q):q.1.length<=1000000:=by
 subst h;by_cases hp:vG p=0
 .have h1:=(bG B5).1;have h2:=(bG hp).1;exact(pM b p ⟨by omega,by omega⟩ ⟨by omega,by omega⟩).1
 .simp[oR,B5,hp]
theorem fit_nil:Gr.Fit ⟨[],[]⟩:=⟨by simp,by simp⟩
def lst{β:Type}(ok:Nat->Nat->Bool)(m:Nat)(fin:List Int->List β):Nat->List Int->List β
 | 0,L=>fin L
 | r+1,L=>(List.range m).flatMap fun (k:Nat)=>if (!decide ((k:Int)∈L)&&ok L.length k)=true then lst ok m fin r (L++[(k:Int)]) else []
def atB(by' of:List Int)(i k:Nat):Bool:=decide (aU by' i<0)||decide (of.getD (aU by' i).toNat 0=k)
def aST(p g:Gr)(x m:Mo)(N:List Int)(i k:Nat):Bool:=decide (g.edges.getD k default=fZ p N i)&&atB x.edges m.edges i k
def aSR(p g:Gr)(x m:Mo)(i k:Nat):Bool:=decide (g.nodes.getD k 0=p.nodes.getD i 0)&&atB x.nodes m.nodes i k
def exE(p g:Gr)(x m:Mo)(N:List Int)(r:Nat)(L:List Int):List Mo:=lst (aST p g x m N) g.edges.length (fun E=>[⟨N,E⟩]) r L
def exN(p g:Gr)(x m:Mo)(r:Nat)(L:List Int):List Mo:=lst (aSR p g x m) g.nodes.length (fun N=>exE p g x m N p.edges.length []) r L
def exts(p g:Gr)(x m:Mo):List Mo:=exN p g x m p.nodes.length []
abbrev Mo.cells(m:Mo):List D:=[ints m.nodes,ints m.edges]
inductive Cd.Bare:Cd->Prop
 | mk {c:Cd} (hs:c.sl=[]) (ht:c.te=[]) (h:∀x∈c.kids,Cd.Bare x):Cd.Bare c
theorem Cd.Bare.sl{c:Cd}(h:c.Bare):c.sl=[]:=by cases h;assumption
theorem Cd.Bare.te{c:Cd}(h:c.Bare):c.te=[]:=by cases h;assumption
@[simp] theorem aSj(base:Nat)(out:Bxs)(loc:List (Nat × List (List AV))):lb base out loc base=lk loc 0:=aQ base 0 out loc
@[simp] theorem aMJ(base:Nat)(out:Bxs)(loc:List (Nat × List (List AV)))(rows:List (List AV)):upd (lb base out loc) base (some rows)=lb base out ((0,rows)::loc):=aJ0 base 0 out loc rows
@[simp] theorem aMy{q:Nat->Prop}{fz:Option (Nat × Nat × List (List D))}{base i off:Nat}{out:Bxs}{loc:List (Nat × List (List AV))}:To (fun k=>lb base out loc k≠none) q fz (.ptr base i off) (.ptr base i off)↔lk loc 0≠none:=aGO (s:=0)
abbrev bytes(l:List Int):D:=.sl 1 (l.map fun n=>[u8 n])
def U8s(l:List Int):Prop:=∀c∈l,0<=c/\c<256
def aPg(st:List Int × List E)(c:Int):List Int × List E :=
 if c % 2=0∨st.1.length=0 then (st.1++[c / 2 % 3],st.2) else (st.1,st.2++[⟨c / 2 % 2,c / 4 % st.1.length,c / 16 % st.1.length⟩])
def aQy(g:Gr)(cs:List Int)(most i:Nat):List Int × List E:=((cs.take most).take i).foldl aPg (g.nodes,g.edges)
def aO0(g:Gr)(cs:List Int)(most:Nat):Gr:=let r:=aQy g cs most cs.length;⟨r.1,r.2⟩
theorem aA6{n m:Int}(h0:0<=n)(h1:n<=m):bA n m=true:=by simp[bA,h0,h1]
theorem Pre.trans{a b c:Gr}(h:Pre a b)(k:Pre b c):Pre a c:=by
 obtain⟨t,ht⟩:=h.n;obtain⟨u,hu⟩:=h.e;obtain⟨t',ly⟩:=k.n;obtain⟨u',wj⟩:=k.e;exact⟨h.va,k.vb,⟨t++t',by rw[ly,ht,cw]⟩,⟨u++u',by rw[wj,hu,cw]⟩⟩
structure Sp where
 l:Gr
 r:Gr
 k:Mo
 i:Mo
structure aCh (s:Sp):Prop where
 k:VP s.l s.k
 i:Emb (exG s.l s.k) s.r s.i
def Sp.z(s:Sp)(m:Mo)(x:Gr):Mo:=aHf x (zJ s.r s.i) m
def Sp.dng(s:Sp)(m:Mo)(x:Gr):Bool:=kA x (zJ s.r s.i) m
def Sp.rest(s:Sp)(m:Mo)(x:Gr):Gr:=exG x (s.z m x)
def Sp.go(s:Sp)(m:Mo)(x:Gr):Mo:=aL7 (s.z m x) (pN s.i m)
def Sp.big(s:Sp)(m:Mo)(x:Gr):Prop:=40<s.l.nodes.length+(s.rest m x).nodes.length∨80<s.l.edges.length+(s.rest m x).edges.length
instance (s:Sp) (m:Mo) (x:Gr):Decidable (s.big m x):=inferInstanceAs (Decidable (_∨_))
def Sp.po(s:Sp)(m:Mo)(x:Gr):Ov:=aOx s.l (s.rest m x) s.k (s.go m x)
def Sp.inn(s:Sp)(m:Mo)(x:Gr):Sp:=⟨(s.po m x).g,x,zJ (s.po m x).g (s.po m x).r,pN (aL7 (s.po m x).r (zJ (s.po m x).g (s.po m x).r)) (s.z m x)⟩
theorem VP.sub{g:Gr}{p:Mo}(h:VP g p):Emb (exG g p) g p:=h.emb
theorem Sp.z_vp{s:Sp}(h:aCh s){m:Mo}{x:Gr}(hm:Emb s.r x m)(hd:s.dng m x=false):VP x (s.z m x):=aLm hm (aBT h.i) hd
abbrev noC:Cd:=sZ 2 [sZ 1 []]
def aLg(k:Int)(m:Mo)(g:Gr)(s:Sp)(L H:Sp->List Cd × Int):Cd × Int :=
 if k≠5 then (if (L s).2≠0 then (sZ 0 [],(L s).2) else (sZ k (L s).1,0))
 else if s.dng m g=true then (noC,0) else if s.big m g then (sZ 0 [],3)
 else if (H (s.inn m g)).2≠0 then (sZ 0 [],(H (s.inn m g)).2) else (.mk 5 (H (s.inn m g)).1 (s.po m g).l (s.po m g).g [] 0 [],0)
mutual
def Cd.lft:Cd->Sp->Cd × Int
 | .mk k c m g _ _ _,s=>aLg k m g s (fun s=>Cd.lftL c s) (fun s=>Cd.lftL c s)
def Cd.lftL:List Cd->Sp->List Cd × Int
 | [],_=>([],0)
 | x::r,s=>if (Cd.lft x s).2≠0 then ([],(Cd.lft x s).2) else if (Cd.lftL r s).2≠0 then ([],(Cd.lftL r s).2) else ((Cd.lft x s).1::(Cd.lftL r s).1,0)
end
end Go.AM
