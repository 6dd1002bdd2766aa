/-
 Parts of the proof, as merged from many texts: a machine over data, what the functions compute, plain laws.
-/
import Derived.Test.YtainalmfffjnjaaGreatDoorPTT13
import Derived.Shelf.Small.Strs
import Derived.Shelf.Strings.OnBuilder
import Derived.Shelf.Strings.Builder1
import Derived.Shelf.Strings.Builder2
import Derived.Shelf.Strings.BuilderF
import Derived.Shelf.Strings.BuilderK
import Derived.Shelf.LaysM
import Derived.Ground.Names2Prog
import Derived.Test.YtainalmfffjnjaaGreatDoorProg
import Derived.Lib.Join
import Derived.Lib.Builder
import Derived.WalkKit
import Derived.Lib.UnsafeStr
import Derived.Shelf.RegionOpenPlain
set_option linter.unusedSimpArgs false
set_option linter.unusedVariables false
namespace Go.AM
open Go Go.Proofs
open Go.Proofs.Tryz
def tyT:Ty:=⟨[⟨⟨#[78]⟩, -1,false,[]⟩],[⟨⟨#[101]⟩,0,0,0, -1,0, -1⟩]⟩
def coA:Co:=⟨⟨#[97]⟩,1,⟨[0],[]⟩,[]⟩
def coB:Co:=⟨⟨#[98]⟩,1,⟨[0,0],[]⟩,[]⟩
def coC:Co:=⟨⟨#[99]⟩,1,⟨[0],[⟨0,0,0⟩]⟩,[]⟩
def coD:Co:=⟨⟨#[100]⟩,1,⟨[0,0],[⟨0,0,1⟩]⟩,[]⟩
def cosT:List Co:=[coA,coB,coC,coD]
theorem tyT_fit:tyT.Fit:=⟨by decide,by decide,by decide,by decide,by simp[tyT]⟩
set_option maxRecDepth 100000 in
theorem types50_c:DC 36 [] tyT.av:=by
 intro tok nt box nb;refine sI func36 ntmps36 fun Hb Ht=>?_
 repeat first|simp|refine sR ?_
 try refine⟨rfl,?_⟩
 repeat first|simp|refine sR ?_
 try refine⟨rfl,?_⟩
 repeat first|simp|refine sR ?_
 refine sT (sH Hb Ht ?_);simp[tyT,nts,ets,atts,strs];exact to_dss (by simp[dss_cons,dss_nil,dsub_all,atts,strs])
theorem atom50_c(s:ByteArray):DC 79 [Sb s] (Fo.mk 1 s []).av:=by
 intro tok nt box nb;refine sI func79 ntmps79 fun Hb Ht=>?_
 repeat first|simp|refine sR ?_
 refine sT (sH Hb Ht ?_);simp[Fo.kind,Fo.name,Fo.kids];exact .odsub .emp
theorem of50_c(k:Int)(l:List Fo):DC 33 [I k,.d (fos l)] (Fo.mk k ⟨#[]⟩ l).av:=by
 intro tok nt box nb;refine sI func33 ntmps33 fun Hb Ht=>?_
 repeat first|simp|refine sR ?_
 refine sT (sH Hb Ht ?_);simp[Fo.kind,Fo.name,Fo.kids]
def gcT(i:Nat):List D:=match i with
 | 0=>[ints [0],AM.edges []]
 | 1=>[ints [0,0],AM.edges []]
 | 2=>[ints [0],AM.edges [⟨0,0,0⟩]]
 | _=>[ints [0,0],AM.edges [⟨0,0,1⟩]]
def csP(i:Nat):List (List D):=rCo (cosT.take i)
theorem csP1:csP 1=csP 0++[[.raw (.string ⟨#[97]⟩),.raw (.int .i64 1),ints [0],AM.edges [],xts []]]:=rfl
theorem csP2:csP 2=csP 1++[[.raw (.string ⟨#[98]⟩),.raw (.int .i64 1),ints [0,0],AM.edges [],xts []]]:=rfl
theorem csP3:csP 3=csP 2++[[.raw (.string ⟨#[99]⟩),.raw (.int .i64 1),ints [0],AM.edges [⟨0,0,0⟩],xts []]]:=rfl
theorem csP4:csP 4=csP 3++[[.raw (.string ⟨#[100]⟩),.raw (.int .i64 1),ints [0,0],AM.edges [⟨0,0,1⟩],xts []]]:=rfl
theorem csP_len:∀i,(csP i).length<=4:=fun i=>by simp only[csP,List.length_map,List.length_take];have:cosT.length=4:=rfl;omega
theorem ex97:(⟨#[97,98,99,100]⟩:ByteArray).extract 0 1=⟨#[97]⟩:=by decide
theorem ex98:(⟨#[97,98,99,100]⟩:ByteArray).extract 1 2=⟨#[98]⟩:=by decide
theorem ex99:(⟨#[97,98,99,100]⟩:ByteArray).extract 2 3=⟨#[99]⟩:=by decide
theorem ex100:(⟨#[97,98,99,100]⟩:ByteArray).extract 3 4=⟨#[100]⟩:=by decide
theorem w1:IntKind.i64.wrap 1=1:=by decide
theorem w2:IntKind.i64.wrap 2=2:=by decide
theorem w3:IntKind.i64.wrap 3=3:=by decide
theorem w4:IntKind.i64.wrap 4=4:=by decide
def stCo5(nb:Nat)(box:Bxs)(x:Acc):AS :=
 ⟨tl [(1,.d (.sl 2 [gcT 0,gcT 1,gcT 2,gcT 3])),(2,.osl 5 (csP x.i) x.own),(3,I x.i)],lb nb box [],x.tok,x.nt⟩
set_option maxRecDepth 100000 in
theorem constraints50_c:DC 37 [] (.d (cosD cosT)):=by
 intro tok nt box nb;refine sI func37 ntmps37 fun Hb Ht=>?_
 repeat first|simp|refine sR ?_
 try refine⟨rfl,?_⟩
 repeat first|simp|refine sR ?_
 try refine⟨rfl,?_⟩
 repeat first|simp|refine sR ?_
 refine sN ?_;refine sL (stCo5 nb box) (fun x=>x.i<=4/\TK tok nt x.tok x.nt [x.own]) (fun x=>4-x.i) ⟨0,.full,tok,nt⟩ ⟨Nat.zero_le _,(TK.start Ht).full⟩ (wM (nr _) rfl (by simp[ToL,lk];exact⟨to_dss (by simp[gcT,dss_cons,dss_nil,ints,AM.edges,DSub.emp,DSub.refl,E.cells]),.nil (by decide) rfl⟩) trivial) ?_;rintro⟨i,own,tok',nt'⟩ S ⟨hi,htk⟩ hS;simp only[stCo5] at hS hi htk;subst hS;have hcl:=csP_len;by_cases hlt:i<4
 .have hi4:i=0∨i=1∨i=2∨i=3:=by omega
  rcases hi4 with rfl|rfl|rfl|rfl
  case' inl=>have e:=csP1
  case' inr.inl=>have e:=csP2
  case' inr.inr.inl=>have e:=csP3
  case' inr.inr.inr=>have e:=csP4
  all_goals
   try (simp[gcT,w1,w2,w3,w4,ex97,ex98,ex99,ex100])
   repeat (first|(refine sR ?_;simp[gcT,w1,w2,w3,w4,ex97,ex98,ex99,ex100])|(refine sC ?_;simp[gcT,w1,w2,w3,w4,ex97,ex98,ex99,ex100])|(refine sX ?_;simp only[AU,↓reduceIte]))
   refine⟨by decide,?_⟩;try (simp[gcT,w1,w2,w3,w4,ex97,ex98,ex99,ex100])
   repeat (first|(refine sR ?_;simp[gcT,w1,w2,w3,w4,ex97,ex98,ex99,ex100])|(refine sC ?_;simp[gcT,w1,w2,w3,w4,ex97,ex98,ex99,ex100])|(refine sX ?_;simp only[AU,↓reduceIte]))
   refine⟨⟨by have:=csP_len 0;have:=csP_len 1;have:=csP_len 2;have:=csP_len 3;omega,htk.live⟩,?_⟩;try (simp[gcT,w1,w2,w3,w4,ex97,ex98,ex99,ex100])
   repeat (first|(refine sR ?_;simp[gcT,w1,w2,w3,w4,ex97,ex98,ex99,ex100])|(refine sC ?_;simp[gcT,w1,w2,w3,w4,ex97,ex98,ex99,ex100])|(refine sX ?_;simp only[AU,↓reduceIte]))
   refine sE ?_;first
    | exact⟨⟨1,.tok nt',_,nt'+1⟩,⟨by simp,htk.app⟩,by simp,wM htk.app.le rfl (by simp[ToL,lk,gcT,e];exact to_snoc (by simp[DSub.refl];exact .emp) _) trivial⟩
    | exact⟨⟨2,.tok nt',_,nt'+1⟩,⟨by simp,htk.app⟩,by simp,wM htk.app.le rfl (by simp[ToL,lk,gcT,e];exact to_snoc (by simp[DSub.refl];exact .emp) _) trivial⟩
    | exact⟨⟨3,.tok nt',_,nt'+1⟩,⟨by simp,htk.app⟩,by simp,wM htk.app.le rfl (by simp[ToL,lk,gcT,e];exact to_snoc (by simp[DSub.refl];exact .emp) _) trivial⟩
    | exact⟨⟨4,.tok nt',_,nt'+1⟩,⟨by simp,htk.app⟩,by simp,wM htk.app.le rfl (by simp[ToL,lk,gcT,e];exact to_snoc (by simp[DSub.refl];exact .emp) _) trivial⟩
 .have:i=4:=by omega
  subst this;try (simp)
  repeat (first|(refine sR ?_;simp)|(refine sC ?_;simp)|(refine sX ?_;simp only[AU,↓reduceIte]))
  have e:csP 4=rCo cosT:=rfl
  refine sT (sG Hb Ht htk.old htk.le ?_);simp[e]
def hst0:Hs:=⟨⟨[],[]⟩,[]⟩
def hst1:Hs:=⟨⟨[0],[]⟩,[[]]⟩
def hst2:Hs:=⟨⟨[0,0],[]⟩,[[],[]]⟩
def hs3:List Hs:=[hst0,hst1,hst2]
def ar3:List Ar50:=[⟨0,0,1,⟨[],[]⟩,[]⟩,⟨0,1,0,⟨[],[]⟩,[]⟩,⟨0,1,2,⟨[],[]⟩,[]⟩]
def foA:Fo:=.mk 1 ⟨#[97]⟩ []
def foB:Fo:=.mk 1 ⟨#[98]⟩ []
def foS:Fo:=.mk 2 ⟨#[]⟩ [foA]
def fo1:Fo:=.mk 6 ⟨#[]⟩ [foS]
def fo2:Fo:=.mk 11 ⟨#[]⟩ [foB]
def fo3:Fo:=.mk 7 ⟨#[]⟩ [foB]
def fo4:Fo:=.mk 10 ⟨#[]⟩ [foS]
theorem cosT_ok:Cos cosT:=⟨by decide,fun c hc=>by
 simp only[cosT,List.mem_cons,List.not_mem_nil,or_false] at hc;rcases hc with rfl|rfl|rfl|rfl
 .exact⟨by decide,⟨by decide,by decide⟩,by decide,by simp[coA]⟩
 .exact⟨by decide,⟨by decide,by decide⟩,by decide,by simp[coB]⟩
 .exact⟨by decide,⟨by decide,by decide⟩,by decide,by simp[coC]⟩
 .exact⟨by decide,⟨by decide,by decide⟩,by decide,by simp[coD]⟩⟩
theorem cosT_cn:∀c∈cosT,cnE tyT c=0:=by decide +kernel
theorem cosT_kd:∀c∈cosT,c.kind=1:=by decide +kernel
theorem tyT_ok:tyE tyT=0:=by decide +kernel
theorem hs3_r:∀h∈hs3,(hostR tyT (atsK tyT) h).2=0:=by decide +kernel
theorem hs3_v:∀h∈hs3,∀c∈cosT,(vioS tyT c h.g fun _=>false).2=0:=by decide +kernel
theorem gvh3(f:Fo)(hs:f.Sm)(hv:validF f cosT=0):GvH tyT hs3 ar3 f cosT where
 ft:=tyT_fit
 sm:=hs
 cos:=cosT_ok
 va:=validF_zero hv
 v0:=hv
 ty:=tyT_ok
 cn:=cosT_cn
 kd:=cosT_kd
 hn:=by decide
 hn2:=by decide
 an:=by decide
 hg:=fun h hh=>by
  refine⟨?_,?_,hs3_r h hh⟩
  .simp only[hs3,List.mem_cons,List.not_mem_nil,or_false] at hh;rcases hh with rfl|rfl|rfl<;>exact⟨by decide,by decide⟩
  .simp only[hs3,List.mem_cons,List.not_mem_nil,or_false] at hh;rcases hh with rfl|rfl|rfl<;>decide
 ar:=fun a ha=>by
  simp only[ar3,List.mem_cons,List.not_mem_nil,or_false] at ha;rcases ha with rfl|rfl|rfl<;>exact⟨⟨by decide,by decide⟩,by decide,by decide⟩
 vi:=hs3_v
theorem sortI_id{l:List Int}(h:l.Pairwise fun a b=>a<=b):sortI l=l:=by
 unfold sortI;refine List.mergeSort_of_pairwise (h.imp fun h=>by simpa using h)
def mdX(X:List (ByteArray × List Bool)):Mdl:=⟨[[1],[0,2],[2]],[[1],[0],[1,2]],X⟩
theorem mdX_eq{f:Fo}{X:List (ByteArray × List Bool)}(hX:atmR (usedF f) (bitS tyT) cosT hs3=X):mdlR tyT hs3 (ar3.map Ar50.pr) f cosT=mdX X:=by
 have h1:arP hs3.length (ar3.map Ar50.pr) (ar3.map Ar50.pr).length=[[1],[0,2],[]]:=by decide +kernel
 have e:ar3.length=(ar3.map Ar50.pr).length:=by simp
 have h2:nxR [[1],[0,2],[]]=[[1],[0,2],[2]]:=by
  have e1:nx1 0 [1]=[1]:=sortI_id (by decide)
  have e2:nx1 1 [0,2]=[0,2]:=sortI_id (by decide)
  have e3:nx1 2 []=[2]:=nx1_nil 2
  show [nx1 0 [1],nx1 1 [0,2],nx1 2 []]=_
  rw[e1,e2,e3]
 have h3:pvP [[1],[0,2],[2]] hs3.length=[[1],[0],[1,2]]:=by decide +kernel
 unfold mdlR;rw[hX,h1,h2,h3];rfl
def atX1:List (ByteArray × List Bool):=[(⟨#[97]⟩,[true,false,false])]
def atX2:List (ByteArray × List Bool):=[(⟨#[98]⟩,[true,true,false])]
theorem ax1:atmR (usedF fo1) (bitS tyT) cosT hs3=atX1:=by decide +kernel
theorem ax2:atmR (usedF fo2) (bitS tyT) cosT hs3=atX2:=by decide +kernel
theorem ax3:atmR (usedF fo3) (bitS tyT) cosT hs3=atX2:=by decide +kernel
theorem ax4:atmR (usedF fo4) (bitS tyT) cosT hs3=atX1:=by decide +kernel
theorem va1:validF fo1 cosT=0:=by decide +kernel
theorem va2:validF fo2 cosT=0:=by decide +kernel
theorem va3:validF fo3 cosT=0:=by decide +kernel
theorem va4:validF fo4 cosT=0:=by decide +kernel
theorem ho1:fo1.holds (mdX atX1)=[true,true,true]:=by decide +kernel
theorem tr2:(askR (mdX atX2) fo2).map (fun q=>(pathQ (mdX atX2) q,q.verdict))=some ([0,1,2],false):=by decide +kernel
theorem tr3:(askR (mdX atX2) fo3).map (fun q=>(pathQ (mdX atX2) q,q.verdict))=some ([0,1,0],true):=by decide +kernel
theorem rk4:rankR (mdX atX1) (kidV (mdX atX1) fo4 0)=[1,0,0]:=by decide +kernel
theorem traceA_of{m:Mdl}{f:Fo}{p:List Int}{b:Bool}(h:(askR m f).map (fun q=>(pathQ m q,q.verdict))=some (p,b))(hp:p≠[]):traceA m f=.tup [.d (ints p),B b,I 0]:=by
 unfold traceA;cases hq:askR m f with
 | none=>rw[hq] at h;cases h
 | some q =>
  rw[hq] at h;simp only[Option.map_some,Option.some.injEq,Prod.mk.injEq] at h;obtain⟨h1,h2⟩:=h;simp only;rw[h1,h2,if_neg hp]
theorem sm_atom(s:ByteArray)(hs:s.size<=1000):(Fo.mk 1 s []).Sm:=.mk (by simp only[Fo.name];omega) (by simp[Fo.kids]) (fun x hx=>by simp[Fo.kids] at hx)
theorem sm_one{k:Int}{x:Fo}(h:x.Sm):(Fo.mk k ⟨#[]⟩ [x]).Sm:=.mk (by simp only[Fo.name];decide) (by simp[Fo.kids]) (fun y hy=>by simp[Fo.kids] at hy;subst hy;exact h)
theorem sm1:fo1.Sm:=sm_one (sm_one (sm_atom _ (by decide)))
theorem sm2:fo2.Sm:=sm_one (sm_atom _ (by decide))
theorem sm3:fo3.Sm:=sm_one (sm_atom _ (by decide))
theorem sm4:fo4.Sm:=sm_one (sm_one (sm_atom _ (by decide)))
abbrev prU(l:List (Int × Int)):D:=.sl 2 (l.map fun a=>[u8 a.1,u8 a.2])
def spK(n:Int):Nat:=(n % 3).toNat
def spE1(n:Int):List E:=if 0<spK n/\n / 3 % 2=1 then [⟨0,0,0⟩] else []
def spE2(n:Int):List E:=if 1<spK n/\n / 6 % 2=1 then [⟨0,0,1⟩] else []
def spE(n:Int):List E:=spE1 n++spE2 n
def spH(n:Int):Hs:=⟨⟨List.replicate (spK n) 0,spE n⟩,List.replicate (spK n) []⟩
def spN(cs:List Int):Nat:=max 1 (min cs.length 10)
def spS(cs:List Int)(i:Nat):List Hs:=(List.range i).map fun j=>spH (cs.getD j 0)
theorem spS_succ(cs:List Int)(i:Nat):spS cs (i+1)=spS cs i++[spH (cs.getD i 0)]:=by simp[spS,List.range_succ]
@[simp] theorem spS_len(cs:List Int)(i:Nat):(spS cs i).length=i:=by simp[spS]
def spA(k:Nat)(ar:List (Int × Int))(i:Nat):List Ar50:=(ar.take i).map fun a=>⟨0,a.1 % k,a.2 % k,⟨[],[]⟩,[]⟩
theorem spA_succ(k:Nat){ar:List (Int × Int)}{i:Nat}(h:i<ar.length):spA k ar (i+1)=spA k ar i++[⟨0,ar[i].1 % k,ar[i].2 % k,⟨[],[]⟩,[]⟩]:=by
 unfold spA;rw[List.take_succ_eq_append_getElem h,List.map_append];rfl
theorem rowsN_to{p:Nat->Prop}{q:Nat->Prop}{fz:Option (Nat × Nat × List (List D))}(k:Nat):RowsTo p q fz (List.replicate k [nilS]) (rowsD (List.replicate k [ints []])):=by
 refine⟨by simp,fun i h1 h2=>⟨by simp[rowsD],fun j g1 g2=>?_⟩⟩;simp only[rowsD,List.getElem_map,List.getElem_replicate,List.map_cons,List.map_nil] at g1 g2 ⊢;have:j=0:=by simp at g1;omega
 subst this;exact .odsub .emp
theorem frzK{p q:Nat->Prop}(k s:Nat):To p q (some (s,1,List.replicate k [D.raw (.int .i64 0)])) (.msl s 0 k 1) (.d (ints (List.replicate k 0))):=by
 have e:ints (List.replicate k 0)=.sl 1 (List.replicate k [D.raw (.int .i64 0)]):=by simp[ints]
 rw[e];exact to_frz (by simp)
theorem frzL{p q:Nat->Prop}(k s:Nat):To p q (some (s,1,List.replicate k [ints []])) (.msl s 0 k 1) (.d (lls (List.replicate k []))):=by
 have e:lls (List.replicate k [])=.sl 1 (List.replicate k [ints []]):=by simp
 rw[e];exact to_frz (by simp)
structure SpX where
 i:Nat
 o:Own
 tok:Nat->Bool
 nt:Nat
structure SpY where
 oe:Own
 oh:Own
 tok:Nat->Bool
 nt:Nat
def stSp1(cs:List Int)(ar:List (Int × Int))(nb:Nat)(box:Bxs)(x:SpX):AS :=
 ⟨tl [(6,I x.i),(0,.d (bytes cs)),(1,.d (prU ar)),(4,.ptr (nb+4) 0 0),(5,.ptr (nb+5) 0 0)],lb nb box [(5,[[.osl 3 ((spS cs x.i).map Hs.cells) x.o,nilS]]),(4,[[nilS,nilS]])],x.tok,x.nt⟩
def stSpH(cs:List Int)(ar:List (Int × Int))(n:Int)(k i:Nat)(e:List E)(A:List (List D))(nb:Nat)(box:Bxs)(y:SpY):AS :=
 ⟨tl [(7,I n),(8,.ptr (nb+8) 0 0),(6,I i),(0,.d (bytes cs)),(1,.d (prU ar)),(4,.ptr (nb+4) 0 0),(5,.ptr (nb+5) 0 0)],
  lb nb box [(8,[[.msl (nb+35) 0 k 1,.osl 3 (rE e) y.oe,.msl (nb+39) 0 k 1]]),(35,rowsI (List.replicate k 0)),(39,List.replicate k [nilS]),(5,[[.osl 3 A y.oh,nilS]]),(4,[[nilS,nilS]])],y.tok,y.nt⟩
def stSp2(cs:List Int)(ar:List (Int × Int))(H:List Hs)(nb:Nat)(box:Bxs)(oh:Own)(x:SpX):AS :=
 ⟨tl [(9,I x.i),(1,.d (prU ar)),(4,.ptr (nb+4) 0 0),(5,.ptr (nb+5) 0 0)],lb nb box [(5,[[.osl 3 (H.map Hs.cells) oh,.osl 6 ((spA H.length ar x.i).map Ar50.cells) x.o]]),(4,[[nilS,nilS]])],x.tok,x.nt⟩
set_option maxRecDepth 100000 in
theorem space_c(cs:List Int)(hc:U8s cs)(ar:List (Int × Int))(ha:∀a∈ar,(0<=a.1/\a.1<256)/\0<=a.2/\a.2<256):DC 31 [.d (bytes cs),.d (prU ar)] (spV (spS cs (spN cs)) (spA (spN cs) ar (min ar.length 30))):=by
 intro tok nt box nb;refine sI func31 ntmps31 fun Hb Ht=>?_
 repeat first|simp|refine sR ?_
 refine sN ?_;refine sL (stSp1 cs ar nb box) (fun x=>x.i<=spN cs/\TK tok nt x.tok x.nt [x.o]) (fun x=>spN cs-x.i) ⟨0,.full,tok,nt⟩ ⟨Nat.zero_le _,(TK.start Ht).full⟩ (wM (nr _) rfl (by simp[ToL,lk]) (by simp[BoxL,lk,spS])) ?_;rintro⟨i,o,tok1,nt1⟩ S ⟨hi,htk⟩ hS;simp only[stSp1] at hS hi htk;subst hS;have hN:spN cs<=10:=by unfold spN;omega
 have hw:=sW (i:=i) (by omega);by_cases hlt:i<spN cs
 .have hlt2:i=0∨i<cs.length/\i<10:=by unfold spN at hlt;omega
  obtain⟨n,hn⟩:∃n,cs.getD i 0=n:=⟨_,rfl⟩
  have hn1:0<=n/\n<256:=by
   rw[<-hn];by_cases e:i<cs.length
   .rw[show cs.getD i 0=cs[i] by simp[e]];exact hc _ (List.getElem_mem e)
   .rw[show cs.getD i 0=0 by simp[e]];decide
  obtain⟨hn1,hn2⟩:=hn1;have hsucc:=spS_succ cs i;rw[hn] at hsucc;have hAl:((spS cs i).map Hs.cells).length=i:=by simp
  refine AL.seq ?_;refine AL.mid ⟨tl [(6,I i),(0,.d (bytes cs)),(1,.d (prU ar)),(4,.ptr (nb+4) 0 0),(5,.ptr (nb+5) 0 0)],lb nb box [(5,[[.osl 3 ((spS cs i).map Hs.cells) o,nilS]]),(4,[[nilS,nilS]])],tok1,nt1⟩ ?_ ?_
  .by_cases h0:i=0
   .subst h0;try (simp)
    repeat (first|(refine sR ?_;simp)|(refine sC ?_;simp)|(refine sX ?_;simp only[AU,↓reduceIte]))
    refine sE ?_;exact wM htk.le rfl (by simp[ToL,lk]) (by simp[BoxL,lk])
   .have b0:((i:Int)==0)=false:=by simpa using h0
    have c1:i<cs.length:=by omega
    have c2:(i:Int)<10:=by omega
    have c3:i<10:=by omega
    try (simp[b0,c1,c2,c3,h0])
    repeat (first|(refine sR ?_;simp[b0,c1,c2,c3,h0])|(refine sC ?_;simp[b0,c1,c2,c3,h0])|(refine sX ?_;simp only[AU,↓reduceIte]))
    refine sE ?_;exact wM htk.le rfl (by simp[ToL,lk]) (by simp[BoxL,lk])
  .refine sR ?_;simp;refine AL.seq ?_;refine AL.mid ⟨tl [(7,I n),(6,I i),(0,.d (bytes cs)),(1,.d (prU ar)),(4,.ptr (nb+4) 0 0),(5,.ptr (nb+5) 0 0)],lb nb box [(5,[[.osl 3 ((spS cs i).map Hs.cells) o,nilS]]),(4,[[nilS,nilS]])],tok1,nt1⟩ ?_ ?_
   .by_cases e:i<cs.length
    .have hnc:cs[i]=n:=by rw[<-hn];simp[e]
     have hb:=bytes_at e;have hwn:IntKind.i64.wrap n=n:=wrap_in (by omega) (by omega)
     try (simp[e,hb,hnc,hwn])
     repeat (first|(refine sR ?_;simp[e,hb,hnc,hwn])|(refine sC ?_;simp[e,hb,hnc,hwn])|(refine sX ?_;simp only[AU,↓reduceIte]))
     refine sE ?_;exact wM htk.le rfl (by simp[ToL,lk]) (by simp[BoxL,lk])
    .have hn0:n=0:=by rw[<-hn];simp[e]
     subst hn0;try (simp[e])
     repeat (first|(refine sR ?_;simp[e])|(refine sC ?_;simp[e])|(refine sX ?_;simp only[AU,↓reduceIte]))
     refine sE ?_;exact wM htk.le rfl (by simp[ToL,lk]) (by simp[BoxL,lk])
   .clear hn;obtain⟨k,hk⟩:∃k,spK n=k:=⟨_,rfl⟩
    have hk3:(k:Int)=n % 3:=by rw[<-hk];unfold spK;omega
    have hk2:k<=2:=by omega
    have tm3:n.tmod 3=(k:Int):=by rw[Int.tmod_eq_emod_of_nonneg hn1,hk3]
    have td3:n.tdiv 3=n / 3:=Int.tdiv_eq_ediv_of_nonneg hn1
    have td6:n.tdiv 6=n / 6:=Int.tdiv_eq_ediv_of_nonneg hn1
    have tw3:IntKind.i64.wrap (n / 3)=n / 3:=wrap_in (by omega) (by omega)
    have tw6:IntKind.i64.wrap (n / 6)=n / 6:=wrap_in (by omega) (by omega)
    have tn3:(n / 3).tmod 2=n / 3 % 2:=Int.tmod_eq_emod_of_nonneg (by omega)
    have tn6:(n / 6).tmod 2=n / 6 % 2:=Int.tmod_eq_emod_of_nonneg (by omega)
    refine sR ?_;simp[tm3];refine⟨by omega,by omega,?_⟩;refine AL.seq ?_;have hX:∀p fz,RowsTo p (fun _=>True) fz (List.replicate k [nilS]) (List.replicate k [nilS]):=fun p fz=>rowsTo_same fun r hr x hx=>by
     rw[(List.mem_replicate.1 hr).2] at hx;simp at hx;subst hx;exact .osl fun _ e=>by cases e
    refine AL.midT (stSpH cs ar n k i (spE1 n) ((spS cs i).map Hs.cells) nb box) (fun y=>TK tok nt y.tok y.nt [y.oe,y.oh]) ?_ ?_
    .by_cases c1:0<k
     .by_cases c2:n / 3 % 2=1
      .have he:spE1 n=[⟨0,0,0⟩]:=by unfold spE1;rw[hk,if_pos ⟨c1,c2⟩]
       have b2:(n / 3 % 2==1)=true:=by simp[c2]
       try (simp[tm3,td3,tw3,tn3,c1,c2,b2])
       repeat (first|(refine sR ?_;simp[tm3,td3,tw3,tn3,c1,c2,b2])|(refine sC ?_;simp[tm3,td3,tw3,tn3,c1,c2,b2])|(refine sX ?_;simp only[AU,↓reduceIte]))
       refine sE ?_;exact⟨⟨.tok nt1,o,_,nt1+1⟩,htk.full.app,wM (Nat.le_succ_of_le htk.le) rfl (by simp[ToL,lk]) (by simp[BoxL,lk,he];exact hX _ _)⟩
      .have he:spE1 n=[]:=by unfold spE1;rw[if_neg (fun h=>c2 h.2)]
       have b2:(n / 3 % 2==1)=false:=by simp[c2]
       try (simp[tm3,td3,tw3,tn3,c1,c2,b2])
       repeat (first|(refine sR ?_;simp[tm3,td3,tw3,tn3,c1,c2,b2])|(refine sC ?_;simp[tm3,td3,tw3,tn3,c1,c2,b2])|(refine sX ?_;simp only[AU,↓reduceIte]))
       refine sE ?_;exact⟨⟨.full,o,tok1,nt1⟩,htk.full,wM htk.le rfl (by simp[ToL,lk]) (by simp[BoxL,lk,he];exact hX _ _)⟩
     .have he:spE1 n=[]:=by unfold spE1;rw[hk,if_neg (fun h=>c1 h.1)]
      try (simp[tm3,td3,tw3,tn3,c1])
      repeat (first|(refine sR ?_;simp[tm3,td3,tw3,tn3,c1])|(refine sC ?_;simp[tm3,td3,tw3,tn3,c1])|(refine sX ?_;simp only[AU,↓reduceIte]))
      refine sE ?_;exact⟨⟨.full,o,tok1,nt1⟩,htk.full,wM htk.le rfl (by simp[ToL,lk]) (by simp[BoxL,lk,he];exact hX _ _)⟩
    .clear htk;rintro⟨oe,oh,tok2,nt2⟩ htk;simp only at htk;have hel:(spE1 n).length<=1:=by unfold spE1;split<;>simp
     simp only[stSpH];refine AL.seq ?_;refine AL.midT (stSpH cs ar n k i (spE n) ((spS cs i).map Hs.cells) nb box) (fun y=>TK tok nt y.tok y.nt [y.oe,y.oh]) ?_ ?_
     .by_cases c1:1<k
      .have c1':(1:Int)<(k:Int):=by omega
       by_cases c2:n / 6 % 2=1
       .have he:spE n=spE1 n++[⟨0,0,1⟩]:=by unfold spE spE2;rw[hk,if_pos ⟨c1,c2⟩]
        have b2:(n / 6 % 2==1)=true:=by simp[c2]
        try (simp[tm3,td6,tw6,tn6,c1,c1',c2,b2])
        repeat (first|(refine sR ?_;simp[tm3,td6,tw6,tn6,c1,c1',c2,b2])|(refine sC ?_;simp[tm3,td6,tw6,tn6,c1,c1',c2,b2])|(refine sX ?_;simp only[AU,↓reduceIte]))
        refine⟨⟨by omega,htk.live⟩,?_⟩;try (simp)
        repeat (first|(refine sR ?_;simp)|(refine sC ?_;simp)|(refine sX ?_;simp only[AU,↓reduceIte]))
        refine sE ?_;exact⟨⟨.tok nt2,oh,_,nt2+1⟩,htk.app,wM htk.app.le rfl (by simp[ToL,lk]) (by simp[BoxL,lk,he];exact hX _ _)⟩
       .have he:spE n=spE1 n:=by unfold spE spE2;rw[if_neg (fun h=>c2 h.2),List.append_nil]
        have b2:(n / 6 % 2==1)=false:=by simp[c2]
        try (simp[tm3,td6,tw6,tn6,c1,c1',c2,b2])
        repeat (first|(refine sR ?_;simp[tm3,td6,tw6,tn6,c1,c1',c2,b2])|(refine sC ?_;simp[tm3,td6,tw6,tn6,c1,c1',c2,b2])|(refine sX ?_;simp only[AU,↓reduceIte]))
        refine sE ?_;exact⟨⟨oe,oh,tok2,nt2⟩,htk,wM htk.le rfl (by simp[ToL,lk]) (by simp[BoxL,lk,he];exact hX _ _)⟩
      .have he:spE n=spE1 n:=by unfold spE spE2;rw[hk,if_neg (fun h=>c1 h.1),List.append_nil]
       have c1':¬(1:Int)<(k:Int):=by omega
       try (simp[tm3,td6,tw6,tn6,c1,c1'])
       repeat (first|(refine sR ?_;simp[tm3,td6,tw6,tn6,c1,c1'])|(refine sC ?_;simp[tm3,td6,tw6,tn6,c1,c1'])|(refine sX ?_;simp only[AU,↓reduceIte]))
       refine sE ?_;exact⟨⟨oe,oh,tok2,nt2⟩,htk,wM htk.le rfl (by simp[ToL,lk]) (by simp[BoxL,lk,he];exact hX _ _)⟩
     .clear htk;rintro⟨oe,oh,tok2,nt2⟩ htk;simp only at htk;simp only[stSpH];have htk2:=htk.tail;have hH:spH n=⟨⟨List.replicate k 0,spE n⟩,List.replicate k []⟩:=by unfold spH;rw[hk]
      have hcl:(spS cs (i+1)).map Hs.cells=(spS cs i).map Hs.cells++[[ints (List.replicate k 0),AM.edges (spE n),lls (List.replicate k [])]]:=by rw[hsucc,List.map_append,hH];rfl
      refine AL.weak (wM (l':=[(8,.ptr (nb+8) 0 0),(6,I i),(0,.d (bytes cs)),(1,.d (prU ar)),(4,.ptr (nb+4) 0 0),(5,.ptr (nb+5) 0 0)])
       (loc':=[(8,[[.msl (nb+35) 0 k 1,.d (AM.edges (spE n)),.msl (nb+39) 0 k 1]]),(35,rowsI (List.replicate k 0)),(39,rowsD (List.replicate k [ints []])),(5,[[.osl 3 ((spS cs i).map Hs.cells) oh,nilS]]),(4,[[nilS,nilS]])]) htk.le rfl (by simp[ToL,lk]) (by simp[BoxL,lk];exact rowsN_to k)) ?_
      refine AL.weak (Weaks.frz (l':=[(8,.ptr (nb+8) 0 0),(6,I i),(0,.d (bytes cs)),(1,.d (prU ar)),(4,.ptr (nb+4) 0 0),(5,.ptr (nb+5) 0 0)])
       (loc':=[(8,[[.d (ints (List.replicate k 0)),.d (AM.edges (spE n)),.msl (nb+39) 0 k 1]]),(39,rowsD (List.replicate k [ints []])),(5,[[.osl 3 ((spS cs i).map Hs.cells) oh,nilS]]),(4,[[nilS,nilS]])]) 35 1 (rI (List.replicate k 0)) htk.le rfl (by simp[lk,rowsI_eq]) (by simp[lk]) (fun e he=>by obtain⟨b,_,rfl⟩:=List.mem_map.1 he;rfl) (by simp[ToL,lk,lb_at]) (by simp[BoxL,lk,lb_at];exact frzK _ _)) ?_
      refine AL.weak (Weaks.frz (l':=[(8,.ptr (nb+8) 0 0),(6,I i),(0,.d (bytes cs)),(1,.d (prU ar)),(4,.ptr (nb+4) 0 0),(5,.ptr (nb+5) 0 0)])
       (loc':=[(8,[[.d (ints (List.replicate k 0)),.d (AM.edges (spE n)),.d (lls (List.replicate k []))]]),(5,[[.osl 3 ((spS cs i).map Hs.cells) oh,nilS]]),(4,[[nilS,nilS]])]) 39 1 (List.replicate k [ints []]) htk.le rfl (by simp[lk]) (by simp[lk]) (fun e he=>by rw[(List.mem_replicate.1 he).2];rfl) (by simp[ToL,lk,lb_at]) (by simp[BoxL,lk,lb_at];exact frzL _ _)) ?_
      try (simp)
      repeat (first|(refine sR ?_;simp)|(refine sC ?_;simp)|(refine sX ?_;simp only[AU,↓reduceIte]))
      refine⟨⟨by omega,htk2.live⟩,?_⟩;try (simp[hw])
      repeat (first|(refine sR ?_;simp[hw])|(refine sC ?_;simp[hw])|(refine sX ?_;simp only[AU,↓reduceIte]))
      refine sE ?_;exact⟨⟨i+1,.tok nt2,_,nt2+1⟩,⟨hlt,htk2.app⟩,by simp only;omega,wM htk2.app.le rfl (by simp[ToL,lk]) (by simp[BoxL,lk,hcl])⟩
 .have:i=spN cs:=by omega
  subst this;clear hw hi;have hm1:1<=spN cs:=by unfold spN;omega
  have hm2:¬(spN cs<cs.length/\spN cs<10):=by unfold spN;omega
  obtain⟨m,hm⟩:∃m,spN cs=m:=⟨_,rfl⟩
  have hHl:(spS cs (spN cs)).length=spN cs:=by simp
  rw[hm] at hN hm1 hm2 hHl ⊢;generalize spS cs m=H at *;have b00:¬m=0:=by omega
  have b0:((m:Int)==0)=false:=by simpa using b00
  by_cases c1:m<cs.length
  case' pos=>have c2:¬(m:Int)<10:=by omega
  case' pos=>have c3:¬m<10:=by omega
  case' neg=>have c2:¬(m:Int)<(cs.length:Int):=by omega
  case' neg=>have c3:¬m<cs.length:=c1
  all_goals
   try (simp[b0,c1,c2,c3])
   repeat (first|(refine sR ?_;simp[b0,c1,c2,c3])|(refine sC ?_;simp[b0,c1,c2,c3])|(refine sX ?_;simp only[AU,↓reduceIte]))
   refine sN ?_;refine sL (stSp2 cs ar H nb box o) (fun x=>x.i<=min ar.length 30/\TK tok nt x.tok x.nt [x.o,o]) (fun x=>min ar.length 30-x.i) ⟨0,.full,tok1,nt1⟩ ⟨Nat.zero_le _,htk.full⟩ (wM htk.le rfl (by simp[ToL,lk]) (by simp[BoxL,lk,spA])) ?_;clear htk;rintro⟨i,o2,tok2,nt2⟩ S ⟨hi,htk⟩ hS;simp only[stSp2] at hS hi htk;subst hS;have hw:=sW (i:=i) (by omega);by_cases hlt:i<ar.length/\i<30
   .obtain⟨d1,d2⟩:=hlt;have d3:(i:Int)<30:=by omega
    have hsucc:=spA_succ H.length d1;obtain⟨⟨e1,e2⟩,e3,e4⟩:=ha _ (List.getElem_mem d1);have hpr:(ar.map fun a=>[u8 a.1,u8 a.2])[i]?=some [u8 ar[i].1,u8 ar[i].2]:=by simp[d1]
    have hb1:IntKind.i64.wrap ar[i].1=ar[i].1:=wrap_in (by omega) (by omega)
    have hb2:IntKind.i64.wrap ar[i].2=ar[i].2:=wrap_in (by omega) (by omega)
    have ht1:ar[i].1.tmod (H.length:Int)=ar[i].1 % (H.length:Int):=Int.tmod_eq_emod_of_nonneg e1
    have ht2:ar[i].2.tmod (H.length:Int)=ar[i].2 % (H.length:Int):=Int.tmod_eq_emod_of_nonneg e3
    have hHz:¬(H.length:Int)=0:=by omega
    have hsl:(spA H.length ar i).length<=30:=by simp[spA];omega
    have hHn:H=[]->False:=fun e=>by rw[e] at hHz;simp at hHz
    try (simp[d1,d2,d3,hpr,hb1,hb2,ht1,ht2])
    repeat (first|(refine sR ?_;simp[d1,d2,d3,hpr,hb1,hb2,ht1,ht2])|(refine sC ?_;simp[d1,d2,d3,hpr,hb1,hb2,ht1,ht2])|(refine sX ?_;simp only[AU,↓reduceIte]))
    refine⟨hHn,?_⟩;try (simp[d1,d2,d3,hpr,hb1,hb2,ht1,ht2])
    repeat (first|(refine sR ?_;simp[d1,d2,d3,hpr,hb1,hb2,ht1,ht2])|(refine sC ?_;simp[d1,d2,d3,hpr,hb1,hb2,ht1,ht2])|(refine sX ?_;simp only[AU,↓reduceIte]))
    try refine⟨hHn,?_⟩
    try (simp[d1,d2,d3,hpr,hb1,hb2,ht1,ht2])
    repeat (first|(refine sR ?_;simp[d1,d2,d3,hpr,hb1,hb2,ht1,ht2])|(refine sC ?_;simp[d1,d2,d3,hpr,hb1,hb2,ht1,ht2])|(refine sX ?_;simp only[AU,↓reduceIte]))
    refine⟨⟨by omega,htk.live⟩,?_⟩;try (simp[hw])
    repeat (first|(refine sR ?_;simp[hw])|(refine sC ?_;simp[hw])|(refine sX ?_;simp only[AU,↓reduceIte]))
    refine sE ?_;exact⟨⟨i+1,.tok nt2,_,nt2+1⟩,⟨by simp only;omega,htk.app⟩,by simp only;omega,wM htk.app.le rfl (by simp[ToL,lk]) (by simp[BoxL,lk,hsucc];exact to_snoc (by simp[DSub.refl];exact .emp) _)⟩
   .have:i=min ar.length 30:=by omega
    subst this;by_cases d1:min ar.length 30<ar.length
    case' pos=>have d2:¬((min ar.length 30:Nat):Int)<30:=by omega
    case' pos=>have d3:¬min ar.length 30<30:=by omega
    case' neg=>have d2:¬((min ar.length 30:Nat):Int)<(ar.length:Int):=by omega
    case' neg=>have d3:¬min ar.length 30<ar.length:=d1
    all_goals
     generalize min ar.length 30=z at *;try (simp[d1,d2,d3])
     repeat (first|(refine sR ?_;simp[d1,d2,d3])|(refine sC ?_;simp[d1,d2,d3])|(refine sX ?_;simp only[AU,↓reduceIte]))
     refine sT (sG Hb Ht htk.old htk.le ?_);simp[hHl]
variable {P:Program}
def lkv:List (Nat × Value)->Nat->Option Value
 | [],_=>none
 | (j,v)::r,i=>if i=j then some v else lkv r i
def swpL(l:List (Nat × Value)):Nat->List Oper->List Oper
 | _,[]=>[]
 | i,o::r=>(match lkv l i with|some v=>{ o with op:=.move (.const v) }|none=>o)::swpL l (i+1) r
theorem swpL_get(l:List (Nat × Value)):∀(ops:List Oper) (k i:Nat),(swpL l k ops)[i]?=(ops[i]?).map fun o=>match lkv l (k+i) with|some v=>{ o with op:=.move (.const v) }|none=>o
 | [],k,i=>by simp[swpL]
 | o::r,k,0=>by simp[swpL]
 | o::r,k,i+1=>by
  have:=swpL_get l r (k+1) i
  simp only[swpL,List.getElem?_cons_succ,this];rw[show k+1+i=k+(i+1) by omega]
theorem swpL_len(l:List (Nat × Value)):∀(ops:List Oper) (k:Nat),(swpL l k ops).length=ops.length
 | [],k=>rfl
 | o::r,k=>by simp[swpL,swpL_len l r]
def SwpOk(P:Program)(ops:List Oper)(l:List (Nat × Value)):Prop:=∀i v o,lkv l i=some v->ops[i]?=some o->∀(a:Act) (w:World),(execOp a.eval o).run P w=.ok (.value v) w
theorem wpOps_swap{ops:List Oper}{l:List (Nat × Value)}{Q:Exit->Act->World->Prop}(h:SwpOk P ops l):∀(is:List Nat) (a:Act) (w:World),wpOps P (swpL l 0 ops).toArray Q is a w->wpOps P ops.toArray Q is a w
 | [],a,w,hq=>hq
 | i::is,a,w,hq=>by
  have ih:=wpOps_swap (Q:=Q) h is;have hg:=swpL_get l ops 0 i;have hy:∀tm,yielded (swpL l 0 ops).toArray tm=yielded ops.toArray tm:=fun tm=>by
   funext j
   unfold yielded;have hj:=swpL_get l ops 0 j;simp only[List.getElem?_toArray];rw[hj];cases ops[j]? with
   | none=>rfl
   | some o =>
    simp only[Option.map_some];cases lkv l (0+j)<;>rfl
  unfold wpOps at hq ⊢;simp only[List.getElem?_toArray] at hq ⊢;rw[hg] at hq;cases ho:ops[i]? with
  | none=>rw[ho] at hq;exact ih a w hq
  | some o =>
   rw[ho] at hq;simp only[Option.map_some,Nat.zero_add] at hq ⊢;cases hv:lkv l i with
   | none =>
    rw[hv] at hq;simp only at hq;rw[hy] at hq;split at hq
    .rename_i hw;rw[if_pos hw];rcases hq with hq|hq
     .left;unfold Oper.wp at hq ⊢;generalize (execOp a.eval o).run P w=r at *;cases r with
      | ok n w' =>
       cases n<;>simp only[Oper.upon] at hq ⊢ <;>
        first
         | exact ih _ _ hq
         | exact Calls.mono hq (fun e w'' he=>by cases e<;>first|exact ih _ _ he|exact he)
         | exact Rows.mono hq (fun _ _ he=>ih _ _ he)
      | halt x w'=>cases x<;>simp only[Oper.upon] at hq ⊢<;>exact hq
     .exact .inr hq
    .rename_i hw;rw[if_neg hw];exact ih _ _ hq
   | some v =>
    rw[hv] at hq;simp only at hq;rw[hy] at hq;have hr:=h i v o hv ho a w;have hwt:Region.wanted { o with op:=.move (.const v) } (yielded ops.toArray a.tmps)=Region.wanted o (yielded ops.toArray a.tmps):=rfl
    rw[hwt] at hq;split at hq
    .rename_i hw;rw[if_pos hw];rcases hq with hq|⟨hq,_⟩
     .left;unfold Oper.wp at hq ⊢;rw[hr,Oper.upon_value];have hr2:(execOp a.eval { o with op:=.move (.const v) }).run P w=.ok (.value v) w:=by simp[execOp,Act.eval]
      rw[hr2,Oper.upon_value] at hq;exact ih _ _ hq
     .exfalso
      have:=hq.1
      simp[execOp,Act.eval] at this;have h0:Sem.events P (pure (Next.value v)) w #[] = #[]:=rfl
      rw[h0] at this;simp at this
    .rename_i hw;rw[if_neg hw];exact ih _ _ hq
theorem AL.swap{cx:Cx}{nt0 id:Nat}{ops:List Oper}{S:AS}{K:Exit->AS->Prop}{r:List CI}(l:List (Nat × Value))(h:SwpOk P ops l)(hnb:cx.base+cx.n<=cx.nb)(hok:regionOk cx.n (swpL l 0 ops).toArray false=true)(hr:FReg P cx (swpL l 0 ops).toArray false (AL P cx nt0 K r) S):AL P cx nt0 K (.c (.region id ops.toArray false)::r) S:=by
 simp only[AL];have hA:=fReg_sound hr;clear hr;simp only[regionOk,Bool.and_eq_true,Bool.or_eq_true,Bool.not_eq_true'] at hok;obtain⟨⟨hal,hdst⟩,hreg⟩:=hok;have hsz:(swpL l 0 ops).toArray.size=ops.toArray.size:=by simp[swpL_len]
 obtain⟨ops',ho'⟩:∃o,(swpL l 0 ops).toArray=o:=⟨_,rfl⟩
 intro G0 w0 he hn G a w hr hl;have hsw:=fun is a w (Q:Exit->Act->World->Prop)=>wpOps_swap (Q:=Q) h is a w
 rw[ho'] at hal hdst hA hsz hsw;have hd:=dstOk_spec hdst;obtain⟨b,hb,hr1,hp,hkeep⟩:=preB_sound hnb ops'.toList S.box (S:=S) hr (fun o ho d hod=>hd o d (by simpa using ho) hod) (allocOk_nodup hal) hA;have hl1:LeC cx G0 w0 G w { S with box:=b }:=⟨hl.1,fun k hk hg=>by
  rw[<-hl.2 k hk hg];refine hkeep k fun hm=>?_
  obtain⟨o,ho,he⟩:=List.mem_filterMap.1 hm;split at he
  .rename_i T s h1 h2;simp only[Option.some.injEq] at he;subst he;exact absurd hk (by simp)
  .cases he⟩
 simp only at hb;refine wp_region ?_;rw[<-hsz];refine hsw _ _ _ _ ?_;rw[show List.range ops'.size=List.range' 0 ops'.toList.length by simp[List.range_eq_range']];exact aops_sound hd hnb hal (fun S' a' w' G' h1 h2 h3=>⟨S',G',h1,h2,h3⟩) ops'.toList 0 { S with box:=b } a w G (by simp) hp hr1 hl1 hb
theorem gok(f:Fo)(hs:f.Sm)(hv:validF f cosT=0){X:List (ByteArray × List Bool)}(hX:atmR (usedF f) (bitS tyT) cosT hs3=X):MdlG (mdX X) 3 f /\
  ∀tok nt,DCall prog 90 [tyT.av,spV hs3 ar3,f.av,.d (cosD cosT)] tok nt (.tup [(mdX X).av,I 0]) tok nt:=by
 have h:=gvh3 f hs hv;have h1:=mdl_ok tyT hs3 (ar3.map Ar50.pr) f cosT h.hn h.hn2 (fun a ha=>by obtain⟨x,hx,rfl⟩:=List.mem_map.1 ha;exact h.ar x hx) h.va;have h2:=given50_c tyT hs3 ar3 f cosT h;rw[mdX_eq hX] at h1 h2;exact⟨h1,h2⟩
theorem hold1(tok:Tks)(nt:Nat):DCall prog 35 [tyT.av,spV hs3 ar3,fo1.av,.d (cosD cosT)] tok nt (.tup [.d (bools [true,true,true]),I 0]) tok nt:=by
 obtain⟨h1,h2⟩:=gok fo1 sm1 va1 ax1;have:=holds50_c (mdX atX1) 3 h1.ok fo1 (by decide) h1.hok _ _ _ _ _ tok nt (h2 tok nt)
 rw[ho1] at this;exact this
theorem trac2(tok:Tks)(nt:Nat):DCall prog 39 [tyT.av,spV hs3 ar3,fo2.av,.d (cosD cosT)] tok nt (.tup [.d (ints [0,1,2]),B false,I 0]) tok nt:=by
 obtain⟨h1,h2⟩:=gok fo2 sm2 va2 ax2;have:=trace_c (mdX atX2) 3 h1.ok h1.cv fo2 (by decide) h1.hok _ _ _ _ _ tok nt (h2 tok nt)
 rw[traceA_of tr2 (by simp)] at this;exact this
theorem trac3(tok:Tks)(nt:Nat):DCall prog 39 [tyT.av,spV hs3 ar3,fo3.av,.d (cosD cosT)] tok nt (.tup [.d (ints [0,1,0]),B true,I 0]) tok nt:=by
 obtain⟨h1,h2⟩:=gok fo3 sm3 va3 ax3;have:=trace_c (mdX atX2) 3 h1.ok h1.cv fo3 (by decide) h1.hok _ _ _ _ _ tok nt (h2 tok nt)
 rw[traceA_of tr3 (by simp)] at this;exact this
theorem rank4(tok:Tks)(nt:Nat):DCall prog 40 [tyT.av,spV hs3 ar3,fo4.av,.d (cosD cosT)] tok nt (.tup [.d (ints [1,0,0]),I 0]) tok nt:=by
 obtain⟨h1,h2⟩:=gok fo4 sm4 va4 ax4;have:=rank_c (mdX atX1) 3 h1.ok h1.ne fo4 (by decide) h1.hok rfl _ _ _ _ _ tok nt (h2 tok nt)
 rw[rk4] at this;exact this
theorem spc3(tok:Tks)(nt:Nat):DCall prog 31 [.d (bytes [0,1,2]),.d (prU [(0,1),(1,0),(1,2)])] tok nt (spV hs3 ar3) tok nt:=by
 have:=space_c [0,1,2] (by unfold U8s;decide) [(0,1),(1,0),(1,2)] (by decide) tok nt
 have e1:spS [0,1,2] (spN [0,1,2])=hs3:=by rfl
 have e2:spA (spN [0,1,2]) [(0,1),(1,0),(1,2)] (min [((0:Int),(1:Int)),(1,0),(1,2)].length 30)=ar3:=by rfl
 rw[e1,e2] at this;exact this
abbrev u8p(x y:Int):Value:=.agg #[.int .u8 x,.int .u8 y]
set_option maxRecDepth 100000 in
theorem bld2(x y:Int)(w:World):(Instr.build 169 #[(0,.int .u8 x),(1,.int .u8 y)]).run prog w=.ok (u8p x y) w:=by
 have hu:=underlying169;have he:zeroT prog 169=some [.int .u8 0,.int .u8 0]:=by kernel_rfl
 have hs:szOf prog 5=some 1:=by kernel_rfl
 unfold zeroT at he;split at he
 .rename_i z hz;obtain⟨i,hi,hzi⟩:=Option.bind_eq_some_iff.1 hz;split at he
  .simp only[Option.some.injEq] at he;have hzr:(zeroValue 169).run prog w=.ok z w:=by simp[zeroValue,typeInfo,hi,hzi]
   have hz2:z.cells = #[.int .u8 0,.int .u8 0]:=by rw[<-he]
   simp only[Instr.build,Sem.run_bind,hzr,Result.andThen_ok,run_underlying hu,run_sizeOf hs,hz2];simp[Instr.fill,Value.cells]
  .cases he
 .cases he
set_option maxRecDepth 100000 in
theorem awake50_c:DC 26 [] (B true):=by
 intro tok nt box nb;refine sI func26 ntmps26 fun Hb Ht=>?_
 refine sR ?_;simp;refine sN ?_;refine AL.swap [(1,u8p 0 1),(2,u8p 1 0),(3,u8p 1 2)] ?_ (nr _) (by kernel_rfl) ?_
 .intro i v o h1 h2 a w;unfold lkv lkv lkv lkv at h1;split at h1
  .rename_i e;subst e;cases h1;cases h2;simp[execOp,Act.eval,bld2]
  .split at h1
   .rename_i e;subst e;cases h1;cases h2;simp[execOp,Act.eval,bld2]
   .split at h1
    .rename_i e;subst e;cases h1;cases h2;simp[execOp,Act.eval,bld2]
    .cases h1
 have oc:∀n,(Value.int .u8 n).oneCell'=true:=fun _=>rfl
 simp[swpL,lkv,oc];refine⟨rfl,?_⟩;refine Stop.data ?_;refine sD (spc3 _ _) ?_;try (simp)
 repeat (first|(refine sR ?_;simp)|(refine sC ?_;simp)|(refine sX ?_;simp only[AU,↓reduceIte]))
 refine sD (constraints50_c _ _) ?_;simp;try (simp)
 repeat (first|(refine sR ?_;simp)|(refine sC ?_;simp)|(refine sX ?_;simp only[AU,↓reduceIte]))
 refine sD (atom50_c _ _ _) ?_;simp;refine Stop.data ?_;refine sD (of50_c 2 [foA] _ _) ?_;try (simp)
 repeat (first|(refine sR ?_;simp)|(refine sC ?_;simp)|(refine sX ?_;simp only[AU,↓reduceIte]))
 refine sD (types50_c _ _) ?_;simp;refine Stop.data ?_;refine sD (of50_c 6 [foS] _ _) ?_;simp;refine sD (hold1 _ _) ?_;simp;try (simp)
 repeat (first|(refine sR ?_;simp)|(refine sC ?_;simp)|(refine sX ?_;simp only[AU,↓reduceIte]))
 refine sD (types50_c _ _) ?_;simp;refine sD (atom50_c _ _ _) ?_;simp;refine Stop.data ?_;refine sD (of50_c 11 [foB] _ _) ?_;simp;refine sD (trac2 _ _) ?_;try (simp)
 repeat (first|(refine sR ?_;simp)|(refine sC ?_;simp)|(refine sX ?_;simp only[AU,↓reduceIte]))
 refine sD (types50_c _ _) ?_;simp;refine sD (atom50_c _ _ _) ?_;simp;refine Stop.data ?_;refine sD (of50_c 7 [foB] _ _) ?_;simp;refine sD (trac3 _ _) ?_;try (simp)
 repeat (first|(refine sR ?_;simp)|(refine sC ?_;simp)|(refine sX ?_;simp only[AU,↓reduceIte]))
 refine sD (types50_c _ _) ?_;simp;refine Stop.data ?_;refine sD (of50_c 10 [foS] _ _) ?_;simp;refine sD (rank4 _ _) ?_;try (simp)
 repeat (first|(refine sR ?_;simp)|(refine sC ?_;simp)|(refine sX ?_;simp only[AU,↓reduceIte]))
 refine⟨rfl,?_⟩;refine Stop.data ?_;refine sD (equalB_c [true,true,true] [true,true,true] (by decide) (by decide) _ _) ?_;try (simp)
 repeat (first|(refine sR ?_;simp)|(refine sC ?_;simp)|(refine sX ?_;simp only[AU,↓reduceIte]))
 refine⟨rfl,?_⟩;refine Stop.data ?_;refine sD (equalI_c [0,1,2] [0,1,2] (by decide) (by decide) _ _) ?_;try (simp)
 repeat (first|(refine sR ?_;simp)|(refine sC ?_;simp)|(refine sX ?_;simp only[AU,↓reduceIte]))
 refine⟨rfl,?_⟩;refine Stop.data ?_;refine sD (equalI_c [0,1,0] [0,1,0] (by decide) (by decide) _ _) ?_;try (simp)
 repeat (first|(refine sR ?_;simp)|(refine sC ?_;simp)|(refine sX ?_;simp only[AU,↓reduceIte]))
 refine⟨rfl,?_⟩;refine Stop.data ?_;refine sD (equalI_c [1,0,0] [1,0,0] (by decide) (by decide) _ _) ?_;try (simp)
 repeat (first|(refine sR ?_;simp)|(refine sC ?_;simp)|(refine sX ?_;simp only[AU,↓reduceIte]))
 refine sT (sH Hb Ht ?_);simp
def stSmF(f:Fo)(nb:Nat)(box:Bxs)(tok:Tks)(nt:Nat)(i:Nat):AS :=
 ⟨tl [(5,I i),(2,.ptr (nb+2) 0 0),(3,.ptr (nb+3) 0 0)],lb nb box [(2,[f.row]),(3,[f.row])],tok,nt⟩
set_option maxRecDepth 100000 in
theorem same50_c:∀(n:Nat) (f:Fo),f.size<n->f.size<=1000000->∀(tok:Tks) (nt:Nat),DCall prog 50 [f.av,f.av] tok nt (B true) tok nt
 | 0,f,hn,_,tok,nt=>absurd hn (Nat.not_lt_zero _)
 | n+1,f,hn,hb,tok,nt=>by
  intro box nb;have hkl:=f.kids_len;refine sI func50 ntmps50 fun Hb Ht=>?_
  have htk0:TK tok nt tok nt []:=TK.start Ht
  try (simp)
  repeat (first|(refine sR ?_;simp)|(refine sC ?_;simp)|(refine sX ?_;simp only[AU,↓reduceIte]))
  refine sN ?_;refine sL (stSmF f nb box tok nt) (fun i=>i<=f.kids.length) (fun i=>f.kids.length-i) 0 (Nat.zero_le _) wkA ?_;rintro i S hi hS;simp only[stSmF] at hS;subst hS;have hw:=sW (i:=i) (by omega);by_cases hlt:i<f.kids.length
  .have hlt':(i:Int)<f.kids.length:=by omega
   have ih:=same50_c n f.kids[i] (by have:=Fo.sizeL_mem (List.getElem_mem hlt);rw[f.size_eq] at hn;omega) (by have:=Fo.sizeL_mem (List.getElem_mem hlt);rw[f.size_eq] at hb;omega);try (simp[hlt,hlt',Fo.cells_eq])
   repeat (first|(refine sR ?_;simp[hlt,hlt',Fo.cells_eq])|(refine sC ?_;simp[hlt,hlt',Fo.cells_eq])|(refine sX ?_;simp only[AU,↓reduceIte]))
   refine sD (ih _ _) ?_;simp[Fo.cells_eq];try (simp[hw])
   repeat (first|(refine sR ?_;simp[hw])|(refine sC ?_;simp[hw])|(refine sX ?_;simp only[AU,↓reduceIte]))
   refine sE ?_;exact⟨i+1,hlt,by omega,wkA⟩
  .have:i=f.kids.length:=by omega
   subst this;try (simp)
   repeat (first|(refine sR ?_;simp)|(refine sC ?_;simp)|(refine sX ?_;simp only[AU,↓reduceIte]))
   refine sT (sH Hb Ht ?_);simp
end Go.AM
namespace Go.Proofs
open Go.Shelf
open Go.Proofs.Tryz
def Tryz.lays156_ren:Go.Shelf.Ren:=⟨fun|156=>196|165=>255|166=>55|169=>56|240=>120|241=>291|276=>199|277=>311|n=>n,fun|31=>130|9=>9|3=>3|4=>4|0=>0|20=>20|72=>129|76=>134|70=>127|37=>66|75=>133|127=>226|164=>286|5=>5|80=>136|n=>n,fun|n=>n⟩
theorem Tryz.lays156:Go.Proofs.Lays.n156 prog Tryz.lays156_ren:={
 mixed:=by kernel_rfl
 f156:=func196.trans (congrArg some (by kernel_rfl))
 f165:=func255.trans (congrArg some (by kernel_rfl))
 f166:=func55.trans (congrArg some (by kernel_rfl))
 f169:=func56.trans (congrArg some (by kernel_rfl))
 f240:=func120.trans (congrArg some (by kernel_rfl))
 f241:=func291.trans (congrArg some (by kernel_rfl))
 f276:=func199.trans (congrArg some (by kernel_rfl))
 f277:=func311.trans (congrArg some (by kernel_rfl))
 t0:=underlying0
 a0:=isAgg0
 z0:=sizeOf0
 v0:=zeroValue0
 t3:=underlying3
 a3:=isAgg3
 z3:=sizeOf3
 v3:=zeroValue3
 t4:=underlying4
 a4:=isAgg4
 z4:=sizeOf4
 v4:=zeroValue4
 t9:=underlying9
 a9:=isAgg9
 z9:=sizeOf9
 v9:=zeroValue9
 t20:=underlying20
 a20:=isAgg20
 z20:=sizeOf20
 v20:=zeroValue20
 t31:=underlying130
 a31:=isAgg130
 z31:=sizeOf130
 v31:=zeroValue130
 t37:=underlying66
 a37:=isAgg66
 z37:=sizeOf66
 v37:=zeroValue66
 t70:=underlying127
 a70:=isAgg127
 z70:=sizeOf127
 v70:=zeroValue127
 t72:=underlying129
 a72:=isAgg129
 z72:=sizeOf129
 v72:=zeroValue129
 t75:=underlying133
 a75:=isAgg133
 z75:=sizeOf133
 v75:=zeroValue133
 t76:=underlying134
 a76:=isAgg134
 z76:=sizeOf134
 v76:=zeroValue134
 t127:=underlying226
 a127:=isAgg226
 z127:=sizeOf226
 v127:=zeroValue226
 t164:=underlying286
 a164:=isAgg286
 z164:=sizeOf286
 v164:=zeroValue286 }
theorem Tryz.Builder_Extra_156:Builder.Extra prog Tryz.lays156_ren:={
 sizeBuilder:=by kernel_rfl
 liesBuilder:=by kernel_rfl
 t5:=underlying5
 a5:=isAgg5
 z5:=sizeOf5
 v5:=zeroValue5
 infoByte:=by kernel_rfl
 cellsByte:=by kernel_rfl
 sizeByte:=by kernel_rfl
 neB5:=by decide }
open Go.RowKit in
theorem Tryz.strings_Join(bk o c:Nat)(xs:List ByteArray)(sep:ByteArray)(w:World)(hcells:∀(j:Nat) x,xs[j]?=some x->w.cell? ⟨bk,o+j,none⟩=some (.string x))(hbk:bk<w.heap.size)(hN:xs.length<=140737488355328)(hcap:xs.length<=c)(hlen:(Lib.join (xs.map (·.data.toList)) sep.data.toList).length<=140737488355328):
  Calls prog 196 #[.slice (some ⟨bk,o,none⟩) xs.length c,.string sep] w fun e w'=>e=.returned (.string ⟨(Lib.join (xs.map (·.data.toList)) sep.data.toList).toArray⟩)/\Below w.heap.size w w':=Any.strings_Join Tryz.lays156 Tryz.Builder_Extra_156 bk o c xs sep w hcells hbk hN hcap hlen
end Go.Proofs
namespace Go.AM
open Go Go.Proofs Go.RowKit
open Go.Proofs.Tryz
theorem jnB_list(sep:ByteArray):∀L:List ByteArray,(jnB sep L).data.toList=Lib.join (L.map (·.data.toList)) sep.data.toList
 | []=>rfl
 | [x]=>by rw[jnB,List.map_cons,List.map_nil,Lib.join_one]
 | x::y::r=>by
  have ih:=jnB_list sep (y::r);rw[jnB,ba_app_list,ba_app_list,ih,List.map_cons,List.map_cons,Lib.join_cons,Lib.join_cons];simp[Lib.joinTail]
theorem rvd_strs{c:Addr->Option Value}{ps:Addr->Prop}{l:List ByteArray}{v:Value}(h:RVd c ps (strs l) v):
  ∃A cap,v=.slice A l.length cap/\l.length<=cap/\cap<=maxLen/\(l≠[]->∃a,A=some a)/\∀a,A=some a->∀i (hi:i<l.length),c (a.add i)=some (.string l[i]):=by
 unfold strs at h;generalize hes:(l.map fun s=>[D.raw (.string s)])=es at h;cases h with
 | @sl _ _ A cap u hcap hmax hsz hA hc hr =>
  have hl:es.length=l.length:=by rw[<-hes];simp
  refine⟨A,cap,by rw[hl],by omega,hmax,fun hne=>hA (by intro e;rw[e] at hl;exact hne (List.length_eq_zero_iff.1 hl.symm)),fun a ha i hi=>?_⟩;have g:=(hc a ha i 0 (by omega) (by decide)).2;have r:=hr i 0 (by omega) (by rw[hsz _ (List.getElem_mem _)];decide);have e1:es[i][0]'(by rw[hsz _ (List.getElem_mem _)];decide)=D.raw (.string l[i]):=by
   subst hes;simp
  rw[e1] at r;have e2:u i 0=.string l[i]:=by
   generalize hu:u i 0=x at r;cases r;rfl
  rw[Nat.mul_one,Nat.add_zero,e2] at g;rw[g]
theorem join_c(L:List ByteArray)(sep:ByteArray)(h0:L≠[])(hz:(jnB sep L).size<=1000000)(hl:L.length<=1000000)(tok:Tks)(nt:Nat):DCall prog 196 [.d (strs L),Sb sep] tok nt (Sb (jnB sep L)) tok nt:=by
 refine DCall.of_below (Enters.mk func196 rfl (by kernel_rfl)) rfl fun G w vals hr=>?_
 obtain⟨hlen,hrv⟩:=hr
 match vals,hlen with
 | [v,v2],_ =>
  have k0:=hrv 0 (by simp) (by simp);have k1:=hrv 1 (by simp) (by simp);simp only[List.getElem_cons_zero,List.getElem_cons_succ] at k0 k1;cases k1 with
  | d k1 =>
  cases k1;cases k0 with
  | d k0 =>
   obtain⟨A,cap,rfl,hcap,hmax,hA,hc⟩:=rvd_strs k0;obtain⟨a,rfl⟩:=hA h0;have hp:0<L.length:=List.length_pos_iff.2 h0
   have hc':=hc a rfl
   have hs:a.spot=none:=by
    cases hsp:a.spot with
    | none=>rfl
    | some q =>
     exfalso
     have:=hc' 0 hp
     simp only[World.cell?,Addr.add,hsp,Option.isSome_some,↓reduceIte] at this;split at this<;>simp at this
   obtain⟨b,off,sp⟩:=a;simp only at hs;subst hs;have hcell:∀i (hi:i<L.length),w.cell? ⟨b,off+i,none⟩=some (.string L[i]):=fun i hi=>by
    have h1:=hc' i hi;unfold Addr.add at h1;split at h1
    .rename_i e;subst e;exact h1
    .exact h1
   have hj:=jnB_list sep L;have hsz:=sz_list (jnB sep L);refine(Tryz.strings_Join b off cap L sep w (fun j x hx=>?_) (lt_of_cell (hcell 0 hp)) (by omega) hcap (by rw[<-hj,hsz];omega)).mono fun e w' h=>⟨?_,h.2⟩
   .obtain⟨hj2,rfl⟩:=List.getElem?_eq_some_iff.1 hx;exact hcell j hj2
   .rw[h.1,<-hj]
theorem jnB_snoc(sep:ByteArray):∀(L:List ByteArray) (x:ByteArray),L≠[]->jnB sep (L++[x])=jnB sep L++(sep++x)
 | [],x,h=>absurd rfl h
 | [y],x,_=>rfl
 | y::z::r,x,_=>by
  have ih:=jnB_snoc sep (z::r) x (by simp);rw[List.cons_append] at ih;rw[List.cons_append,List.cons_append,jnB,ih,jnB,ByteArray.append_assoc,ByteArray.append_assoc]
theorem jn_take{l:List Fo}{i:Nat}(sep:ByteArray)(h:i<l.length)(h0:0<i):jnB sep ((l.take (i+1)).map Fo.txt)=jnB sep ((l.take i).map Fo.txt)++(sep++l[i].txt):=by
 rw[List.take_succ_eq_append_getElem h,List.map_append];exact jnB_snoc sep _ _ (by
  intro e;have e2:((l.take i).map Fo.txt).length=0:=by rw[e];rfl
  rw[List.length_map,List.length_take] at e2
  omega)
theorem kindMk(k:Int)(n:ByteArray)(c:List Fo):(Fo.mk k n c).kind=k:=rfl
theorem nameMk(k:Int)(n:ByteArray)(c:List Fo):(Fo.mk k n c).name=n:=rfl
theorem kidsMk(k:Int)(n:ByteArray)(c:List Fo):(Fo.mk k n c).kids=c:=rfl
def jnK(sep:ByteArray)(l:List Fo)(i:Nat):ByteArray:=jnB sep ((l.take i).map Fo.txt)
theorem wr6:IntKind.i64.wrap 0=0/\IntKind.i64.wrap 1=1/\IntKind.i64.wrap 2=2/\IntKind.i64.wrap 4=4/\IntKind.i64.wrap 5=5/\IntKind.i64.wrap 6=6:=by decide
def stJo(l:List Fo)(sg sep:ByteArray)(nb:Nat)(box:Bxs)(tok:Tks)(nt:Nat)(i:Nat):AS :=
 ⟨tl [(6,I i),(5,Sb (⟨#[40,32]⟩++jnK sep l i)),(1,Sb sg),(0,.d (fos l))],lb nb box [],tok,nt⟩
set_option maxRecDepth 100000 in
theorem joined_of(l:List Fo)(hl:l.length<=1000000)(h:∀x∈l,∀(tok:Tks) (nt:Nat),DCall prog 117 [x.av] tok nt (Sb x.txt) tok nt)(sg sep:ByteArray)(hs:sep=(⟨#[32]⟩++sg)++⟨#[32]⟩)(h3:sg.size=1)(hz:∀i,i<=l.length->(jnK sep l i).size<=1000000)(hx0:∀x∈l,x.txt.size<=1000000):DC 197 [.d (fos l),Sb sg] (Sb ((⟨#[40,32]⟩++jnB sep (l.map Fo.txt))++⟨#[32,41]⟩)):=by
 intro tok nt box nb;have z1:(⟨#[40,32]⟩:ByteArray).size=2:=rfl
 have z2:(⟨#[32]⟩:ByteArray).size=1:=rfl
 have z3:(⟨#[32,41]⟩:ByteArray).size=2:=rfl
 have e0:(⟨#[40,32]⟩:ByteArray)++(⟨#[]⟩:ByteArray)=⟨#[40,32]⟩:=ByteArray.append_empty
 refine sI func197 ntmps197 fun Hb Ht=>?_
 try (simp)
 repeat (first|(refine sR ?_;simp)|(refine sC ?_;simp)|(refine sX ?_;simp only[AU,↓reduceIte]))
 refine sN ?_;refine sL (stJo l sg sep nb box tok nt) (fun i=>i<=l.length) (fun i=>l.length-i) 0 (Nat.zero_le _) (wM (nr _) rfl (by rw[show jnK sep l 0=⟨#[]⟩ from rfl,e0];simp[ToL,lk]) (by simp[BoxL,lk])) ?_;rintro i S hi hS;simp only[stJo] at hS;subst hS;have hw:=sW (i:=i) (by omega);by_cases hlt:i<l.length
 .have hlt':(i:Int)<l.length:=by omega
  have hx:=h l[i] (List.getElem_mem hlt);have hxz:=hx0 l[i] (List.getElem_mem hlt);have hzi:=hz i hi;by_cases h0:0<i
  .have h0':(0:Int)<i:=by omega
   have hj:jnK sep l (i+1)=jnK sep l i++(sep++l[i].txt):=jn_take sep hlt h0
   generalize l[i].txt=tx at *;generalize jnK sep l i=J at *;have hJ:(((((⟨#[40,32]⟩:ByteArray)++J)++⟨#[32]⟩)++sg)++⟨#[32]⟩)++tx=⟨#[40,32]⟩++jnK sep l (i+1):=by
    rw[hj,hs];simp only[ByteArray.append_assoc]
   try (simp[hlt,hlt',h0,h0',Fo.cells_eq])
   repeat (first|(refine sR ?_;simp[hlt,hlt',h0,h0',Fo.cells_eq])|(refine sC ?_;simp[hlt,hlt',h0,h0',Fo.cells_eq])|(refine sX ?_;simp only[AU,↓reduceIte]))
   refine⟨by omega,by omega,by omega,?_⟩;try (simp[hlt,hlt',Fo.cells_eq])
   repeat (first|(refine sR ?_;simp[hlt,hlt',Fo.cells_eq])|(refine sC ?_;simp[hlt,hlt',Fo.cells_eq])|(refine sX ?_;simp only[AU,↓reduceIte]))
   refine sD (hx _ _) ?_;simp[Fo.cells_eq];refine⟨by omega,?_⟩;try (simp[hw])
   repeat (first|(refine sR ?_;simp[hw])|(refine sC ?_;simp[hw])|(refine sX ?_;simp only[AU,↓reduceIte]))
   refine sE ?_;exact⟨i+1,hlt,by omega,wM (nr _) rfl (by rw[<-hJ];simp[ToL,lk]) (by simp[BoxL,lk])⟩
  .obtain rfl:i=0:=by omega
   have hj:jnK sep l (0+1)=l[0].txt:=by
    unfold jnK;rw[List.take_succ_eq_append_getElem hlt];rfl
   have hj0:jnK sep l 0=⟨#[]⟩:=rfl
   rw[hj0,e0];generalize l[0].txt=tx at *;try (simp[hlt,hlt',Fo.cells_eq])
   repeat (first|(refine sR ?_;simp[hlt,hlt',Fo.cells_eq])|(refine sC ?_;simp[hlt,hlt',Fo.cells_eq])|(refine sX ?_;simp only[AU,↓reduceIte]))
   refine sD (hx _ _) ?_;simp[Fo.cells_eq];refine⟨by omega,?_⟩;try (simp[wr6])
   repeat (first|(refine sR ?_;simp[wr6])|(refine sC ?_;simp[wr6])|(refine sX ?_;simp only[AU,↓reduceIte]))
   refine sE ?_;exact⟨0+1,hlt,by omega,wM (nr _) rfl (by rw[hj];simp[ToL,lk]) (by simp[BoxL,lk])⟩
 .have:i=l.length:=by omega
  subst this;have hjl:jnB sep (l.map Fo.txt)=jnK sep l l.length:=by unfold jnK;rw[List.take_length]
  rw[hjl];have hlt':¬(l.length:Int)<l.length:=by omega
  have hzl:=hz l.length (nr _);generalize jnK sep l l.length=J at *;try (simp[hlt'])
  repeat (first|(refine sR ?_;simp[hlt'])|(refine sC ?_;simp[hlt'])|(refine sX ?_;simp only[AU,↓reduceIte]))
  refine⟨by omega,?_⟩;try (simp)
  repeat (first|(refine sR ?_;simp)|(refine sC ?_;simp)|(refine sX ?_;simp only[AU,↓reduceIte]))
  refine sT (sH Hb Ht ?_);simp
theorem jn_pre(sep:ByteArray)(hs:sep.size=3)(l:List Fo)(hl:Fo.sizeL l<=40)(h:∀x∈l,x.txt.size+3<=25*x.size)(i:Nat):(jnB sep ((l.take i).map Fo.txt)).size<=1000000:=by
 have h2:Fo.sizeL (l.take i)<=Fo.sizeL l:=by
  have:=Fo.sizeL_app (l.take i) (l.drop i)
  rw[List.take_append_drop] at this;omega
 have h3:∀x∈l.take i,x.txt.size+3<=25*x.size:=fun x hx=>h x (List.mem_of_mem_take hx)
 generalize l.take i=m at *
 match m,h3 with
 | [],_=>show 0<=_;omega
 | x::r,h3 =>
  have:=jn_size sep hs r x h3
  omega
set_option maxRecDepth 100000 in
theorem text50_c:∀(n:Nat) (f:Fo),f.size<n->f.size<=40->f.Wf->∀(tok:Tks) (nt:Nat),DCall prog 117 [f.av] tok nt (Sb f.txt) tok nt
 | 0,f,hn,_,_,tok,nt=>absurd hn (Nat.not_lt_zero _)
 | n+1,f,hn,hb,hf,tok,nt=>by
  intro box nb;have ih:=fun x (hx:x∈f.kids)=>text50_c n x (by have:=Fo.kid_size hx;omega) (by have:=Fo.kid_size hx;omega) (hf.kid x hx)
  have hkl:=f.kids_len;have htx:=f.txt_eq;have hfz:=txt_size _ f (Nat.lt_succ_self _) hf;have hkz:∀x∈f.kids,x.txt.size<=1000000:=fun x hx=>by
   have h1:=txt_size _ x (Nat.lt_succ_self _) (hf.kid x hx);have:=Fo.kid_size hx
   omega
  have hpz:∀sep:ByteArray,sep.size=3->∀i,i<=f.kids.length->(jnB sep ((f.kids.take i).map Fo.txt)).size<=1000000:=fun sep hs i hi=>jn_pre sep hs f.kids (by have:=f.size_eq;omega) (fun x hx=>txt_size _ x (Nat.lt_succ_self _) (hf.kid x hx)) i
  rcases hf.forms with ⟨s,rfl,hs⟩|⟨k,a,b,r,hk,rfl⟩|⟨k,a,b,hk,rfl⟩|⟨k,a,hk,rfl⟩
  .have e:(Fo.mk 1 s []).txt=s:=htx
   rw[e];refine sI func117 ntmps117 fun Hb Ht=>?_
   try (simp[kindMk,nameMk,kidsMk])
   repeat (first|(refine sR ?_;simp[kindMk,nameMk,kidsMk])|(refine sC ?_;simp[kindMk,nameMk,kidsMk])|(refine sX ?_;simp only[AU,↓reduceIte]))
   refine sT (sH Hb Ht ?_);simp
  .simp only[kindMk,nameMk,kidsMk] at *;rcases hk with rfl|rfl
   .have e:(Fo.mk 3 ⟨#[]⟩ (a::b::r)).txt=(⟨#[40,32]⟩++jnB tAm ((a::b::r).map Fo.txt))++⟨#[32,41]⟩:=by rw[htx,ByteArray.append_assoc];rfl
    have hj:=joined_of (a::b::r) (by omega) ih ⟨#[38]⟩ tAm (by decide) rfl (hpz tAm rfl) hkz;rw[<-e] at hj;generalize (Fo.mk 3 ⟨#[]⟩ (a::b::r)).txt=T at *;generalize a::b::r=l at *;refine sI func117 ntmps117 fun Hb Ht=>?_
    try (simp[kindMk,nameMk,kidsMk])
    repeat (first|(refine sR ?_;simp[kindMk,nameMk,kidsMk])|(refine sC ?_;simp[kindMk,nameMk,kidsMk])|(refine sX ?_;simp only[AU,↓reduceIte]))
    refine sD (hj _ _) ?_;simp;try (simp)
    repeat (first|(refine sR ?_;simp)|(refine sC ?_;simp)|(refine sX ?_;simp only[AU,↓reduceIte]))
    refine sT (sH Hb Ht ?_);simp
   .have e:(Fo.mk 4 ⟨#[]⟩ (a::b::r)).txt=(⟨#[40,32]⟩++jnB tBr ((a::b::r).map Fo.txt))++⟨#[32,41]⟩:=by rw[htx,ByteArray.append_assoc];rfl
    have hj:=joined_of (a::b::r) (by omega) ih ⟨#[124]⟩ tBr (by decide) rfl (hpz tBr rfl) hkz;rw[<-e] at hj;generalize (Fo.mk 4 ⟨#[]⟩ (a::b::r)).txt=T at *;generalize a::b::r=l at *;refine sI func117 ntmps117 fun Hb Ht=>?_
    try (simp[kindMk,nameMk,kidsMk])
    repeat (first|(refine sR ?_;simp[kindMk,nameMk,kidsMk])|(refine sC ?_;simp[kindMk,nameMk,kidsMk])|(refine sX ?_;simp only[AU,↓reduceIte]))
    refine sD (hj _ _) ?_;simp;try (simp)
    repeat (first|(refine sR ?_;simp)|(refine sC ?_;simp)|(refine sX ?_;simp only[AU,↓reduceIte]))
    refine sT (sH Hb Ht ?_);simp
  .simp only[kindMk,nameMk,kidsMk] at *;have hj:=joined_of [a,b] (by simp) ih ⟨#[85]⟩ tU (by decide) rfl (hpz tU rfl) hkz;generalize hJ:(⟨#[40,32]⟩++jnB tU ([a,b].map Fo.txt))++(⟨#[32,41]⟩:ByteArray)=J at *;rw[ByteArray.append_assoc] at hJ;rcases hk with rfl|rfl
   .have e:(Fo.mk 8 ⟨#[]⟩ [a,b]).txt=⟨#[69,32]⟩++J:=by rw[htx,<-hJ];rfl
    rw[e];rw[e,ByteArray.size_append] at hfz;generalize hL:[a,b]=l at *;refine sI func117 ntmps117 fun Hb Ht=>?_
    try (simp[kindMk,nameMk,kidsMk])
    repeat (first|(refine sR ?_;simp[kindMk,nameMk,kidsMk])|(refine sC ?_;simp[kindMk,nameMk,kidsMk])|(refine sX ?_;simp only[AU,↓reduceIte]))
    refine sD (hj _ _) ?_;simp;refine⟨by omega,?_⟩;try (simp)
    repeat (first|(refine sR ?_;simp)|(refine sC ?_;simp)|(refine sX ?_;simp only[AU,↓reduceIte]))
    refine sT (sH Hb Ht ?_);simp
   .have e:(Fo.mk 12 ⟨#[]⟩ [a,b]).txt=⟨#[65,32]⟩++J:=by rw[htx,<-hJ];rfl
    rw[e];rw[e,ByteArray.size_append] at hfz;generalize hL:[a,b]=l at *;refine sI func117 ntmps117 fun Hb Ht=>?_
    try (simp[kindMk,nameMk,kidsMk])
    repeat (first|(refine sR ?_;simp[kindMk,nameMk,kidsMk])|(refine sC ?_;simp[kindMk,nameMk,kidsMk])|(refine sX ?_;simp only[AU,↓reduceIte]))
    refine sD (hj _ _) ?_;simp;refine⟨by omega,?_⟩;try (simp)
    repeat (first|(refine sR ?_;simp)|(refine sC ?_;simp)|(refine sX ?_;simp only[AU,↓reduceIte]))
    refine sT (sH Hb Ht ?_);simp
  .simp only[kindMk,nameMk,kidsMk] at *;have e:(Fo.mk k ⟨#[]⟩ [a]).txt=(pfxT k++⟨#[32]⟩)++a.txt:=by
    rw[htx,ByteArray.append_assoc];unfold txtK;rw[if_neg (by omega),if_neg (by omega),if_neg (by omega),if_neg (by omega),if_neg (by omega)];rfl
   rw[e];have hx:=ih a (by simp);have haz:=hkz a (by simp);clear hpz hkz ih htx hfz;generalize a.txt=ta at *;rcases hk with rfl|rfl|rfl|rfl|rfl|rfl|rfl
   .have e2:pfxT 2++(⟨#[32]⟩:ByteArray)=⟨#[110,111,116,32]⟩:=by decide
    rw[e2];refine sI func117 ntmps117 fun Hb Ht=>?_
    try (simp[kindMk,nameMk,kidsMk,Fo.cells_eq a])
    repeat (first|(refine sR ?_;simp[kindMk,nameMk,kidsMk,Fo.cells_eq a])|(refine sC ?_;simp[kindMk,nameMk,kidsMk,Fo.cells_eq a])|(refine sX ?_;simp only[AU,↓reduceIte]))
    refine sD (hx _ _) ?_;simp[Fo.cells_eq];refine⟨by have:(⟨#[110,111,116,32]⟩:ByteArray).size=4:=rfl;omega,?_⟩;try (simp)
    repeat (first|(refine sR ?_;simp)|(refine sC ?_;simp)|(refine sX ?_;simp only[AU,↓reduceIte]))
    refine sT (sH Hb Ht ?_);simp
   all_goals
    refine sI func117 ntmps117 fun Hb Ht=>?_
    try (simp[kindMk,nameMk,kidsMk,Fo.cells_eq a])
    repeat (first|(refine sR ?_;simp[kindMk,nameMk,kidsMk,Fo.cells_eq a])|(refine sC ?_;simp[kindMk,nameMk,kidsMk,Fo.cells_eq a])|(refine sX ?_;simp only[AU,↓reduceIte]))
    refine⟨rfl,?_⟩;try (simp[kindMk,nameMk,kidsMk,Fo.cells_eq a,wr6])
    repeat (first|(refine sR ?_;simp[kindMk,nameMk,kidsMk,Fo.cells_eq a,wr6])|(refine sC ?_;simp[kindMk,nameMk,kidsMk,Fo.cells_eq a,wr6])|(refine sX ?_;simp only[AU,↓reduceIte]))
    refine⟨by decide,?_⟩;refine sD (hx _ _) ?_;simp[Fo.cells_eq];refine⟨Nat.le_trans (Nat.add_le_add_left haz _) (by decide),?_⟩;try (simp)
    repeat (first|(refine sR ?_;simp)|(refine sC ?_;simp)|(refine sX ?_;simp only[AU,↓reduceIte]))
    refine sT (sH Hb Ht ?_);simp[pfxT,sNot,sEX,sEF,sEG,sAX,sAF,sAG]
set_option maxRecDepth 100000 in
theorem format50_c(f:Fo)(hb:f.size<=1000000)(hs:f.Sm):DC 53 [f.av] (.tup [Sb (if shapeF f=0 then f.txt else ⟨#[]⟩),I (shapeF f)]):=by
 intro tok nt box nb;have h1:=shape50_c f hb hs;have h2:=fun h=>text50_c _ f (Nat.lt_succ_self _) (shape_ok (f:=f) h).2 (shape_ok h).1
 obtain⟨R,hR⟩:∃R,(if shapeF f=0 then f.txt else ⟨#[]⟩)=R:=⟨_,rfl⟩
 rw[hR];generalize shapeF f=e at *;refine sI func53 ntmps53 fun Hb Ht=>?_
 try (simp)
 repeat (first|(refine sR ?_;simp)|(refine sC ?_;simp)|(refine sX ?_;simp only[AU,↓reduceIte]))
 refine sD (h1 _ _) ?_;simp[Fo.cells_eq];by_cases h0:e=0
 .rw[if_pos h0] at hR;have h3:=h2 h0;subst hR;subst h0;try (simp)
  repeat (first|(refine sR ?_;simp)|(refine sC ?_;simp)|(refine sX ?_;simp only[AU,↓reduceIte]))
  refine sD (h3 _ _) ?_;simp[Fo.cells_eq];try (simp)
  repeat (first|(refine sR ?_;simp)|(refine sC ?_;simp)|(refine sX ?_;simp only[AU,↓reduceIte]))
  refine sT (sH Hb Ht ?_);simp
 .rw[if_neg h0] at hR;have be:(e != 0)=true:=by simpa using h0
  subst hR;try (simp[be])
  repeat (first|(refine sR ?_;simp[be])|(refine sC ?_;simp[be])|(refine sX ?_;simp only[AU,↓reduceIte]))
  refine sT (sH Hb Ht ?_);simp
abbrev rBy(l:List ByteArray):List (List D):=l.map fun s=>[.raw (.string s)]
theorem txts_take{l:List Fo}{i:Nat}(h:i<l.length):(l.take (i+1)).map Fo.txt=(l.take i).map Fo.txt++[l[i].txt]:=by
 rw[List.take_succ_eq_append_getElem h,List.map_append];rfl
def stTx(f:Fo)(nb:Nat)(box:Bxs)(x:Acc):AS :=
 ⟨tl [(9,I x.i),(8,I f.kids.length),(7,.d (fos f.kids)),(3,.osl 1 (rBy ((f.kids.take x.i).map Fo.txt)) x.own),(1,.ptr (nb+1) 0 0)],lb nb box [(1,[f.row])],x.tok,x.nt⟩
theorem pfx_k{k:Int}(h:k=2∨k=5∨k=6∨k=7∨k=9∨k=10∨k=11)(tok:Tks)(nt:Nat):DCall prog 188 [I k] tok nt (Sb (pfxT k)) tok nt:=by
 rcases h with rfl|rfl|rfl|rfl|rfl|rfl|rfl
 .exact prefixT_c 0 (by decide) tok nt
 .exact prefixT_c 1 (by decide) tok nt
 .exact prefixT_c 2 (by decide) tok nt
 .exact prefixT_c 3 (by decide) tok nt
 .exact prefixT_c 4 (by decide) tok nt
 .exact prefixT_c 5 (by decide) tok nt
 .exact prefixT_c 6 (by decide) tok nt
set_option maxRecDepth 100000 in
theorem textT_c:∀(n:Nat) (f:Fo),f.size<n->f.size<=40->f.Wf->∀(tok:Tks) (nt:Nat),DCall prog 116 [f.av] tok nt (Sb f.txt) tok nt
 | 0,f,hn,_,_,tok,nt=>absurd hn (Nat.not_lt_zero _)
 | n+1,f,hn,hb,hf,tok,nt=>by
  intro box nb;have ih:=fun x (hx:x∈f.kids)=>textT_c n x (by have:=Fo.kid_size hx;omega) (by have:=Fo.kid_size hx;omega) (hf.kid x hx)
  have hkl:=f.kids_len;have htx:=f.txt_eq;have hsz:=txt_size _ f (Nat.lt_succ_self _) hf;refine sI func116 ntmps116 fun Hb Ht=>?_
  try (simp)
  repeat (first|(refine sR ?_;simp)|(refine sC ?_;simp)|(refine sX ?_;simp only[AU,↓reduceIte]))
  refine sN ?_;refine sL (stTx f nb box) (fun x=>x.i<=f.kids.length/\TK tok nt x.tok x.nt [x.own]) (fun x=>f.kids.length-x.i) ⟨0,.full,tok,nt⟩ ⟨Nat.zero_le _,(TK.start Ht).full⟩ wkA ?_;rintro⟨i,own,tok',nt'⟩ S ⟨hi,htk⟩ hS;simp only[stTx] at hS hi htk;subst hS;have hw:=sW (i:=i) (by omega);by_cases hlt:i<f.kids.length
  .have hlt':(i:Int)<f.kids.length:=by omega
   have hx:=ih f.kids[i] (List.getElem_mem hlt);have htt:=txts_take hlt;generalize hx2:f.kids[i].txt=tx at *;try (simp[hlt,hlt',Fo.cells_eq])
   repeat (first|(refine sR ?_;simp[hlt,hlt',Fo.cells_eq])|(refine sC ?_;simp[hlt,hlt',Fo.cells_eq])|(refine sX ?_;simp only[AU,↓reduceIte]))
   refine sD (hx _ _) ?_;simp[Fo.cells_eq];refine⟨⟨?_,htk.live⟩,?_⟩
   .first|omega|(simp;omega)
   try (simp[hw])
   repeat (first|(refine sR ?_;simp[hw])|(refine sC ?_;simp[hw])|(refine sX ?_;simp only[AU,↓reduceIte]))
   refine sE ?_;exact⟨⟨i+1,_,_,_⟩,⟨hlt,htk.app⟩,by simp only;omega,wM htk.app.le rfl (by simp[ToL,lk,htt]) (by simp[BoxL,lk])⟩
  .have:i=f.kids.length:=by omega
   subst this;have hlt':¬(f.kids.length:Int)<f.kids.length:=by omega
   rw[List.take_length];refine sR ?_;simp[hlt'];refine sC ?_;simp;refine sX ?_;simp only[AU,↓reduceIte];refine AL.weak (wM (l':=[(3,.d (strs (f.kids.map Fo.txt))),(1,.ptr (nb+1) 0 0)]) (loc':=[(1,[f.row])]) htk.le rfl (by simp[ToL,lk,strs]) (by simp[BoxL,lk])) ?_;have hne:=hf.forms;rcases hne with ⟨s,rfl,hs⟩|⟨k,a,b,r,hk,rfl⟩|⟨k,a,b,hk,rfl⟩|⟨k,a,hk,rfl⟩
   .have e:(Fo.mk 1 s []).txt=s:=htx
    rw[e];try (simp[kindMk,nameMk,kidsMk])
    repeat (first|(refine sR ?_;simp[kindMk,nameMk,kidsMk])|(refine sC ?_;simp[kindMk,nameMk,kidsMk])|(refine sX ?_;simp only[AU,↓reduceIte]))
    refine sT (sG Hb Ht htk.old htk.le ?_);simp
   .simp only[kindMk,nameMk,kidsMk] at *;have hJl:((a::b::r).map Fo.txt).length<=1000000:=by rw[List.length_map];omega
    rcases hk with rfl|rfl
    .have e:(Fo.mk 3 ⟨#[]⟩ (a::b::r)).txt=(⟨#[40,32]⟩++jnB ⟨#[32,38,32]⟩ ((a::b::r).map Fo.txt))++⟨#[32,41]⟩:=by rw[htx,ByteArray.append_assoc];rfl
     rw[e];rw[e,ByteArray.size_append,ByteArray.size_append] at hsz;have hj:=join_c ((a::b::r).map Fo.txt) ⟨#[32,38,32]⟩ (by simp) (by omega) hJl;generalize (a::b::r).map Fo.txt=T at *;generalize jnB ⟨#[32,38,32]⟩ T=J at *;try (simp[kindMk,nameMk,kidsMk])
     repeat (first|(refine sR ?_;simp[kindMk,nameMk,kidsMk])|(refine sC ?_;simp[kindMk,nameMk,kidsMk])|(refine sX ?_;simp only[AU,↓reduceIte]))
     refine sD (hj _ _) ?_;simp;refine⟨by omega,by omega,?_⟩;try (simp)
     repeat (first|(refine sR ?_;simp)|(refine sC ?_;simp)|(refine sX ?_;simp only[AU,↓reduceIte]))
     refine sT (sG Hb Ht htk.old htk.le ?_);simp
    .have e:(Fo.mk 4 ⟨#[]⟩ (a::b::r)).txt=(⟨#[40,32]⟩++jnB ⟨#[32,124,32]⟩ ((a::b::r).map Fo.txt))++⟨#[32,41]⟩:=by rw[htx,ByteArray.append_assoc];rfl
     rw[e];rw[e,ByteArray.size_append,ByteArray.size_append] at hsz;have hj:=join_c ((a::b::r).map Fo.txt) ⟨#[32,124,32]⟩ (by simp) (by omega) hJl;generalize (a::b::r).map Fo.txt=T at *;generalize jnB ⟨#[32,124,32]⟩ T=J at *;try (simp[kindMk,nameMk,kidsMk])
     repeat (first|(refine sR ?_;simp[kindMk,nameMk,kidsMk])|(refine sC ?_;simp[kindMk,nameMk,kidsMk])|(refine sX ?_;simp only[AU,↓reduceIte]))
     refine sD (hj _ _) ?_;simp;refine⟨by omega,by omega,?_⟩;try (simp)
     repeat (first|(refine sR ?_;simp)|(refine sC ?_;simp)|(refine sX ?_;simp only[AU,↓reduceIte]))
     refine sT (sG Hb Ht htk.old htk.le ?_);simp
   .simp only[kindMk,nameMk,kidsMk] at *;rcases hk with rfl|rfl
    .have e:(Fo.mk 8 ⟨#[]⟩ [a,b]).txt=(((⟨#[69,32,40,32]⟩++a.txt)++⟨#[32,85,32]⟩)++b.txt)++⟨#[32,41]⟩:=by
      rw[htx,show (⟨#[69,32,40,32]⟩:ByteArray)=tE++tLp by decide];simp only[ByteArray.append_assoc];show tE++(tLp++((a.txt++(tU++b.txt))++tRp))=_
      simp only[ByteArray.append_assoc];rfl
     rw[e];rw[e,ByteArray.size_append,ByteArray.size_append,ByteArray.size_append,ByteArray.size_append] at hsz;try (simp[kindMk,nameMk,kidsMk])
     repeat (first|(refine sR ?_;simp[kindMk,nameMk,kidsMk])|(refine sC ?_;simp[kindMk,nameMk,kidsMk])|(refine sX ?_;simp only[AU,↓reduceIte]))
     refine⟨by omega,by omega,by omega,by omega,?_⟩;try (simp)
     repeat (first|(refine sR ?_;simp)|(refine sC ?_;simp)|(refine sX ?_;simp only[AU,↓reduceIte]))
     refine sT (sG Hb Ht htk.old htk.le ?_);simp
    .have e:(Fo.mk 12 ⟨#[]⟩ [a,b]).txt=(((⟨#[65,32,40,32]⟩++a.txt)++⟨#[32,85,32]⟩)++b.txt)++⟨#[32,41]⟩:=by
      rw[htx,show (⟨#[65,32,40,32]⟩:ByteArray)=tA++tLp by decide];simp only[ByteArray.append_assoc];show tA++(tLp++((a.txt++(tU++b.txt))++tRp))=_
      simp only[ByteArray.append_assoc];rfl
     rw[e];rw[e,ByteArray.size_append,ByteArray.size_append,ByteArray.size_append,ByteArray.size_append] at hsz;try (simp[kindMk,nameMk,kidsMk])
     repeat (first|(refine sR ?_;simp[kindMk,nameMk,kidsMk])|(refine sC ?_;simp[kindMk,nameMk,kidsMk])|(refine sX ?_;simp only[AU,↓reduceIte]))
     refine⟨by omega,by omega,by omega,by omega,?_⟩;try (simp)
     repeat (first|(refine sR ?_;simp)|(refine sC ?_;simp)|(refine sX ?_;simp only[AU,↓reduceIte]))
     refine sT (sG Hb Ht htk.old htk.le ?_);simp
   .simp only[kindMk,nameMk,kidsMk] at *;have e:(Fo.mk k ⟨#[]⟩ [a]).txt=(pfxT k++⟨#[32]⟩)++a.txt:=by
     rw[htx,ByteArray.append_assoc];unfold txtK;rw[if_neg (by omega),if_neg (by omega),if_neg (by omega),if_neg (by omega),if_neg (by omega)];rfl
    rw[e];rw[e,ByteArray.size_append,ByteArray.size_append] at hsz;have hp:=pfx_k hk;have k1:(k==1)=false:=by simp;omega
    have k3:(k==3)=false:=by simp;omega
    have k4:(k==4)=false:=by simp;omega
    have k8:(k==8)=false:=by simp;omega
    have k12:(k==12)=false:=by simp;omega
    generalize pfxT k=tp at *;try (simp[kindMk,nameMk,kidsMk,k1,k3,k4,k8,k12])
    repeat (first|(refine sR ?_;simp[kindMk,nameMk,kidsMk,k1,k3,k4,k8,k12])|(refine sC ?_;simp[kindMk,nameMk,kidsMk,k1,k3,k4,k8,k12])|(refine sX ?_;simp only[AU,↓reduceIte]))
    refine sD (hp _ _) ?_;simp;refine⟨by omega,by omega,?_⟩;try (simp)
    repeat (first|(refine sR ?_;simp)|(refine sC ?_;simp)|(refine sX ?_;simp only[AU,↓reduceIte]))
    refine sT (sG Hb Ht htk.old htk.le ?_);simp
set_option maxRecDepth 100000 in
theorem formatT_c(f:Fo)(hb:f.size<=1000000)(hs:f.Sm):DC 52 [f.av] (.tup [Sb (if shapeF f=0 then f.txt else ⟨#[]⟩),I (shapeF f)]):=by
 intro tok nt box nb;have h1:=shapeT_c f hb hs;have h2:=fun h=>textT_c _ f (Nat.lt_succ_self _) (shape_ok (f:=f) h).2 (shape_ok h).1
 obtain⟨R,hR⟩:∃R,(if shapeF f=0 then f.txt else ⟨#[]⟩)=R:=⟨_,rfl⟩
 rw[hR];generalize shapeF f=e at *;refine sI func52 ntmps52 fun Hb Ht=>?_
 try (simp)
 repeat (first|(refine sR ?_;simp)|(refine sC ?_;simp)|(refine sX ?_;simp only[AU,↓reduceIte]))
 refine sD (h1 _ _) ?_;simp[Fo.cells_eq];by_cases h0:e=0
 .rw[if_pos h0] at hR;have h3:=h2 h0;subst hR;subst h0;try (simp)
  repeat (first|(refine sR ?_;simp)|(refine sC ?_;simp)|(refine sX ?_;simp only[AU,↓reduceIte]))
  refine sD (h3 _ _) ?_;simp[Fo.cells_eq];try (simp)
  repeat (first|(refine sR ?_;simp)|(refine sC ?_;simp)|(refine sX ?_;simp only[AU,↓reduceIte]))
  refine sT (sH Hb Ht ?_);simp
 .rw[if_neg h0] at hR;have be:(e != 0)=true:=by simpa using h0
  subst hR;try (simp[be])
  repeat (first|(refine sR ?_;simp[be])|(refine sC ?_;simp[be])|(refine sX ?_;simp only[AU,↓reduceIte]))
  refine sT (sH Hb Ht ?_);simp
end Go.AM
namespace Go.Proofs.YtainalmfffjnjaaGreatDoorX.bld
open Go Go.Proofs Go.RowKit
open Go.Proofs.Tryz
theorem infoB:(prog.info? 129).map (fun i=>i.size)=some 2:=by kernel_rfl
set_option maxHeartbeats 1000000 in
set_option maxRecDepth 100000 in
theorem used(b:Nat)(w:World)(h0:w.cell? ⟨b,0,none⟩=some (.pointer (some ⟨b,0,none⟩))):
  Calls prog 120 #[.pointer (some ⟨b,0,none⟩)] w fun e w'=>e=.returned (.tuple #[])/\w'=w:=by
 obtain⟨j,hj,_⟩:=Option.map_eq_some_iff.1 infoB
 go_enter func120,ntmps120
 go_wp2
 rw[Lib.run_neq_ptr_same w _ underlying127 hj]
 go_wp2
 go_end0
 exact⟨rfl,rfl⟩
set_option maxHeartbeats 1000000 in
set_option maxRecDepth 100000 in
theorem fresh(T:TypeId)(n:Nat)(hn:0<n)(hlies:liesAt prog prog.depth T (n / prog.cellsOf T) 0 129 1=true)(b:Nat)(w:World)(h0:w.cell? ⟨b,0,none⟩=some (.pointer none))(hsh:w.shape? b=some (T,n))(hfz:w.frozen? ⟨b,0,none⟩=false):
  Calls prog 120 #[.pointer (some ⟨b,0,none⟩)] w fun e w'=>e=.returned (.tuple #[])/\w'=w.setCell ⟨b,0,none⟩ (.pointer (some ⟨b,0,none⟩)):=by
 obtain⟨j,hj,hjs⟩:=Option.map_eq_some_iff.1 infoB
 go_enter func120,ntmps120
 go_wp2
 rw[Lib.run_to_unsafe w ⟨b,0,none⟩ underlying127 underlying286 hj (by rw[hjs];decide) hsh hn];simp only[Result.andThen];rw[Oper.upon_value]
 go_wp2
 rw[run_callFunc_extern func199 (by kernel_rfl) (by kernel_rfl) (by kernel_rfl) (e:=Extern.AbiNoEscape.same) (by kernel_rfl)];rw[Lib.run_noEscape];simp only[Result.andThen];rw[Oper.upon_value]
 go_wp2
 rw[Lib.run_from_unsafe w ⟨b,0,none⟩ underlying286 underlying127 hj hsh hlies];simp only[Result.andThen];rw[Oper.upon_value]
 go_wp2
 go_end0
 exact⟨rfl,rfl⟩
end Go.Proofs.YtainalmfffjnjaaGreatDoorX.bld
namespace Go.AM
open Go Go.Proofs Go.RowKit
open Go.Proofs.Tryz
theorem box_two{G:Gh}{m:AMem}{w:World}(hm:RelM G m w){k b sz:Nat}{x y:AV}(hk:m.box k=some [[x,y]])(hb:G.bx k=some (b,sz)):sz=2/\∃u v e,w.heap[b]?=some (.cells #[u,v] e (0,0))/\RV G w x u/\RV G w y v/\u.oneCell'=true/\v.oneCell'=true:=by
 obtain⟨_,cs,e,h1,h2,h3,h4⟩:=hm.box k _ b sz hk hb;have hs:sz=2:=by have:=h2 [x,y] (by simp);simpa using this.symm
 have hf:([[x,y]]:List (List AV)).flatten=[x,y]:=by simp
 rw[hf] at h3;have hl:cs.toList.length=2:=by have:=h3.1;simpa using this.symm
 obtain⟨l⟩:=cs
 match l,hl with
 | [u,v],_ =>
  refine⟨hs,u,v,e,h1,?_,?_,h4 u (by simp),h4 v (by simp)⟩
  .exact h3.2 0 (by simp) (by simp)
  .exact h3.2 1 (by simp) (by simp)
theorem copy_c(T:TypeId)(hlies:liesAt prog prog.depth T (2 / prog.cellsOf T) 0 129 1=true)(k nb:Nat)(box:Bxs)(tok:Tks)(nt:Nat)(x y:AV)(hx:x=.here k T∨x=.ptr k 0 0)(hk:box k=some [[x,y]]):
  ACalls prog 120 [.ptr k 0 0] ⟨box,nb,tok,nt⟩ fun v m=>v=.tup []/\m=⟨upd box k (some [[.ptr k 0 0,y]]),nb,tok,nt⟩:=by
 refine⟨Enters.mk func120 rfl (by kernel_rfl),fun G w vals hm hr=>?_⟩;obtain⟨hlen,hrv⟩:=hr
 match vals,hlen with
 | [v],_ =>
  have h0:=hrv 0 (by simp) (by simp);simp only[List.getElem_cons_zero] at h0;cases h0 with
  | @ptr _ _ _ b sz hb =>
  obtain⟨rfl,c0,c1,e,hh,hr0,hr1,ho0,ho1⟩:=box_two hm hk hb;have ha:(⟨b,0*2+0,none⟩:Addr)=⟨b,0,none⟩:=by simp
  rw[ha];have hc0:w.cell? ⟨b,0,none⟩=some c0:=by simp[World.cell?,hh]
  rcases hx with rfl|rfl
  .cases hr0 with
   | @here _ b2 sz2 _ cs2 f2 hb2 ht2 =>
   rw[hb] at hb2;simp only[Option.some.injEq,Prod.mk.injEq] at hb2;obtain⟨rfl,rfl⟩:=hb2;rw[hh] at ht2;simp only[Option.some.injEq,Obj.cells.injEq] at ht2;obtain⟨rfl,rfl,rfl⟩:=ht2;refine(YtainalmfffjnjaaGreatDoorX.bld.fresh e 2 (by decide) hlies b w hc0 (by simp[World.shape?,hh]) (by simp[World.frozen?,hh])).mono ?_;rintro e' w' ⟨rfl,rfl⟩;have hw:w.setCell ⟨b,0,none⟩ (.pointer (some ⟨b,0,none⟩))=w.setRow b #[.pointer (some ⟨b,0,none⟩),c1]:=by
    simp only[World.setCell,World.setRow];refine congrArg (fun h:Array Obj=>({ w with heap:=h }:World)) ?_;refine Array.ext_getElem? fun i=>?_
    rw[Array.getElem?_modify,Array.getElem?_modify];by_cases e2:b=i
    .subst e2;simp[hh]
    .simp[e2]
   have hkb:=(hm.blt hb).2;have hle:=Le.setRow (w:=w) hkb #[.pointer (some ⟨b,0,none⟩),c1];have hp:RV G w (.ptr k 0 0) (.pointer (some ⟨b,0,none⟩)):=by
    have:=RV.ptr (w:=w) (i:=0) (off:=0) hb
    rwa [ha] at this
   rw[hw];refine⟨_,_,_,G,rfl,⟨rfl,rfl⟩,rfl,?_,.tup rfl fun i h1=>by simp at h1,hle,fun j hj=>⟨hj,?_⟩⟩
   .exact hm.setRow hb (rows:=[[.ptr k 0 0,y]]) (by simp) hh (RVs.cons hp (RVs.cons hr1 RVs.nil)) (fun u hu=>by simp at hu;rcases hu with rfl|rfl;exact rfl;exact ho1)
   .have:j≠k:=fun e=>by subst e;rw[hb] at hj;cases hj
    exact uO _ _ this
  .cases hr0 with
   | @ptr _ _ _ b2 sz2 hb2 =>
   rw[hb] at hb2;simp only[Option.some.injEq,Prod.mk.injEq] at hb2;obtain⟨rfl,rfl⟩:=hb2;rw[ha] at hc0;refine(YtainalmfffjnjaaGreatDoorX.bld.used b w hc0).mono ?_;rintro e' w' ⟨rfl,rfl⟩;have hself:upd box k (some [[.ptr k 0 0,y]])=box:=by
    funext j
    by_cases e:j=k
    .subst e;rw[uS,hk]
    .rw[uO _ _ e]
   refine⟨_,_,_,G,rfl,⟨rfl,rfl⟩,rfl,?_,.tup rfl fun i h1=>by simp at h1,Le.refl _ _,fun j hj=>⟨hj,?_⟩⟩
   .rw[hself];exact hm
   .rw[hself]
end Go.AM
namespace Go.Proofs
open Go.Shelf
open Go.Proofs.Tryz
end Go.Proofs
namespace Go.AM
open Go Go.Proofs
open Go.Proofs.Tryz
abbrev bufA(t:Nat)(s:ByteArray):AV:=.buf 5 t (bytesD s)
structure Wst (T:TypeId) (k:Nat) (s:ByteArray) (x y:AV) (o:Own):Prop where
 x:x=.here k T∨x=.ptr k 0 0
 y:(s=⟨#[]⟩/\y=nilS/\o=.full)∨∃t,o=.tok t/\y=bufA t s
structure Fol (o:Own) (tok:Tks) (nt:Nat) (o':Own) (tok':Nat->Bool) (nt':Nat):Prop where
 le:nt<=nt'
 tk:∀mtok nt0 os,TK mtok nt0 tok nt (o::os)->TK mtok nt0 tok' nt' (o'::os)
 live:o'.liveP tok'
theorem Fol.trans{o o' o'':Own}{tok tok' tok'':Nat->Bool}{nt nt' nt'':Nat}(h:Fol o tok nt o' tok' nt')(k:Fol o' tok' nt' o'' tok'' nt''):Fol o tok nt o'' tok'' nt'' :=
 ⟨Nat.le_trans h.le k.le,fun m n os x=>k.tk m n os (h.tk m n os x),k.live⟩
theorem Fol.refl{o:Own}{tok:Nat->Bool}{nt:Nat}(h:o.liveP tok):Fol o tok nt o tok nt:=⟨nr _,fun _ _ _ x=>x,h⟩
theorem Fol.step{o:Own}{tok:Nat->Bool}{nt:Nat}:Fol o tok nt (.tok nt) (upd (o.kill tok) nt true) (nt+1):=⟨Nat.le_succ _,fun _ _ _ x=>x.app,by simp[Own.liveP,uS]⟩
def QW(k:Nat)(s:ByteArray)(v0:AV)(o:Own)(box:Bxs)(nb:Nat)(tok:Tks)(nt:Nat)(v:AV)(m:AMem):Prop :=
 v=v0/\∃t tok' nt',Fol o tok nt (.tok t) tok' nt'/\m=⟨upd box k (some [[.ptr k 0 0,bufA t s]]),nb,tok',nt'⟩
theorem bytesD_app(a b:ByteArray):bytesD (a++b)=bytesD a++bytesD b:=by simp[bytesD]
set_option maxRecDepth 100000 in
theorem writeS_c(T:TypeId)(hlies:liesAt prog prog.depth T (2 / prog.cellsOf T) 0 129 1=true)(k nb:Nat)(box:Bxs)(tok:Tks)(nt:Nat)(x y:AV)(o:Own)(s d:ByteArray)(hs:Wst T k s x y o)(hk:box k=some [[x,y]])(hl:o.liveP tok)(hd:0<d.size)(hz:s.size+d.size<=1000000000000):
  ACalls prog 55 [.ptr k 0 0,Sb d] ⟨box,nb,tok,nt⟩ (QW k (s++d) (.tup [I d.size,.d (.raw .nilIface)]) o box nb tok nt):=by
 have hc:=fun box' nb' tok' nt' h=>copy_c T hlies k nb' box' tok' nt' x y hs.x h
 refine sI func55 ntmps55 fun Hb Ht=>?_
 have kn:=key_lt Hb hk;try (simp)
 repeat (first|(refine sR ?_;simp)|(refine sC ?_;simp)|(refine sX ?_;simp only[AU,↓reduceIte]))
 refine Stop.of_a (hc _ _ _ _ (by simp only;rw[lO kn];exact hk)) ?_;rintro v m ⟨rfl,rfl⟩;rcases hs.y with ⟨rfl,rfl,rfl⟩|⟨t,rfl,rfl⟩
 .try (simp[lO kn,uL kn,uS,upd_upd])
  repeat (first|(refine sR ?_;simp[lO kn,uL kn,uS,upd_upd])|(refine sC ?_;simp[lO kn,uL kn,uS,upd_upd])|(refine sX ?_;simp only[AU,↓reduceIte]))
  refine⟨⟨hd,by omega⟩,?_⟩;try (simp[lO kn,uL kn,uS,upd_upd])
  repeat (first|(refine sR ?_;simp[lO kn,uL kn,uS,upd_upd])|(refine sC ?_;simp[lO kn,uL kn,uS,upd_upd])|(refine sX ?_;simp only[AU,↓reduceIte]))
  refine sT ?_;try simp only[AU]
  refine⟨by simp,(Fin.gen (av:=.tup [I d.size,.d (.raw .nilIface)]) (tok':=upd tok nt true) (nt':=nt+1) (by simp[resAs,resA,lk];rfl) (by rw[<-uL kn,Hb]) (by omega) (nr _) (fun t ht=>⟨ht,.inl rfl⟩) (outG (by simp[lO kn,uS];exact .buf trivial)) (by simp)).mono fun v m hq=>?_⟩;exact⟨hq.1,nt,_,_,Fol.step,by rw[hq.2,show (⟨#[]⟩:ByteArray)++d=d from ByteArray.empty_append];rfl⟩
 .have ht:tok t=true:=hl
  have hbl:=bytesD_len s;try (simp[lO kn,uL kn,uS,upd_upd])
  repeat (first|(refine sR ?_;simp[lO kn,uL kn,uS,upd_upd])|(refine sC ?_;simp[lO kn,uL kn,uS,upd_upd])|(refine sX ?_;simp only[AU,↓reduceIte]))
  refine⟨⟨by omega,ht⟩,?_⟩;try (simp[lO kn,uL kn,uS,upd_upd])
  repeat (first|(refine sR ?_;simp[lO kn,uL kn,uS,upd_upd])|(refine sC ?_;simp[lO kn,uL kn,uS,upd_upd])|(refine sX ?_;simp only[AU,↓reduceIte]))
  refine sT ?_;try simp only[AU]
  refine⟨by simp,(Fin.gen (av:=.tup [I d.size,.d (.raw .nilIface)]) (tok':=upd (upd tok t false) nt true) (nt':=nt+1) (by simp[resAs,resA,lk];rfl) (by rw[<-uL kn,Hb]) (by omega) (nr _) (fun t ht=>⟨ht,.inl rfl⟩) (outG (by simp[lO kn,uS];exact .buf trivial)) (by simp)).mono fun v m hq=>?_⟩;exact⟨hq.1,nt,_,_,Fol.step,by rw[hq.2];simp only[bufA,bytesD_app];rfl⟩
end Go.AM
namespace Go.Proofs.YtainalmfffjnjaaGreatDoorX.bld
open Go Go.Proofs Go.RowKit Go.Shelf
open Go.Proofs.Tryz
theorem cellsU8:prog.cellsOf 5=1:=by kernel_rfl
set_option maxHeartbeats 1000000 in
set_option maxRecDepth 100000 in
theorem string(T:TypeId)(b g cap:Nat)(p:Value)(cur:Array Value)(l:List UInt8)(h0:l≠[])(w:World)(hbk:w.heap[b]?=some (.cells #[p,.slice (some ⟨g,0,none⟩) l.length cap] T (0,0)))(hg:w.heap[g]?=some (.cells cur 5 (0,0)))(hnc:l.length<=cap)(hcm:cap<=maxLen)(hcs:cur.size=cap)(hcell:∀j x,l[j]?=some x->w.cell? ((⟨g,0,none⟩:Addr).add j)=some (.int .u8 x.toNat)):
  Calls prog 56 #[.pointer (some ⟨b,0,none⟩)] w fun e w'=>e=.returned (.string ⟨l.toArray⟩)/\w'=w.drew.freeze ⟨g,0,none⟩ l.length:=by
 have hl0:l.length≠0:=by simpa using h0
 have c1:w.drew.cell? ⟨b,1,none⟩=some (.slice (some ⟨g,0,none⟩) l.length cap):=by
  have:w.drew.heap[b]?=some (.cells #[p,.slice (some ⟨g,0,none⟩) l.length cap] T (0,0)):=hbk
  rw[Lib.cell_of_heap this];rfl
 have hSD:(Builtin.unsafeSliceData_ #[66] 226 #[.slice (some ⟨g,0,none⟩) l.length cap]).run prog w.drew=.ok (.pointer (some ⟨g,0,none⟩)) w.drew :=
  Lib.run_unsafeSliceData_row _ _ _ _ _ _ (by omega)
 have hUS:(Builtin.unsafeString_ #[226,3] 9 #[.pointer (some ⟨g,0,none⟩),.int .i64 l.length]).run prog w.drew=.ok (.string ⟨l.toArray⟩) (w.drew.freeze ⟨g,0,none⟩ l.length):=by
  refine Lib.run_unsafeString_row w.drew 226 3 9 5 underlying226 cellsU8 g cur.size (by have hg':w.drew.heap[g]?=some (.cells cur 5 (0,0)):=hg;simp[World.shape?,hg']) l h0 (by omega) (by unfold maxLen at hcm;omega) ?_;intro j x hx;exact hcell j x hx
 have mixed:prog.follows Departure.mixedOrders=true:=by kernel_rfl
 go_enter func56,ntmps56
 go_wp2
 go_region_o
 all_goals (go_wp2;go_ret;exact⟨rfl,rfl⟩)
end Go.Proofs.YtainalmfffjnjaaGreatDoorX.bld
namespace Go.AM
open Go Go.Proofs Go.RowKit
open Go.Proofs.Tryz
theorem sz_listW(s:ByteArray):s.data.toList.length=s.size:=size_toList s
theorem ofBs_bsOfW(s:ByteArray):(⟨s.data.toList.toArray⟩:ByteArray)=s:=by cases s;simp
theorem freeze_other(w:World)(g n j:Nat)(h:j≠g):(w.freeze ⟨g,0,none⟩ n).heap[j]?=w.heap[j]?:=by
 unfold World.freeze;split
 .rfl
 .simp only[Array.getElem?_modify];rw[if_neg (fun e=>h e.symm)]
theorem freeze_at{w:World}{g n:Nat}{cs:Array Value}{E:TypeId}{f:Nat × Nat}(h:w.heap[g]?=some (.cells cs E f)):∃f',(w.freeze ⟨g,0,none⟩ n).heap[g]?=some (.cells cs E f'):=by
 unfold World.freeze;split
 .exact⟨f,h⟩
 .obtain⟨lo,hi⟩:=f;simp[Array.getElem?_modify,h]
theorem freeze_cell{w:World}{g n:Nat}{cs:Array Value}{E:TypeId}{f:Nat × Nat}(h:w.heap[g]?=some (.cells cs E f))(a:Addr):(w.freeze ⟨g,0,none⟩ n).cell? a=w.cell? a:=by
 by_cases e:a.block=g
 .obtain⟨f',h'⟩:=freeze_at (n:=n) h;subst e;simp only[World.cell?,h,h']
 .exact World.cell?_of_block (w:=w) (freeze_other w g n a.block e)
theorem Le.freeze{G:Gh}{w:World}{g n f c:Nat}{cs:Array Value}{E:TypeId}{fr:Nat × Nat}(hk:G.kind g=.part f c)(hg:w.heap[g]?=some (.cells cs E fr)):Le G w G (w.freeze ⟨g,0,none⟩ n) where
 os:=by unfold World.freeze;split<;>rfl
 tape:=by unfold World.freeze;split<;>rfl
 output:=by unfold World.freeze;split<;>rfl
 size:=by unfold World.freeze;split<;>simp
 whole b _ h:=⟨h,freeze_other w g n b (fun e=>by subst e;rw[hk] at h;cases h)⟩
 part b f c h:=⟨⟨f,nr _,h⟩,fun a _ _=>freeze_cell hg a⟩
 bx _ _ h:=h
 nt:=nr _
 tk _ _:=.inr ⟨rfl,fun g' _=>⟨rfl,fun he=>freeze_other w g n g' (fun e=>by subst e;rw[hk] at he;cases he)⟩⟩
 ty b c0 T f0 hb:=by
  by_cases e:b=g
  .subst e;obtain⟨f',h'⟩:=freeze_at (n:=n) hb;exact⟨c0,f',h'⟩
  .exact⟨c0,f0,(freeze_other w g n b e).trans hb⟩
theorem RelM.freeze{G:Gh}{m:AMem}{w:World}(h:RelM G m w){g n f c:Nat}{cs:Array Value}{E:TypeId}{fr:Nat × Nat}(hk:G.kind g=.part f c)(hg:w.heap[g]?=some (.cells cs E fr))(ht:∀t,G.tk t≠some (some g)):RelM G m (w.freeze ⟨g,0,none⟩ n) where
 box k rows b sz h1 h2:=by
  obtain⟨g1,cs',e,g2,g3,g4,g5⟩:=h.box k rows b sz h1 h2;exact⟨g1,cs',e,(freeze_other w g n b (fun e=>by subst e;rw[hk] at g1;cases g1)).trans g2,g3,g4.mono (Le.freeze hk hg),g5⟩
 nobox:=h.nobox
 inj:=h.inj
 nb:=h.nb
 nt:=h.nt
 toks:=h.toks
 tokb t g' hg':=by
  obtain⟨f',cur,e,g1,g2⟩:=h.tokb t g' hg';exact⟨f',cur,e,g1,(freeze_other w g n g' (fun e=>ht t (e ▸ hg'))).trans g2⟩
 tinj:=h.tinj
 tnt:=h.tnt
 glob:=h.glob.le (Le.freeze hk hg)
 fresh b hb:=h.fresh b (Nat.le_trans (by unfold World.freeze;split<;>simp) hb)
theorem stringB_c(k nb:Nat)(box:Bxs)(tok:Tks)(nt:Nat)(x:AV)(t:Nat)(s:ByteArray)(hs:0<s.size)(hk:box k=some [[x,bufA t s]])(ht:tok t=true):
  ACalls prog 56 [.ptr k 0 0] ⟨box,nb,tok,nt⟩ fun v m=>v=Sb s/\m=⟨box,nb,upd tok t false,nt⟩:=by
 refine⟨Enters.mk func56 rfl (by kernel_rfl),fun G w vals hm hr=>?_⟩;obtain⟨hlen,hrv⟩:=hr
 match vals,hlen with
 | [v],_ =>
  have h0:=hrv 0 (by simp) (by simp);simp only[List.getElem_cons_zero] at h0;cases h0 with
  | @ptr _ _ _ b sz hb =>
  obtain⟨rfl,c0,c1,e,hh,hr0,hr1,ho0,ho1⟩:=box_two hm hk hb;have ha:(⟨b,0*2+0,none⟩:Addr)=⟨b,0,none⟩:=by simp
  rw[ha];obtain⟨_,y,hy⟩:=hm.toks t ht;cases hr1 with
  | buf h1 h2 h3 h4 =>
  have hbl:=bytesD_len s;cases y with
  | none=>exact absurd hy h3
  | some g =>
   obtain⟨cap,hv,hkg⟩:=h2.2 _ hy;obtain⟨cs,f4,hg4⟩:=h4 g hy;obtain⟨f,cur,o5,hpk,hgh⟩:=hm.tokb t g hy;rcases hpk with ⟨hpk,e5,rfl⟩|hpk
   case inr=>rw[hkg] at hpk;cases hpk
   rw[hg4] at hgh;simp only[Option.some.injEq,Obj.cells.injEq] at hgh;obtain⟨rfl,rfl,rfl⟩:=hgh;have hcs:cs.size=cap:=by
    rw[hkg] at hpk;injection hpk with _ h6
    omega
   subst hv;have hds:s.data.toList.length=s.size:=sz_listW s
   have hcells:∀j x,s.data.toList[j]?=some x->w.cell? ((⟨g,0,none⟩:Addr).add j)=some (.int .u8 x.toNat)/\(bytesD s).length<=cap/\cap<=maxLen:=by
    intro j x hx;have hj:j<s.data.toList.length:=(List.getElem?_eq_some_iff.1 hx).1
    have hxe:s.data.toList[j]=x:=(List.getElem?_eq_some_iff.1 hx).2
    have hget:∀(h1:j<(bytesD s).length) (h2:0<((bytesD s)[j]).length),((bytesD s)[j])[0]=D.raw (.int .u8 x.toNat):=by
     intro h1 h2;simp only[bytesD,List.getElem_map,List.getElem_cons_zero,hxe]
    generalize hes:bytesD s=es at *;cases h1 with
    | @sl _ _ A cap2 u hcap hmax hsz hA hc hrr =>
     have hj':j<es.length:=by omega
     have hl1:=hsz _ (List.getElem_mem hj');have q1:=(hc _ rfl j 0 hj' (by omega)).2;have q2:=hrr j 0 hj' (by omega);rw[hget hj' (by omega)] at q2;generalize u j 0=uj at q1 q2;cases q2;rw[Nat.mul_one,Nat.add_zero] at q1;exact⟨q1,hcap,hmax⟩
   have hne:s.data.toList≠[]:=by intro e;rw[e] at hds;simp at hds;omega
   obtain⟨_,hcp,hcm⟩:=hcells 0 (s.data.toList[0]'(by omega)) (List.getElem?_eq_getElem _);rw[hbl,<-hds] at hh hkg;rw[hbl,<-hds] at hcp;refine(YtainalmfffjnjaaGreatDoorX.bld.string e b g cap c0 cs s.data.toList hne w hh hg4 hcp hcm hcs (fun j x hx=>(hcells j x hx).1)).mono ?_;rintro e' w' ⟨rfl,rfl⟩;have hm1:=(hm.kill (.tok t)).drew;have hg5:w.drew.heap[g]?=some (.cells cs 5 (0,0)):=hg4
   have hk5:(G.kill (.tok t)).kind g=.part (s.data.toList.length*1) (cap*1):=hkg
   have ht5:∀t',(G.kill (.tok t)).tk t'≠some (some g):=by
    intro t' h;simp only[Gh.kill] at h;by_cases e:t'=t
    .subst e;rw[uS] at h;cases h
    .rw[uO _ _ e] at h;exact e (hm.tinj t' t g h hy)
   have hle:Le G w (G.kill (.tok t)) (w.drew.freeze ⟨g,0,none⟩ s.data.toList.length):=(Le.kill (.tok t)).trans (Le.drew.trans (Le.freeze hk5 hg5))
   refine⟨_,_,_,G.kill (.tok t),rfl,⟨rfl,rfl⟩,rfl,hm1.freeze hk5 hg5 ht5,?_,hle,fun j hj=>⟨hj,rfl⟩⟩;have:(⟨s.data.toList.toArray⟩:ByteArray)=s:=ofBs_bsOfW s
   rw[this];exact .d (.raw rfl)
abbrev BldT:TypeId:=129
theorem liesBld:liesAt prog prog.depth BldT (2 / prog.cellsOf BldT) 0 129 1=true:=by kernel_rfl
def catW(f:Nat->ByteArray):Nat->ByteArray
 | 0=>⟨#[]⟩
 | k+1=>catW f k++f k
theorem wroteT{T:TypeId}{k:Nat}{s:ByteArray}{t:Nat}:Wst T k s (.ptr k 0 0) (bufA t s) (.tok t):=⟨.inr rfl,.inr ⟨t,rfl,rfl⟩⟩
theorem wst_okT{T:TypeId}{k:Nat}{s:ByteArray}{x y:AV}{o:Own}{p q:Nat->Prop}(h:Wst T k s x y o)(hp:p k)(hq:∀t,q t):∀r∈[[x,y]],∀z∈r,OkIn p q z:=by
 intro r hr z hz;simp only[List.mem_singleton] at hr;subst hr;simp only[List.mem_cons,List.not_mem_nil,or_false] at hz;rcases hz with rfl|rfl
 .rcases h.x with rfl|rfl
  .exact .here hp
  .exact .ptr hp
 .rcases h.y with ⟨_,rfl,_⟩|⟨t,_,rfl⟩
  .exact .osl fun t e=>hq t
  .exact .buf (hq t)
structure BtX where
 i:Nat
 x:AV
 y:AV
 o:Own
 tok:Nat->Bool
 nt:Nat
structure BtOk (f:Nat->ByteArray) (n k:Nat) (s:ByteArray) (o0:Own) (tok0:Nat->Bool) (nt0:Nat) (a:BtX):Prop where
 le:a.i<=n
 st:Wst BldT k (s++catW f a.i) a.x a.y a.o
 fol:Fol o0 tok0 nt0 a.o a.tok a.nt
theorem wst_rowsT{p q:Nat->Prop}{fz:Option (Nat × Nat × List (List D))}{T:TypeId}{k:Nat}{s:ByteArray}{x y:AV}{o:Own}(h:Wst T k s x y o)(hp:p k)(hq:∀t,q t):RowsTo p q fz [[x,y]] [[x,y]]:=by
 have hk:=wst_okT h hp hq;refine⟨rfl,fun i h1 h2=>⟨rfl,fun j g1 g2=>.same ?_⟩⟩;exact hk _ (List.getElem_mem h1) _ (List.getElem_mem g1)
variable {P:Program}
theorem Seg.finA{cx:Cx}{ops:Array Oper}{k:Nat}{K:AS->Prop}{S:AS}(hnb:cx.base+cx.n<=cx.nb)(hok:regionOk cx.n ops false=true)(hna:((ops.toList.drop k).all fun o=>!isAlloc o.op)=true){post:List Oper}(hp:ops.toList.drop k=post)(h:FOps P cx ops false post K S):Seg P cx ops k K S:=by
 subst hp;intro G0 w0 Q hQ G a w hr hl;have:=aops_sound (ops:=ops) (G0:=G0) (w0:=w0) (K:=K) (Q:=Q) (dstOk_spec (regOk_two hok).2) hnb (regOk_two hok).1 (fun S' a' w' G' q1 q2 q3=>hQ S' a' w' G' q1 q2 q3) (ops.toList.drop k) k S a w G rfl (fun o ho=>pend_no (by simpa using List.all_eq_true.1 hna o ho)) hr hl (fOps_false _ _ h)
 simpa using this
theorem AL.segA{cx:Cx}{nt0 id:Nat}{ops ops':Array Oper}{S:AS}{K:Exit->AS->Prop}{r:List CI}(p:Nat)(hps:p<=ops.size)(hnb:cx.base+cx.n<=cx.nb)(hx:ops.extract 0 p=ops')(hok:regionOk cx.n ops' false=true)(hg:gdOk ops p=true)(h:FReg P cx ops' false (Seg P cx ops p (AL P cx nt0 K r)) S):AL P cx nt0 K (.c (.region id ops false)::r) S:=by
 subst hx;have h:=fReg_sound h;simp only[AL];intro G0 w0 he hn G a w hr hl;have hd:=dstOk_spec (regOk_two hok).2;have hal:=(regOk_two hok).1;obtain⟨b,hb,hr1,hp,hkeep⟩:=preB_sound hnb (ops.extract 0 p).toList S.box (S:=S) hr (fun o ho d hod=>hd o d (Array.mem_toList_iff.1 ho) hod) (allocOk_nodup hal) h;have hl1:LeC cx G0 w0 G w { S with box:=b }:=⟨hl.1,fun k hk hg=>by
  rw[<-hl.2 k hk hg];refine hkeep k fun hm=>?_
  obtain⟨o,ho,he⟩:=List.mem_filterMap.1 hm;split at he
  .rename_i T s h1 h2;simp only[Option.some.injEq] at he;subst he;exact absurd hk (by simp)
  .cases he⟩
 simp only at hb;have key:∀Q:Exit->Act->World->Prop,(∀S a w G,AL P cx nt0 K r S->RelS cx.n cx.nb G S a w->LeC cx G0 w0 G w S->Q .normal a w)->wpOps P ops Q (List.range' 0 p++List.range' p (ops.size-p)) a w:=fun Q hQ=>by
  have hlook:∀j,j<p->(ops.extract 0 p)[j]?=ops[j]?:=fun j hj=>by
   rw[Array.getElem?_extract];have:j<min p ops.size:=by omega
   simp[this]
  refine wpOps_glueG (ops':=ops.extract 0 p) (List.range' 0 p) (fun j hj=>?_) a w ?_
  .have hj':j<p:=by simp at hj;omega
   have hjs:j<ops.size:=by omega
   refine⟨ops[j],by simp[hjs],by rw[hlook j hj'];simp[hjs],fun tm=>?_⟩;have h5:=List.all_eq_true.1 hg ops[j] (by rw[List.mem_take_iff_getElem];exact⟨j,by simp;omega,by simp⟩);unfold Region.wanted;cases hgu:ops[j].guard with
   | none=>rfl
   | some g =>
    obtain⟨q,want⟩:=g;rw[hgu] at h5;have hq:q<p:=by simpa using h5
    simp only;unfold yielded;rw[hlook q hq]
  .have:=aops_sound (cx:=cx) (ops:=ops.extract 0 p) (G0:=G0) (w0:=w0) (K:=Seg P cx ops p (AL P cx nt0 K r)) (Q:=fun e a' w'=>match e with|.normal=>wpOps P ops Q (List.range' p (ops.size-p)) a' w'|e=>Q e a' w')
    hd hnb hal (fun S1 a1 w1 G1 hK hr1 hl1=>hK G0 w0 Q hQ G1 a1 w1 hr1 hl1) (ops.extract 0 p).toList 0 { S with box:=b } a w G (by simp) hp hr1 hl1 hb
   have hlen:(ops.extract 0 p).toList.length=p:=by simp;omega
   rw[hlen] at this;exact this
 refine wp_region ?_;have hsplit:List.range ops.size=List.range' 0 p++List.range' p (ops.size-p):=by
  have e:=List.range'_append_1 (s:=0) (m:=p) (n:=ops.size-p);rw[Nat.zero_add] at e;rw[List.range_eq_range',e,show p+(ops.size-p)=ops.size by omega]
 rw[hsplit];exact key _ (fun S' a' w' G' q1 q2 q3=>⟨S',G',q1,q2,q3⟩)
theorem Seg.here{cx:Cx}{ops:Array Oper}{k:Nat}{K:AS->Prop}{S:AS}(s t:Nat){T:TypeId}{y y2:AV}(hs:S.tmps s=.ptr (cx.base+s) 0 0)(hb:S.box (cx.base+s)=some [[.here (cx.base+s) T,y]])(ht:S.tmps t=.agg [.d (.raw (.pointer none)),y2])(h:Seg P cx ops k K ⟨putT S.tmps (some t) (.agg [.here (cx.base+s) T,y2]),S.box,S.tok,S.nt⟩):Seg P cx ops k K S:=by
 intro G0 w0 Q hQ G a w hS hL;have h1:=hS.tmps s;rw[hs] at h1;have h2:=hS.tmps t;rw[ht] at h2;refine h G0 w0 Q hQ G a w ⟨hS.defers,hS.size,fun i=>?_,hS.mem⟩ ⟨hL.1,hL.2⟩;by_cases e:i=t
 .subst e;simp only[putT,uS];obtain⟨b,sz,hbx⟩:∃b sz,G.bx (cx.base+s)=some (b,sz):=by
   generalize a.tmps.getD s undef=u at h1;cases h1 with
   | ptr h=>exact⟨_,_,h⟩
  obtain⟨_,cs,e,hh,_,hrv,_⟩:=hS.mem.box _ _ _ _ hb hbx;have hf:([[AV.here (cx.base+s) T,y]]:List (List AV)).flatten=[.here (cx.base+s) T,y]:=by simp
  rw[hf] at hrv;have hlen:0<cs.toList.length:=by rw[<-hrv.1];simp
  have hv0:=hrv.2 0 (by simp) hlen;simp only[List.getElem_cons_zero] at hv0;generalize a.tmps.getD i undef=u at h2 ⊢;generalize cs.toList[0]=v0 at hv0;cases hv0 with
  | here q1 q2 =>
  cases h2 with
  | @agg _ vs hl hr hone =>
   refine .agg (cs:=[.here (cx.base+s) T,y2]) hl (fun j g1 g2=>?_) hone
   match j,g1 with
   | 0,_ =>
    have h3:=hr 0 (by simp) g2;simp only[List.getElem_cons_zero] at h3 ⊢;generalize vs[0]'g2=v1 at h3 ⊢;cases h3 with
    | d h4 =>
     cases h4;exact .here q1 q2
   | 1,_=>exact hr 1 (by simp) g2
 .simp only[putT];rw[uO _ _ e];exact hS.tmps i
def blW(bs:List Int)(ws:List ByteArray)(i:Nat):ByteArray:=ws.getD i ⟨#[]⟩++blankB (bkAt bs i)
theorem bl_cat(bs:List Int)(ws:List ByteArray):∀i,i<=ws.length->catW (blW bs ws) i=blT bs 0 (ws.take i)
 | 0,_=>by simp[catW,blT]
 | i+1,h=>by
  have hlt:i<ws.length:=h
  rw[catW,bl_cat bs ws i (by omega),blT_take bs hlt,blW];simp[hlt]
def stTt(f:Fo)(bs:List Int)(ws:List ByteArray)(nb:Nat)(box:Bxs)(a:BtX):AS :=
 ⟨tl [(66,I a.i),(65,I ws.length),(64,.d (strs ws)),(9,.ptr (nb+9) 0 0),(5,Sb f.txt),(2,.ptr (nb+2) 0 0),(1,.d (bytes bs))],lb nb box [(9,[[a.x,a.y]]),(2,[f.row])],a.tok,a.nt⟩
theorem bk_lt(bs:List Int)(i:Nat):bkAt bs i<4:=by
 unfold bkAt;split
 .omega
 .omega
theorem bl_pos(bs:List Int):∀ws:List ByteArray,0<ws.length->(∀w∈ws,0<w.size)->0<(blT bs 0 ws).size
 | [],h,_=>absurd h (Nat.not_lt_zero _)
 | w::r,_,h=>by
  have:=h w (by simp)
  rw[blT,ByteArray.size_append,ByteArray.size_append];omega
def FldC(P:Program)(f:FuncId):Prop:=∀(s:ByteArray),s.size<=1000000->(∀b∈s.data.toList,b.toNat<128)->∀(ws:List ByteArray),(Lib.fields s.data.toList=ws.map fun w=>w.data.toList)->ws.length<=1000000->∀(tok:Tks) (nt:Nat),DCall P f [Sb s] tok nt (.d (strs ws)) tok nt
set_option maxHeartbeats 2000000 in
set_option maxRecDepth 100000 in
theorem lawTText_of(hfd:FldC prog 54)(f:Fo)(hf:f.Sm)(bs:List Int)(hb8:U8s bs/\bs.length<=200000000000000):DC 11 [f.av,.d (bytes bs)] (B true):=by
 intro tok nt box nb;have hw:=awake50_c;have hfw:=few50_c f hf;refine sI func11 ntmps11 fun Hb Ht=>?_
 have ht0:=TK.start Ht;try (simp)
 repeat (first|(refine sR ?_;simp)|(refine sC ?_;simp)|(refine sX ?_;simp only[AU,↓reduceIte]))
 refine sD (hw _ _) ?_;simp;try (simp)
 repeat (first|(refine sR ?_;simp)|(refine sC ?_;simp)|(refine sX ?_;simp only[AU,↓reduceIte]))
 refine sD (hfw _ _) ?_;simp[Fo.cells_eq];cases e1:f.few
 .try (simp)
  repeat (first|(refine sR ?_;simp)|(refine sC ?_;simp)|(refine sX ?_;simp only[AU,↓reduceIte]))
  refine sD (hw _ _) ?_;simp;try (simp)
  repeat (first|(refine sR ?_;simp)|(refine sC ?_;simp)|(refine sX ?_;simp only[AU,↓reduceIte]))
  refine sT (sH Hb Ht ?_);simp
 .by_cases hl:50<bs.length
  .have hl':(50:Int)<(bs.length:Int):=by omega
   try (simp[hl,hl'])
   repeat (first|(refine sR ?_;simp[hl,hl'])|(refine sC ?_;simp[hl,hl'])|(refine sX ?_;simp only[AU,↓reduceIte]))
   refine sD (hw _ _) ?_;simp;try (simp)
   repeat (first|(refine sR ?_;simp)|(refine sC ?_;simp)|(refine sX ?_;simp only[AU,↓reduceIte]))
   refine sT (sH Hb Ht ?_);simp
  .have hl':¬(50:Int)<(bs.length:Int):=by omega
   have hfz:=few_size e1;have h1:=formatT_c f (by omega) hf;have h2:=format50_c f (by omega) hf;by_cases h0:shapeF f=0
   .rw[if_pos h0,h0] at h1 h2;obtain⟨hasc,hfl⟩:=fmt_fields h0;have htz:=fmt_size h0;have hwl:=fmt_len h0;have hws:=wds_sz h0;have hbk:=blanks_back h0 bs;have hfb:=fmt_back h0;have hpt:=parseT_c f.txt (by omega);have hpb:=parseT_c (blT bs 0 (f.wds.map Prod.snd));have hbz:=blT_size bs (f.wds.map Prod.snd) 0 hws;have hsm:=same50_c _ f (Nat.lt_succ_self _) (by omega);have hF:=hfd f.txt (by omega) hasc (f.wds.map Prod.snd) (by rw[hfl,List.map_map];rfl) (by rw[List.length_map];omega);have hpos:∀s∈f.wds.map Prod.snd,0<s.size:=fun s hs=>by
     obtain⟨w,hw,rfl⟩:=List.mem_map.1 hs;have:=(wd_a (lay_wd (fmt_lay false h0) w hw)).ne
     rw[<-sz_list];exact List.length_pos_iff.2 this
    have hne:0<(f.wds.map Prod.snd).length:=by
     rw[List.length_map];have:=wds_pos f (shape_ok h0).1
     omega
    rw[hfb] at hpt;rw[hbk] at hpb;rw[List.length_map] at hbz;have hwsl:(f.wds.map Prod.snd).length<=200:=by rw[List.length_map];exact hwl
    have hbz2:(blT bs 0 (f.wds.map Prod.snd)).size<=5000:=by omega
    clear hbz hwl hfl hbk hfb hasc;generalize f.wds.map Prod.snd=ws at *;try (simp[hl,hl'])
    repeat (first|(refine sR ?_;simp[hl,hl'])|(refine sC ?_;simp[hl,hl'])|(refine sX ?_;simp only[AU,↓reduceIte]))
    refine sD (h1 _ _) ?_;simp[Fo.cells_eq];try (simp)
    repeat (first|(refine sR ?_;simp)|(refine sC ?_;simp)|(refine sX ?_;simp only[AU,↓reduceIte]))
    refine sD (h2 _ _) ?_;simp[Fo.cells_eq];repeat first|simp|refine sR ?_
    refine sC ?_;simp
    refine sN ?_;refine AL.segA 2 (by decide) (nr _) rfl (by kernel_rfl) (by kernel_rfl) ?_;simp;refine Seg.here 9 62 (T:=BldT) (y:=nilS) rfl (by simp[lb_at,lk]) rfl ?_;refine Seg.finA (nr _) (by kernel_rfl) (by kernel_rfl) rfl ?_;simp;try (simp)
    repeat (first|(refine sR ?_;simp)|(refine sC ?_;simp)|(refine sX ?_;simp only[AU,↓reduceIte]))
    refine sD (hF _ _) ?_;simp;clear hF h1 h2 hfw;try (simp)
    repeat (first|(refine sR ?_;simp)|(refine sC ?_;simp)|(refine sX ?_;simp only[AU,↓reduceIte]))
    refine sN ?_;refine sL (stTt f bs ws nb box) (BtOk (blW bs ws) ws.length (nb+9) ⟨#[]⟩ .full tok nt) (fun a=>ws.length-a.i) ⟨0,.here (nb+9) BldT,nilS,.full,tok,nt⟩ ⟨Nat.zero_le _,by simp only[catW];rw[show (⟨#[]⟩:ByteArray)++⟨#[]⟩=⟨#[]⟩ from rfl];exact⟨.inl rfl,.inl ⟨rfl,rfl,rfl⟩⟩,Fol.refl (by simp[Own.liveP])⟩ wkA ?_;rintro⟨i,x1,y1,o1,tok1,nt1⟩ S hok hS;simp only[stTt] at hS;subst hS;have hii:=hok.le;simp only at hii;have hwi:=sW (i:=i) (by omega);have hce:(⟨#[]⟩:ByteArray)++catW (blW bs ws) i=blT bs 0 (ws.take i):=by rw[bl_cat bs ws i hii];exact ByteArray.empty_append
    have hcz:=blT_size bs (ws.take i) 0 fun x hx=>hws x (List.mem_of_mem_take hx)
    rw[List.length_take,<-hce] at hcz;by_cases hlt:i<ws.length
    .have hlt':(i:Int)<ws.length:=by omega
     have hz1:=hws ws[i] (List.getElem_mem hlt);have hp1:=hpos ws[i] (List.getElem_mem hlt);have hbl:(⟨#[]⟩:ByteArray)++catW (blW bs ws) (i+1)=((⟨#[]⟩++catW (blW bs ws) i)++ws[i])++blankB (bkAt bs i):=by
      show (⟨#[]⟩:ByteArray)++(catW (blW bs ws) i++(ws.getD i ⟨#[]⟩++blankB (bkAt bs i)))=_
      rw[show ws.getD i ⟨#[]⟩=ws[i] by simp[hlt]];simp only[ByteArray.append_assoc]
     have hst:=hok.st;have hfo:=hok.fol;simp only at hst hfo;clear hok;generalize (⟨#[]⟩:ByteArray)++catW (blW bs ws) i=s0 at *;have hw1:=fun bx=>writeS_c BldT liesBld (nb+9) (nb+127) bx tok1 nt1 x1 y1 o1 s0 ws[i] hst
     try (simp[hlt,hlt'])
     repeat (first|(refine sR ?_;simp[hlt,hlt'])|(refine sC ?_;simp[hlt,hlt'])|(refine sX ?_;simp only[AU,↓reduceIte]))
     refine Stop.of_a (hw1 _ (by simp[lb_at,lk]) hfo.live hp1 (by omega)) ?_;rintro v m' ⟨rfl,t2,tok2,nt2,hF2,rfl⟩;have hsz2:(s0++ws[i]).size<=5000:=by rw[ByteArray.size_append];omega
     have hbk4:=bk_lt bs i;have fin:∀(bl:ByteArray),bl=blankB (bkAt bs i)->∀t3 tok3 nt3,Fol (.tok t2) tok2 nt2 (.tok t3) tok3 nt3->BtOk (blW bs ws) ws.length (nb+9) ⟨#[]⟩ .full tok nt ⟨i+1,.ptr (nb+9) 0 0,bufA t3 ((s0++ws[i])++bl),.tok t3,tok3,nt3⟩:=fun bl he t3 tok3 nt3 hF3=>⟨hlt,by simp only;rw[hbl,he];exact wroteT,hfo.trans (hF2.trans hF3)⟩
     have hw2:=fun (bl:ByteArray) bx=>writeS_c BldT liesBld (nb+9) (nb+127) bx tok2 nt2 (.ptr (nb+9) 0 0) (bufA t2 (s0++ws[i])) (.tok t2) (s0++ws[i]) bl wroteT
     by_cases hb0:bs.length=0
     .have hn0:¬(0:Int)<(bs.length:Int):=by omega
      have hbk0:blankB (bkAt bs i)=⟨#[32]⟩:=by unfold bkAt;rw[if_pos hb0];rfl
      try (simp[hb0,hn0])
      repeat (first|(refine sR ?_;simp[hb0,hn0])|(refine sC ?_;simp[hb0,hn0])|(refine sX ?_;simp only[AU,↓reduceIte]))
      refine⟨rfl,Stop.of_a (hw2 ⟨#[32]⟩ _ (by simp[lb_at,lk]) hF2.live (by decide) (by have:(⟨#[32]⟩:ByteArray).size=1:=rfl;omega)) ?_⟩;rintro v m' ⟨rfl,t3,tok3,nt3,hF3,rfl⟩;have hfi:=fin ⟨#[32]⟩ hbk0.symm t3 tok3 nt3 hF3;try (simp[hwi])
      repeat (first|(refine sR ?_;simp[hwi])|(refine sC ?_;simp[hwi])|(refine sX ?_;simp only[AU,↓reduceIte]))
      refine sE ?_;exact⟨_,hfi,by simp only;omega,wM hfi.fol.le rfl (by simp[ToL,lk]) ⟨⟨_,rfl,wst_rowsT hfi.st (by simp[lb_at,lk]) (fun _=>trivial)⟩,by simp[BoxL,lk]⟩⟩
     .have hp0:0<bs.length:=by omega
      have hp0':(0:Int)<(bs.length:Int):=by omega
      have hpn:¬(bs.length:Int)=0:=by omega
      obtain⟨j,hj,hjm⟩:∃j,∃_:j<bs.length,i % bs.length=j:=⟨_,Nat.mod_lt _ hp0,rfl⟩
      have hij:(i:Int).tmod (bs.length:Int)=(j:Int):=by rw[Int.tmod_eq_emod_of_nonneg (by omega),<-hjm,Int.natCast_emod]
      have hj':(j:Int)<bs.length:=by omega
      have hcb:=hb8.1 bs[j] (List.getElem_mem hj);have hcw:IntKind.i64.wrap bs[j]=bs[j]:=wrap_in (by omega) (by omega)
      obtain⟨m,hm⟩:∃m:Nat,bkAt bs i=m:=⟨_,rfl⟩
      have hc4:(bs[j]).tmod 4=(m:Int):=by
       rw[Int.tmod_eq_emod_of_nonneg (by omega),<-hm];unfold bkAt;rw[if_neg hb0,hjm,show bs.getD j 0=bs[j] by simp[hj]];omega
      rw[hm] at fin hbk4;have hm4:m=0∨m=1∨m=2∨m=3:=by omega
      try (simp[hb0,hp0,hp0',hpn,hij,hj,hj',hcw,hc4])
      repeat (first|(refine sR ?_;simp[hb0,hp0,hp0',hpn,hij,hj,hj',hcw,hc4])|(refine sC ?_;simp[hb0,hp0,hp0',hpn,hij,hj,hj',hcw,hc4])|(refine sX ?_;simp only[AU,↓reduceIte]))
      rcases hm4 with rfl|rfl|rfl|rfl
      .refine⟨rfl,⟨by decide,rfl⟩,?_⟩;simp only[List.getElem?_cons_zero,List.getElem?_cons_succ,Option.getD_some,Option.map_some];refine Stop.of_a (hw2 ⟨#[32]⟩ _ (by simp[lb_at,lk]) hF2.live (by decide) (by have:(⟨#[32]⟩:ByteArray).size=1:=rfl;omega)) ?_;rintro v m' ⟨rfl,t3,tok3,nt3,hF3,rfl⟩;have hfi:=fin ⟨#[32]⟩ rfl t3 tok3 nt3 hF3;try (simp[hwi])
       repeat (first|(refine sR ?_;simp[hwi])|(refine sC ?_;simp[hwi])|(refine sX ?_;simp only[AU,↓reduceIte]))
       refine sE ?_;exact⟨_,hfi,by simp only;omega,wM hfi.fol.le rfl (by simp[ToL,lk]) ⟨⟨_,rfl,wst_rowsT hfi.st (by simp[lb_at,lk]) (fun _=>trivial)⟩,by simp[BoxL,lk]⟩⟩
      .refine⟨rfl,⟨by decide,rfl⟩,?_⟩;simp only[List.getElem?_cons_zero,List.getElem?_cons_succ,Option.getD_some,Option.map_some];refine Stop.of_a (hw2 ⟨#[10]⟩ _ (by simp[lb_at,lk]) hF2.live (by decide) (by have:(⟨#[10]⟩:ByteArray).size=1:=rfl;omega)) ?_;rintro v m' ⟨rfl,t3,tok3,nt3,hF3,rfl⟩;have hfi:=fin ⟨#[10]⟩ rfl t3 tok3 nt3 hF3;try (simp[hwi])
       repeat (first|(refine sR ?_;simp[hwi])|(refine sC ?_;simp[hwi])|(refine sX ?_;simp only[AU,↓reduceIte]))
       refine sE ?_;exact⟨_,hfi,by simp only;omega,wM hfi.fol.le rfl (by simp[ToL,lk]) ⟨⟨_,rfl,wst_rowsT hfi.st (by simp[lb_at,lk]) (fun _=>trivial)⟩,by simp[BoxL,lk]⟩⟩
      .refine⟨rfl,⟨by decide,rfl⟩,?_⟩;simp only[List.getElem?_cons_zero,List.getElem?_cons_succ,Option.getD_some,Option.map_some];refine Stop.of_a (hw2 ⟨#[9,32]⟩ _ (by simp[lb_at,lk]) hF2.live (by decide) (by have:(⟨#[9,32]⟩:ByteArray).size=2:=rfl;omega)) ?_;rintro v m' ⟨rfl,t3,tok3,nt3,hF3,rfl⟩;have hfi:=fin ⟨#[9,32]⟩ rfl t3 tok3 nt3 hF3;try (simp[hwi])
       repeat (first|(refine sR ?_;simp[hwi])|(refine sC ?_;simp[hwi])|(refine sX ?_;simp only[AU,↓reduceIte]))
       refine sE ?_;exact⟨_,hfi,by simp only;omega,wM hfi.fol.le rfl (by simp[ToL,lk]) ⟨⟨_,rfl,wst_rowsT hfi.st (by simp[lb_at,lk]) (fun _=>trivial)⟩,by simp[BoxL,lk]⟩⟩
      .refine⟨rfl,⟨by decide,rfl⟩,?_⟩;simp only[List.getElem?_cons_zero,List.getElem?_cons_succ,Option.getD_some,Option.map_some];refine Stop.of_a (hw2 ⟨#[32,35,32,41,10]⟩ _ (by simp[lb_at,lk]) hF2.live (by decide) (by have:(⟨#[32,35,32,41,10]⟩:ByteArray).size=5:=rfl;omega)) ?_;rintro v m' ⟨rfl,t3,tok3,nt3,hF3,rfl⟩;have hfi:=fin ⟨#[32,35,32,41,10]⟩ rfl t3 tok3 nt3 hF3;try (simp[hwi])
       repeat (first|(refine sR ?_;simp[hwi])|(refine sC ?_;simp[hwi])|(refine sX ?_;simp only[AU,↓reduceIte]))
       refine sE ?_;exact⟨_,hfi,by simp only;omega,wM hfi.fol.le rfl (by simp[ToL,lk]) ⟨⟨_,rfl,wst_rowsT hfi.st (by simp[lb_at,lk]) (fun _=>trivial)⟩,by simp[BoxL,lk]⟩⟩
    .have:i=ws.length:=by omega
     subst this;have hst:=hok.st;have hfo:=hok.fol;simp only at hst hfo;rw[hce,List.take_length] at hst;clear hok hce hcz;have hlt':¬(ws.length:Int)<ws.length:=by omega
     have hps:0<(blT bs 0 ws).size:=bl_pos bs ws hne hpos
     generalize blT bs 0 ws=T at *;have hpb2:=hpb (by omega);rcases hst.y with ⟨h5,_,_⟩|⟨t2,rfl,rfl⟩
     .rw[h5] at hps;exact absurd hps (by decide)
     .have hlv:tok1 t2=true:=hfo.live
      have htk:=hfo.tk tok nt [] ht0.full;have hold:∀t,tok t=true->(upd tok1 t2 false) t=true:=by
       intro t ht;have h1:=(htk.own _ (by simp) t2 rfl).2.1;have h2:=htk.lt t ht;rw[uO _ _ (by omega)];exact htk.old t ht
      try (simp[hlt'])
      repeat (first|(refine sR ?_;simp[hlt'])|(refine sC ?_;simp[hlt'])|(refine sX ?_;simp only[AU,↓reduceIte]))
      refine sD (hpt _ _) ?_;simp;try (simp)
      repeat (first|(refine sR ?_;simp)|(refine sC ?_;simp)|(refine sX ?_;simp only[AU,↓reduceIte]))
      refine Stop.of_a (stringB_c (nb+9) _ _ _ _ x1 t2 T hps (by simp[lb_at,lk]) hlv) ?_;rintro v m' ⟨rfl,rfl⟩;try (simp)
      repeat (first|(refine sR ?_;simp)|(refine sC ?_;simp)|(refine sX ?_;simp only[AU,↓reduceIte]))
      refine sD (hpb2 _ _) ?_;simp;try (simp)
      repeat (first|(refine sR ?_;simp)|(refine sC ?_;simp)|(refine sX ?_;simp only[AU,↓reduceIte]))
      refine sD (hsm _ _) ?_;simp[Fo.cells_eq];try (simp)
      repeat (first|(refine sR ?_;simp)|(refine sC ?_;simp)|(refine sX ?_;simp only[AU,↓reduceIte]))
      refine sD (hsm _ _) ?_;simp[Fo.cells_eq];try (simp)
      repeat (first|(refine sR ?_;simp)|(refine sC ?_;simp)|(refine sX ?_;simp only[AU,↓reduceIte]))
      refine sT (sG Hb Ht hold htk.le ?_);simp
   .rw[if_neg h0] at h1 h2;have be:(shapeF f != 0)=true:=by simpa using h0
    generalize shapeF f=e at *;try (simp[hl,hl'])
    repeat (first|(refine sR ?_;simp[hl,hl'])|(refine sC ?_;simp[hl,hl'])|(refine sX ?_;simp only[AU,↓reduceIte]))
    refine sD (h1 _ _) ?_;simp[Fo.cells_eq];try (simp)
    repeat (first|(refine sR ?_;simp)|(refine sC ?_;simp)|(refine sX ?_;simp only[AU,↓reduceIte]))
    refine sD (h2 _ _) ?_;simp[Fo.cells_eq];try (simp[be])
    repeat (first|(refine sR ?_;simp[be])|(refine sC ?_;simp[be])|(refine sX ?_;simp only[AU,↓reduceIte]))
    refine sT (sH Hb Ht ?_);simp
open Go Go.Proofs Go.ChangeShapes
open Go.Proofs.Tryz
def rdB:Rdr prog 5 Int:=Rdr.int (k:=.u8) underlying5 (by kernel_rfl)
theorem rdB_ok{n:Int}(h:(Lit.int .u8 n).wf=true):0<=n/\n<256:=by
 simp[Lit.wf,IntKind.min,IntKind.max,IntKind.signed,IntKind.bits] at h;omega
def rdBs:Rdr prog 66 (List Int):=rdB.sliceN 1 underlying66 (by kernel_rfl) (by kernel_rfl)
theorem rdBs_ok{l:List Int}(h:rdBs.ok l):U8s l:=fun c hc=>rdB_ok (h.1 c hc)
theorem by_u81:prog.bytesOf 5=1:=by kernel_rfl
set_option maxRecDepth 100000 in
theorem arg_codes50{ps:Array TypeId}{args:Array Value}{W:World}{base base':Nat}{sp:Nat->Bool}{held:Bool}{H:Type}{enc:TypeId × Value->H}(hval:∀(j:Nat) t v,ps[j]?=some t->args[j]?=some v->Value.okWide prog W .any base t v)(j:Nat)(v:Value)(hp:ps[j]?=some 66)(ha:args[j]?=some v){d:DataW H}{p:List MemPlace}(h:DataW.Trod enc prog W base' sp held 66 v d p)(hli:Light prog 66 d):∃l:List Int,(U8s l/\l.length<=200000000000000)/\RV G0 W (.d (bytes l)) v:=by
 refine Exists.elim (arg_cell hval j 66 v hp ha rdBs (fun l=>bytes l) aggT_66 (fun _=>rfl) h hli) fun l hl=>⟨l,?_,hl.2⟩
 have h2:l.length*prog.bytesOf 5<=reachBytes:=hl.1.2
 rw[by_u81,rch50] at h2;exact⟨rdBs_ok hl.1,by omega⟩
set_option maxRecDepth 100000 in
theorem arg_formula{ps:Array TypeId}{args:Array Value}{W:World}{base base':Nat}{sp:Nat->Bool}{held:Bool}{H:Type}{enc:TypeId × Value->H}(hval:∀(j:Nat) t v,ps[j]?=some t->args[j]?=some v->Value.okWide prog W .any base t v)(j:Nat)(v:Value)(hp:ps[j]?=some 59)(ha:args[j]?=some v){d:DataW H}{p:List MemPlace}(h:DataW.Trod enc prog W base' sp held 59 v d p)(hli:Light prog 59 d):∃f:Fo,f.Sm/\RV G0 W f.av v:=by
 refine Exists.elim (arg_agg hval j 59 v hp ha rdFo aggT_59 h hli) fun f hf=>⟨f,hf.1,?_⟩
 have h2:RV G0 W (.agg (f.cells.map .d)) v:=hf.2
 rw[f.cells_eq] at h2;exact h2
end Go.AM
