/-
 Parts of the proof, as merged from many texts: a machine over data, what the functions compute, plain laws.
-/
import Derived.Test.YtainalmfffjnjaaGreatDoorPTT9
import Derived.Test.YtainalmfffjnjaaGreatDoorRows
import Derived.LaidMore
import Derived.ChangeBears2
import Derived.Lib.IndexAny
import Derived.WalkKit
set_option linter.unusedSimpArgs false
set_option linter.unusedVariables false
namespace Go.AM
open Go Go.Proofs
open Go.Proofs.Tryz
theorem condR_err(c:Co):(condR c).2=shpE c:=by
 unfold condR;split<;>simp_all
def coE(L:List Co)(i:Nat):Int:=match L[i]? with
 | some c=>if shpE c≠0 then shpE c else if plCo L c.name<(i:Int) then 5 else 0
 | none=>0
def coF(L:List Co):Nat->Nat->Int
 | 0,_=>0
 | n+1,i=>if coE L i≠0 then coE L i else coF L n (i+1)
theorem coF_at{L:List Co}{i:Nat}(h:i<L.length):coF L (L.length-i) i=if coE L i≠0 then coE L i else coF L (L.length-(i+1)) (i+1):=by
 rw[show L.length-i=(L.length-(i+1))+1 by omega,coF]
def validF(f:Fo)(L:List Co):Int:=if shapeF f≠0 then shapeF f else if 20<L.length then 3 else if coF L L.length 0≠0 then coF L L.length 0 else if (f.ats.all fun s=>hasCo L s)=true then 0 else 4
structure Cos (L:List Co):Prop where
 n:L.length<=1000000
 fit:∀c∈L,c.Fit
def stVa(f:Fo)(L:List Co)(nb:Nat)(box:Bxs)(tok:Tks)(nt:Nat)(i:Nat):AS :=
 ⟨tl [(20,.d (cosD L)),(21,I L.length),(22,I i),(1,.d (cosD L)),(2,.ptr (nb+2) 0 0)],lb nb box [(2,[f.row])],tok,nt⟩
def stVb(L:List Co)(A:List ByteArray)(nb:Nat)(box:Bxs)(tok:Tks)(nt:Nat)(i:Nat):AS :=
 ⟨tl [(43,.d (strs A)),(44,I A.length),(45,I i),(1,.d (cosD L))],lb nb box [],tok,nt⟩
set_option maxRecDepth 100000 in
theorem validT_c(f:Fo)(L:List Co)(hb:f.size<=1000000)(hs:f.Sm)(hL:Cos L):DC 28 [f.av,.d (cosD L)] (I (validF f L)):=by
 intro tok nt box nb;have hLn:=hL.n;obtain⟨R,hR⟩:∃R,validF f L=R:=⟨_,rfl⟩
 rw[hR];unfold validF at hR;refine sI func28 ntmps28 fun Hb Ht=>?_
 repeat first|simp|refine sR ?_
 refine sD (shapeT_c f hb hs _ _) ?_;simp;by_cases c1:shapeF f=0
 .have b1:(shapeF f != 0)=false:=by simpa using c1
  rw[if_neg (by simpa using c1)] at hR;by_cases c2:(20:Int)<(L.length:Int)
  .rw[if_pos (by omega)] at hR;subst hR;try (simp[b1,c2])
   repeat (first|(refine sR ?_;simp[b1,c2])|(refine sC ?_;simp[b1,c2])|(refine sX ?_;simp only[AU,↓reduceIte]))
   refine sT (sH Hb Ht ?_);simp
  .rw[if_neg (by omega)] at hR;try (simp[b1,c2])
   repeat (first|(refine sR ?_;simp[b1,c2])|(refine sC ?_;simp[b1,c2])|(refine sX ?_;simp only[AU,↓reduceIte]))
   refine sN ?_;refine sL (stVa f L nb box tok nt) (fun i=>i<=L.length/\coF L L.length 0=coF L (L.length-i) i) (fun i=>L.length-i) 0 ⟨Nat.zero_le _,rfl⟩ wkA ?_;rintro i S ⟨hi,hco⟩ hS;simp only[stVa] at hS;subst hS;have hw:=sW (i:=i) (by omega);repeat first|simp|refine sR ?_|refine sC ?_
   refine⟨fun hlt=>?_,fun hge=>?_⟩
   .have hc:=condK_c L[i] (hL.fit _ (List.getElem_mem hlt)) tok nt;rw[condR_err] at hc;rw[coF_at hlt] at hco;have hce:coE L i=if shpE L[i]≠0 then shpE L[i] else if plCo L L[i].name<(i:Int) then 5 else 0:=by simp[coE,hlt]
    repeat first|simp[hlt]|refine sR ?_
    generalize L[i]=x at *;refine sD (hc) ?_;simp;by_cases e1:shpE x=0
    .have d1:(shpE x != 0)=false:=by simpa using e1
     rw[if_neg (by simpa using e1)] at hce;try (simp[d1])
     repeat (first|(refine sR ?_;simp[d1])|(refine sC ?_;simp[d1])|(refine sX ?_;simp only[AU,↓reduceIte]))
     refine sD (namedT_c L x.name hLn _ _) ?_;simp;by_cases e2:plCo L x.name<(i:Int)
     .rw[if_pos e2] at hce;rw[hce,if_pos (by decide)] at hco;rw[hco,if_pos (by decide)] at hR;subst hR;try (simp[e2])
      repeat (first|(refine sR ?_;simp[e2])|(refine sC ?_;simp[e2])|(refine sX ?_;simp only[AU,↓reduceIte]))
      refine sT (sH Hb Ht ?_);simp
     .rw[if_neg e2] at hce;rw[hce,if_neg (by decide)] at hco;try (simp[e2,hw])
      repeat (first|(refine sR ?_;simp[e2,hw])|(refine sC ?_;simp[e2,hw])|(refine sX ?_;simp only[AU,↓reduceIte]))
      refine sE ?_;exact⟨i+1,⟨hlt,hco⟩,by omega,wkA⟩
    .have d1:(shpE x != 0)=true:=by simpa using e1
     rw[if_pos e1] at hce;rw[hce,if_pos e1] at hco;rw[hco,if_pos e1] at hR;subst hR;try (simp[d1])
     repeat (first|(refine sR ?_;simp[d1])|(refine sC ?_;simp[d1])|(refine sX ?_;simp only[AU,↓reduceIte]))
     refine sT (sH Hb Ht ?_);simp
   .refine sX ?_;simp only[AU,↓reduceIte];have hz:coF L L.length 0=0:=by rw[hco,show L.length-i=0 by omega];rfl
    rw[hz,if_neg (by decide)] at hR;obtain⟨A,hA⟩:∃A,f.ats=A:=⟨_,rfl⟩
    have hAl:A.length<=1000000:=by rw[<-hA];have:=f.ats_len _ (Nat.lt_succ_self _);omega
    have hat:=atomsT_c tok nt _ f (Nat.lt_succ_self _) hb [] .full 0 tok nt (TK.start Ht).full (.inr ⟨rfl,rfl⟩) (by simp;omega);rw[List.nil_append,hA] at hat;rw[hA] at hR;repeat first|simp|refine sR ?_
    refine Stop.of_a (hat _ _) ?_;rintro v m' ⟨sz,own,tok2,nt2,rfl,rfl,htk2,hle2,hsz2⟩;have hto:∀p q fz,To p q fz (.osl sz (rSt A) own) (.d (strs A)):=fun p q fz=>by
     rcases hsz2 with h|⟨h,_⟩
     .subst h;exact .data
     .subst h;exact .odsub .emp
    repeat first|simp|refine sR ?_
    refine sN ?_;refine sL (stVb L A nb box tok2 nt2) (fun i=>i<=A.length/\∀j,j<i->∀hj:j<A.length,hasCo L A[j]=true) (fun i=>A.length-i) 0 ⟨Nat.zero_le _,fun j hj=>absurd hj (Nat.not_lt_zero _)⟩ (wM hle2 rfl (by simp[ToL,lk];exact hto _ _ _) trivial) ?_;rintro j S ⟨hj,hall⟩ hS;simp only[stVb] at hS;subst hS;have hw:=sW (i:=j) (by omega);repeat first|simp|refine sR ?_|refine sC ?_
    refine⟨fun hlt=>?_,fun hge=>?_⟩
    .have hno:hasCo L A[j]=false->R=4:=fun h=>by
      rw[<-hR,if_neg];intro ha;rw[List.all_eq_true] at ha;have:=ha _ (List.getElem_mem hlt)
      rw[h] at this;cases this
     have hmore:hasCo L A[j]=true->∀q,q<j+1->∀hq:q<A.length,hasCo L A[q]=true:=fun h q hq hq2=>by
      rcases Nat.lt_or_ge q j with h'|h'
      .exact hall q h' hq2
      .have:q=j:=by omega
       subst this;exact h
     have hnn:=plCo_nn L A[j];repeat first|simp[hlt]|refine sR ?_
     generalize A[j]=x at *;refine sD (namedT_c L x hLn _ _) ?_;simp;cases e:hasCo L x
     .have hf:=hno e;subst hf;rw[e] at hnn;have hd:plCo L x<0:=by simpa using hnn
      try (simp[hd])
      repeat (first|(refine sR ?_;simp[hd])|(refine sC ?_;simp[hd])|(refine sX ?_;simp only[AU,↓reduceIte]))
      refine sT (sG Hb Ht htk2.old hle2 ?_);simp
     .rw[e] at hnn;have hd:¬plCo L x<0:=by simpa using hnn
      try (simp[hd,hw])
      repeat (first|(refine sR ?_;simp[hd,hw])|(refine sC ?_;simp[hd,hw])|(refine sX ?_;simp only[AU,↓reduceIte]))
      refine sE ?_;exact⟨j+1,⟨hlt,hmore e⟩,by omega,wM hle2 rfl (by simp[ToL,lk]) trivial⟩
    .refine sX ?_;simp only[AU,↓reduceIte];have hz:R=0:=by
      rw[<-hR,if_pos];rw[List.all_eq_true];intro x hx;obtain⟨q,hq,rfl⟩:=List.getElem_of_mem hx;exact hall q (by omega) hq
     subst hz;repeat first|simp|refine sR ?_
     refine sT (sG Hb Ht htk2.old hle2 ?_);simp
 .have b1:(shapeF f != 0)=true:=by simpa using c1
  rw[if_pos c1] at hR;subst hR;try (simp[b1])
  repeat (first|(refine sR ?_;simp[b1])|(refine sC ?_;simp[b1])|(refine sX ?_;simp only[AU,↓reduceIte]))
  refine sT (sH Hb Ht ?_);simp
open Go Go.Proofs Go.ChangeShapes
open Go.Proofs.Tryz
theorem RdF.struct3{P:Program}{T A B C:TypeId}{α β γ:Type}{ea:α->List D}{eb:β->List D}{ec:γ->List D}{oa:α->Prop}{ob:β->Prop}{oc:γ->Prop}{n:Nat}(r:RdF P A ea oa n)(s:RdF P B eb ob n)(t:RdF P C ec oc n){f0 f1 f2:Field}(h:P.underlying T=some (.struct #[f0,f1,f2]))(hA:f0.type=A)(hB:f1.type=B)(hC:f2.type=C)(h0:f0.offset=0)(h1:f1.offset=P.cellsOf A)(h2:f2.offset=P.cellsOf A+P.cellsOf B)(hc:P.cellsOf T=P.cellsOf A+P.cellsOf B+P.cellsOf C):
  RdF P T (fun x:α × β × γ=>ea x.1++(eb x.2.1++ec x.2.2)) (fun x=>oa x.1/\ob x.2.1/\oc x.2.2) (n+1):=by
 constructor
 intro H e w base spare held cs x hx;obtain⟨xs,n',hn',rfl,hl,hxs,hat⟩:=DataW.trod_struct h hx;obtain rfl:n'=n:=by omega
 have hxs':xs.length=3:=hxs
 have g0:=hat 0 f0 rfl;have g1:=hat 1 f1 rfl;have g2:=hat 2 f2 rfl;have e0:xs[0]?=some (xs[0]'(by omega)):=List.getElem?_eq_getElem (by omega)
 have e1:xs[1]?=some (xs[1]'(by omega)):=List.getElem?_eq_getElem (by omega)
 have e2:xs[2]?=some (xs[2]'(by omega)):=List.getElem?_eq_getElem (by omega)
 rw[e0,h0,hA] at g0;rw[e1,h1,hB] at g1;rw[e2,h2,hC] at g2;obtain⟨y,k1,k2⟩:=r.sound e w base spare held _ _ g0;obtain⟨z,m1,m2⟩:=s.sound e w base spare held _ _ g1;obtain⟨q,p1,p2⟩:=t.sound e w base spare held _ _ g2;refine⟨(y,z,q),?_,fun hli=>?_⟩
 rotate_left
 .unfold Light at hli k2 m2 p2;have e2:xs=[xs[0]'(by omega),xs[1]'(by omega),xs[2]'(by omega)]:=list3 hxs'
  rw[e2] at hli;simp only[List.map_cons,List.map_nil,DataW.weights,h,DataW.weightsEach,hA,hB,hC,List.all_append,Bool.and_eq_true] at hli;exact⟨k2 hli.1,m2 hli.2.1,p2 hli.2.2.1⟩
 have hcs:cs=(cs.drop 0).take (P.cellsOf A)++((cs.drop (P.cellsOf A)).take (P.cellsOf B)++(cs.drop (P.cellsOf A+P.cellsOf B)).take (P.cellsOf C)):=by
  have:(cs.drop (P.cellsOf A+P.cellsOf B)).take (P.cellsOf C)=cs.drop (P.cellsOf A+P.cellsOf B):=List.take_of_length_le (by simp;omega)
  rw[this,<-List.drop_drop,List.take_append_drop,List.drop_zero,List.take_append_drop]
 rw[hcs];exact k1.append (m1.append p1)
def Rdr.strR{P:Program}{T:TypeId}(h:P.underlying T=some .string)(hc:P.cellsOf T=1):Rdr P T ByteArray where
 enc n:=[.raw (.string n)]
 ok n:=n.size<=reachBytes
 len _:=by simp[hc]
 sound e w base spare held fuel cs x hx:=by
  cases fuel with
  | zero=>simp[DataW.trod] at hx
  | succ n =>
   unfold DataW.trod at hx;rw[h] at hx;split at hx<;>simp_all
   refine⟨_,Rd.one (.raw rfl),fun hli=>?_⟩;obtain⟨_,rfl⟩:=hx;have:=hli
   simp[Light,DataW.weights] at this;exact this
def rdStrR:Rdr prog 9 ByteArray:=Rdr.strR underlying9 (by kernel_rfl)
theorem by_fo:prog.bytesOf 59=48:=by kernel_rfl
theorem rch50:reachBytes=140737488351232:=rfl
theorem rdFo_n:∀n,RdF prog 59 Fo.cells Fo.Sm n
 | 0=>.zero
 | 1=>by
  constructor
  intro H e w base spare held cs x hx;obtain⟨xs,n',hn',rfl,hl,hxs,hat⟩:=DataW.trod_struct underlying59 hx;obtain rfl:n'=0:=by omega
  have g0:=hat 0 _ rfl;simp[DataW.trod] at g0;subst g0;simp at hxs
 | n+2=>by
  have ih:=rdFo_n n;have hk:=ih.slice 3 (by kernel_rfl) (fun c=>by rw[c.cells_eq];rfl) (T:=57) underlying57;have hs:=RdF.struct3 (rdInt.f (n+1)) (rdStrR.f (n+1)) hk underlying59 rfl rfl rfl rfl (by kernel_rfl) (by kernel_rfl) (by kernel_rfl);constructor
  intro H e w base spare held cs x hx;obtain⟨y,h1,h2⟩:=hs.sound e w base spare held cs x hx;refine⟨.mk y.1 y.2.1 y.2.2,?_,fun hli=>?_⟩
  .rw[Fo.cells_eq];exact h1
  .obtain⟨_,s1,k1,k2⟩:=h2 hli;have s2:y.2.1.size<=reachBytes:=s1
   rw[by_fo,rch50] at k2;rw[rch50] at s2;exact .mk (by simp only[Fo.name];omega) (by simp only[Fo.kids];omega) k1
theorem rdFo_len(c:Fo):c.cells.length=prog.cellsOf 59:=by rw[c.cells_eq];kernel_rfl
def rdFo:Rdr prog 59 Fo:=Rdr.ofF Fo.cells Fo.Sm rdFo_len rdFo_n
end Go.AM
namespace Go.Proofs.YtainalmfffjnjaaGreatDoor
open Go Go.AM Go.ChangeShapes
open Go.Proofs.Tryz
theorem str_of{P:Program}{T:TypeId}(hT:P.underlying T=some .string){w:World}{base fuel:Nat}{sp:Nat->Bool}{held:Bool}{H:Type}{enc:TypeId × Value->H}{v:Value}{bs:List UInt8}{q:List MemPlace}(h:DataW.trod enc P w base sp held fuel T [v]=some (.lit (.string bs),q)):v=.string ⟨bs.toArray⟩:=by
 cases fuel with
 | zero=>simp[DataW.trod] at h
 | succ n =>
  unfold DataW.trod at h;rw[hT] at h;cases v<;>simp at h
  rw[<-h.2.1]
theorem words_ds:(Rows.laid_scarfjoint_temporal_words:DataW Unit)=.slice (wordsL.map fun s=>.lit (.string s.data.toList)) []:=by
 unfold Rows.laid_scarfjoint_temporal_words wordsL;rfl
theorem words_globA{W:World}(h:laidMetH prog [("scarfjoint/temporal.words",Rows.laid_scarfjoint_temporal_words)] W):∀g cs,globD g=some cs->∃u:Nat->Value,(∀j,j<cs.length->G0.ps ((⟨g,0,none⟩:Addr).add j)/\W.cell? ((⟨g,0,none⟩:Addr).add j)=some (u j))/\∀j (hj:j<cs.length),RVd W.cell? G0.ps cs[j] (u j):=by
 obtain⟨ps,⟨g,t,cs,fuel,p,q,hg,ht,hv,htr,hq,hps⟩,hnd,hcell⟩:=(show laidMet prog [("scarfjoint/temporal.words",Rows.laid_scarfjoint_temporal_words)] W from h);obtain rfl:1=g:=Option.some.inj ((show prog.globalNamed "scarfjoint/temporal.words" = some 1 by kernel_rfl).symm.trans hg);obtain rfl:130=t:=Option.some.inj ((show (prog.globals[1]?).map (·.type)=some 130 by kernel_rfl).symm.trans ht);rw[words_ds] at htr;obtain⟨a,cap,hcs,hcap,hel⟩:=open_row underlying130 (by kernel_rfl) htr;have hmax:cap<=maxLen:=by
  rcases DataW.trod_slice underlying130 htr with ⟨_,hx⟩|⟨a',len,cap',elems,rest,n,_,hcs',hx,_,_,hm,_,_,_,_⟩
  .simp at hx
  .rw[hcs] at hcs';simp only[List.cons.injEq,Value.slice.injEq,and_true] at hcs';omega
 have hc0:W.cell? ⟨1,0,none⟩=some (.slice (some a) 10 cap):=by
  rw[var?_cell hg hv 0,<-Array.getElem?_toList,hcs];rfl
 have hc1:∀i (hi:i<wordsL.length),W.cell? (a.add i)=some (.string wordsL[i]):=fun i hi=>by
  obtain⟨v,n,q,h1,h2⟩:=hel i _ (by rw[List.getElem?_map,List.getElem?_eq_getElem hi];rfl);rw[h1,str_of underlying9 h2]
 intro g cs' hgd;unfold globD at hgd;split at hgd
 .rename_i e;subst e;cases hgd;refine⟨fun _=>.slice (some a) 10 cap,fun j hj=>⟨G0_ps _,?_⟩,fun j hj=>?_⟩
  .have:j=0:=by simp at hj;omega
   subst this;exact hc0
  .have:j=0:=by simp at hj;omega
   subst this;refine RVd.sl (es:=wordsL.map fun s=>[.raw (.string s)]) (fun i _=>.string (wordsL.getD i ⟨#[]⟩)) hcap hmax ?_ (fun _=>⟨a,rfl⟩) ?_ ?_
   .intro e he;obtain⟨s,_,rfl⟩:=List.mem_map.1 he;rfl
   .intro b hb i j hi hj;cases hb;have:j=0:=by omega
    subst this;have hi2:i<wordsL.length:=by simpa using hi
    refine⟨G0_ps _,?_⟩;rw[Nat.mul_one,Nat.add_zero,hc1 i hi2];simp[hi2]
   .intro i j hi hj;have hi2:i<wordsL.length:=by simpa using hi
    have:j=0:=by simp at hj;omega
    subst this;simp only[List.getElem_map,List.getElem_cons_zero];rw[show wordsL.getD i ⟨#[]⟩=wordsL[i] by simp[hi2]];exact .raw rfl
 .cases hgd
end Go.Proofs.YtainalmfffjnjaaGreatDoor
namespace Go.AM
open Go Go.Proofs Go.Shelf
open Go.Proofs.Tryz
structure Tk where
 kind:Int
 text:ByteArray
 line:Int
abbrev Tk.cells(t:Tk):List D:=[.raw (.int .i64 t.kind),.raw (.string t.text),.raw (.int .i64 t.line)]
abbrev tks(l:List Tk):D:=.sl 3 (l.map Tk.cells)
theorem ba_ext{a b:ByteArray}(h:a.data.toList=b.data.toList):a=b:=by
 obtain⟨⟨a⟩⟩:=a;obtain⟨⟨b⟩⟩:=b;simp at h;rw[h]
theorem ba_cut(s:ByteArray)(a b:Nat):(s.extract a b).data.toList=(s.data.toList.drop a).take (b-a):=by
 rw[ByteArray.data_extract,Array.toList_extract,List.extract_eq_take_drop]
theorem sz_list(s:ByteArray):s.data.toList.length=s.size:=size_toList s
def dropB(s:ByteArray)(n:Nat):ByteArray:=s.extract n s.size
theorem dropB_list(s:ByteArray)(n:Nat):(dropB s n).data.toList=s.data.toList.drop n:=by
 rw[dropB,ba_cut,List.take_of_length_le (by rw[List.length_drop,sz_list];exact nr _)]
theorem dropB_size(s:ByteArray)(n:Nat):(dropB s n).size=s.size-n:=by rw[<-sz_list,dropB_list,List.length_drop,sz_list]
theorem byteAt_get{s:ByteArray}{a:Nat}(h:a<s.data.toList.length):byteAt s a=((s.data.toList[a].toNat:Nat):Int):=by
 simp only[byteAt,List.getD_eq_getElem?_getD,List.getElem?_eq_getElem h,Option.getD_some]
theorem runN_step{p:Int->Bool}{s:ByteArray}{a:Nat}(h:a<s.size)(hp:p (byteAt s a)=true):runN p s a=runN p s (a+1)+1:=by
 have h2:a<s.data.toList.length:=by rw[sz_list];exact h
 unfold runN;rw[List.drop_eq_getElem_cons h2,List.takeWhile_cons,if_pos (by rw[<-byteAt_get h2];exact hp),List.length_cons]
theorem runN_pos{p:Int->Bool}{s:ByteArray}{a:Nat}(h:a<s.size)(hp:p (byteAt s a)=true):1<=runN p s a:=by rw[runN_step h hp];omega
theorem quoR_rng{s:ByteArray}(h1:1<=s.size)(he:(quoR s).2=0):2<=(quoR s).1/\(quoR s).1<=s.size/\(quoR s).1<=62:=by
 have hle:=runN_le quoB (s.extract 1 s.size) 0;rw[ext1_size] at hle;unfold quoR at he ⊢;generalize runN quoB (s.extract 1 s.size) 0=n at *;split
 .rename_i h;rw[if_pos h] at he;simp at he
 .rename_i h;rw[if_neg h] at he;split
  .rename_i h2;rw[if_pos h2] at he;simp at he
  .rename_i h2;rw[if_neg h2] at he;split
   .rename_i h3;rw[if_pos h3] at he;simp at he
   .simp only;omega
theorem nextR_rng{s:ByteArray}(h1:1<=s.size)(he:(nextR s).2.2=0):1<=(nextR s).2.1/\(nextR s).2.1<=s.size/\((nextR s).1=3->2<=(nextR s).2.1)/\(1<=(nextR s).1/\(nextR s).1<=4):=by
 unfold nextR at he ⊢;have hp1:=fun h=>runN_pos (p:=parB) (s:=s) (a:=0) (by omega) h
 have hp2:=fun h=>runN_pos (p:=digB) (s:=s) (a:=0) (by omega) h
 have hl1:=runN_le parB s 0;have hl2:=runN_le digB s 0;by_cases e1:letB (byteAt s 0)=true
 .have:=hp1 (by simp[parB,e1])
  rw[if_pos e1] at he ⊢;split at he
  .simp at he
  .rename_i h2;rw[if_neg h2];simp only;omega
 .rw[if_neg e1] at he ⊢;by_cases e2:digB (byteAt s 0)=true
  .have:=hp2 e2
   rw[if_pos e2] at he ⊢;split at he
   .simp at he
   .rename_i h2;rw[if_neg h2];simp only;omega
  .rw[if_neg e2] at he ⊢;by_cases e3:byteAt s 0=34
   .rw[if_pos e3] at he ⊢;have:=quoR_rng h1 he
    simp only at this ⊢;omega
   .rw[if_neg e3] at he ⊢;by_cases e4:pairB s=true
    .rw[if_pos e4];unfold pairB at e4;simp at e4;simp only;omega
    .rw[if_neg e4] at he ⊢;split at he
     .rename_i h5;rw[if_pos h5];simp only;omega
     .simp at he
def textR(s:ByteArray):ByteArray:=if (nextR s).1=3 then s.extract 1 ((nextR s).2.1.toNat-1) else s.extract 0 (nextR s).2.1.toNat
def nlB(c:Int):Bool:=c != 10
def whiB(c:Int):Bool:=decide (c=32∨c=9∨c=13)
def toksF:Nat->ByteArray->Int->List Tk->List Tk × Int × Int
 | 0,_,_,out=>(out,0,0)
 | f+1,s,line,out =>
  if s.size=0 then (out,0,0)
  else if byteAt s 0=10 then toksF f (dropB s 1) (line+1) out
  else if whiB (byteAt s 0)=true then toksF f (dropB s 1) line out
  else if byteAt s 0=35 then toksF f (dropB s (runN nlB s 0)) line out
  else if (nextR s).2.2≠0 then ([],line,(nextR s).2.2)
  else if out.length=4000 then ([],line,3)
  else toksF f (dropB s (nextR s).2.1.toNat) line (out++[⟨(nextR s).1,textR s,line⟩])
def toksR(s:ByteArray):List Tk × Int × Int:=if 20000<s.size then ([],0,3) else toksF s.size s 1 []
theorem toksF_end{f:Nat}{s:ByteArray}{line:Int}{out:List Tk}(h:s.size=0):toksF f s line out=(out,0,0):=by
 cases f with
 | zero=>rfl
 | succ f=>rw[toksF,if_pos h]
theorem toksF_nl{f:Nat}{s:ByteArray}{line:Int}{out:List Tk}(h:¬s.size=0)(h1:byteAt s 0=10):toksF (f+1) s line out=toksF f (dropB s 1) (line+1) out:=by rw[toksF,if_neg h,if_pos h1]
theorem toksF_wh{f:Nat}{s:ByteArray}{line:Int}{out:List Tk}(h:¬s.size=0)(h1:¬byteAt s 0=10)(h2:whiB (byteAt s 0)=true):toksF (f+1) s line out=toksF f (dropB s 1) line out:=by rw[toksF,if_neg h,if_neg h1,if_pos h2]
theorem toksF_cm{f:Nat}{s:ByteArray}{line:Int}{out:List Tk}(h:¬s.size=0)(h3:byteAt s 0=35):toksF (f+1) s line out=toksF f (dropB s (runN nlB s 0)) line out:=by
 rw[toksF,if_neg h,if_neg (by omega),if_neg (by simp[whiB,h3]),if_pos h3]
theorem toksF_tk{f:Nat}{s:ByteArray}{line:Int}{out:List Tk}(h:¬s.size=0)(h1:¬byteAt s 0=10)(h2:¬whiB (byteAt s 0)=true)(h3:¬byteAt s 0=35):toksF (f+1) s line out =
  if (nextR s).2.2≠0 then ([],line,(nextR s).2.2) else if out.length=4000 then ([],line,3) else toksF f (dropB s (nextR s).2.1.toNat) line (out++[⟨(nextR s).1,textR s,line⟩]):=by
 rw[toksF,if_neg h,if_neg h1,if_neg h2,if_neg h3]
theorem tokens1_c(c:Int):DC 183 [Ub c] (B (nlB c)):=by
 intro tok nt box nb;refine sI func183 ntmps183 fun Hb Ht=>?_
 repeat first|simp|refine sR ?_
 refine sT (sH Hb Ht ?_);simp[nlB]
structure AccT where
 s:ByteArray
 line:Int
 out:List Tk
 own:Own
 tok:Nat->Bool
 nt:Nat
 f:Nat
structure TkInv (R:List Tk × Int × Int) (mtok:Tks) (nt0:Nat) (x:AccT):Prop where
 f:x.s.size<=x.f
 s:x.s.size<=20000
 l0:0<=x.line
 l1:x.line<=20001-x.s.size
 n:x.out.length<=4000
 r:toksF x.f x.s x.line x.out=R
 k:TK mtok nt0 x.tok x.nt [x.own]
theorem TkInv.of{R:List Tk × Int × Int}{mtok:Nat->Bool}{nt0:Nat}{s:ByteArray}{line:Int}{out:List Tk}{own:Own}{tok:Nat->Bool}{nt f:Nat}(h1:s.size<=f)(h2:s.size<=20000)(h3:0<=line)(h4:line<=20001-s.size)(h5:out.length<=4000)(h6:toksF f s line out=R)(h7:TK mtok nt0 tok nt [own]):TkInv R mtok nt0 ⟨s,line,out,own,tok,nt,f⟩:=⟨h1,h2,h3,h4,h5,h6,h7⟩
def stTo(nb:Nat)(box:Bxs)(x:AccT):AS :=
 ⟨tl [(0,Sb x.s),(5,.osl 3 (x.out.map Tk.cells) x.own),(6,I x.line)],lb nb box [],x.tok,x.nt⟩
set_option maxRecDepth 100000 in
theorem tokens_c(s:ByteArray)(hs:s.size<=200000000000000):DC 111 [Sb s] (.tup [.d (tks (toksR s).1),I (toksR s).2.1,I (toksR s).2.2]):=by
 intro tok nt box nb;obtain⟨R,hR⟩:∃R,toksR s=R:=⟨_,rfl⟩
 rw[hR];unfold toksR at hR;refine sI func111 ntmps111 fun Hb Ht=>?_
 have ht0:=TK.start Ht;repeat first|simp|refine sR ?_
 by_cases h0:20000<s.size
 .rw[if_pos h0] at hR;have h0':(20000:Int)<s.size:=by omega
  try (simp[h0'])
  repeat (first|(refine sR ?_;simp[h0'])|(refine sC ?_;simp[h0'])|(refine sX ?_;simp only[AU,↓reduceIte]))
  refine sT (sH Hb Ht ?_);simp[<-hR,tks]
 .rw[if_neg h0] at hR;have h0':¬(20000:Int)<s.size:=by omega
  try (simp[h0'])
  repeat (first|(refine sR ?_;simp[h0'])|(refine sC ?_;simp[h0'])|(refine sX ?_;simp only[AU,↓reduceIte]))
  refine sN ?_;refine sL (stTo nb box) (TkInv R tok nt) (fun x=>x.s.size) ⟨s,1,[],.full,tok,nt,s.size⟩ (TkInv.of (nr _) (by omega) (by omega) (by omega) (by simp) hR ht0.full) (wM (nr _) rfl (by simp[ToL,lk]) trivial) ?_;rintro⟨s,line,out,own,tok1,nt1,f⟩ S hinv hS;obtain⟨hf,hsz,hl0,hl1,hn,hr,htk⟩:=hinv;simp only[stTo] at hS hf hsz hl0 hl1 hn hr htk ⊢;subst hS;by_cases he:s.size=0
  .rw[toksF_end he] at hr;repeat first|simp[he]|refine sR ?_|refine sC ?_
   refine sX ?_;simp only[AU,↓reduceIte];repeat first|simp|refine sR ?_
   refine sT (sG Hb Ht htk.old htk.le ?_);simp[<-hr,tks]
  .have hlt:0<s.size:=by omega
   have hlt':(0:Int)<s.size:=by omega
   have hb:=byteAt_lt hlt;obtain⟨f,rfl⟩:∃f',f=f'+1:=⟨f-1,by omega⟩
   have hle1:(1:Int)<=s.size:=by omega
   have hle1':1<=s.size:=by omega
   have hd1:s.extract 1 s.size=dropB s 1:=rfl
   have hds:=dropB_size s 1;repeat (first|simp[hlt,hlt']|refine sR ?_)
   refine sC ?_
   repeat (first|simp[hlt,hlt']|refine sR ?_)
   rw[hb];by_cases e1:byteAt s 0=10
   .rw[toksF_nl he e1] at hr;have hw:IntKind.i64.wrap (line+1)=line+1:=wrap_in (by omega) (by omega)
    try (simp[e1,hw,hle1,hle1',hd1])
    repeat (first|(refine sR ?_;simp[e1,hw,hle1,hle1',hd1])|(refine sC ?_;simp[e1,hw,hle1,hle1',hd1])|(refine sX ?_;simp only[AU,↓reduceIte]))
    refine sE ?_;exact⟨⟨dropB s 1,line+1,out,own,tok1,nt1,f⟩,TkInv.of (by omega) (by omega) (by omega) (by omega) hn hr htk,by simp only;omega,wM htk.le rfl (by simp[ToL,lk]) trivial⟩
   .have b1:(byteAt s 0==10)=false:=by simp[e1]
    by_cases e2:whiB (byteAt s 0)=true
    .rw[toksF_wh he e1 e2] at hr;have e2':byteAt s 0=32∨byteAt s 0=9∨byteAt s 0=13:=by simpa[whiB] using e2
     have fin:∃a',TkInv R tok nt a'/\a'.s.size<s.size/\a'=⟨dropB s 1,line,out,own,tok1,nt1,f⟩:=⟨_,TkInv.of (by omega) (by omega) (by omega) (by omega) hn hr htk,by simp only;omega,rfl⟩
     obtain⟨a',fa,fb,fc⟩:=fin;rcases e2' with e3|e3|e3
     .try (simp[b1,e3,hle1,hle1',hd1])
      repeat (first|(refine sR ?_;simp[b1,e3,hle1,hle1',hd1])|(refine sC ?_;simp[b1,e3,hle1,hle1',hd1])|(refine sX ?_;simp only[AU,↓reduceIte]))
      refine sE ?_;exact⟨a',fa,fb,by subst fc;exact wM htk.le rfl (by simp[ToL,lk]) trivial⟩
     .try (simp[b1,e3,hle1,hle1',hd1])
      repeat (first|(refine sR ?_;simp[b1,e3,hle1,hle1',hd1])|(refine sC ?_;simp[b1,e3,hle1,hle1',hd1])|(refine sX ?_;simp only[AU,↓reduceIte]))
      refine sE ?_;exact⟨a',fa,fb,by subst fc;exact wM htk.le rfl (by simp[ToL,lk]) trivial⟩
     .try (simp[b1,e3,hle1,hle1',hd1])
      repeat (first|(refine sR ?_;simp[b1,e3,hle1,hle1',hd1])|(refine sC ?_;simp[b1,e3,hle1,hle1',hd1])|(refine sX ?_;simp only[AU,↓reduceIte]))
      refine sE ?_;exact⟨a',fa,fb,by subst fc;exact wM htk.le rfl (by simp[ToL,lk]) trivial⟩
    .have e2':¬byteAt s 0=32/\¬byteAt s 0=9/\¬byteAt s 0=13:=by simpa[whiB] using e2
     have b2:(byteAt s 0==32)=false:=by simp[e2'.1]
     have b3:(byteAt s 0==9)=false:=by simp[e2'.2.1]
     have b4:(byteAt s 0==13)=false:=by simp[e2'.2.2]
     by_cases e5:byteAt s 0=35
     .rw[toksF_cm he e5] at hr;have hrun:=run_c s 183 nlB (by omega) tok1 nt1 fun c=>tokens1_c c tok1 nt1
      have hp:=runN_pos (p:=nlB) (s:=s) (a:=0) hlt (by simp[nlB,e5]);have hle:=runN_le nlB s 0;have hdn:s.extract (runN nlB s 0) s.size=dropB s (runN nlB s 0):=rfl
      have hds2:=dropB_size s (runN nlB s 0);generalize runN nlB s 0=n at *;have hn1:(n:Int)<=s.size:=by omega
      have hn2:n<=s.size:=by omega
      try (simp[b1,e5])
      repeat (first|(refine sR ?_;simp[b1,e5])|(refine sC ?_;simp[b1,e5])|(refine sX ?_;simp only[AU,↓reduceIte]))
      refine sD (hrun) ?_;simp;try (simp[hn1,hn2,hdn])
      repeat (first|(refine sR ?_;simp[hn1,hn2,hdn])|(refine sC ?_;simp[hn1,hn2,hdn])|(refine sX ?_;simp only[AU,↓reduceIte]))
      refine sE ?_;exact⟨⟨dropB s n,line,out,own,tok1,nt1,f⟩,TkInv.of (by omega) (by omega) (by omega) (by omega) hn hr htk,by simp only;omega,wM htk.le rfl (by simp[ToL,lk]) trivial⟩
     .have b5:(byteAt s 0==35)=false:=by simp[e5]
      rw[toksF_tk he e1 e2 e5] at hr;have hx:=next_c s hlt (by omega);have hrg:=nextR_rng (s:=s) hlt;have hte:textR s=if (nextR s).1=3 then s.extract 1 ((nextR s).2.1.toNat-1) else s.extract 0 (nextR s).2.1.toNat:=rfl
      generalize textR s=txt at *;generalize nextR s=N at *;try (simp[b1,b2,b3,b4,b5])
      repeat (first|(refine sR ?_;simp[b1,b2,b3,b4,b5])|(refine sC ?_;simp[b1,b2,b3,b4,b5])|(refine sX ?_;simp only[AU,↓reduceIte]))
      refine sD (hx _ _) ?_;simp;by_cases e6:N.2.2=0
      .have b6:(N.2.2 != 0)=false:=by simp[e6]
       obtain⟨r1,r2,r3,r4⟩:=hrg e6;rw[if_neg (by simp[e6])] at hr;by_cases e7:out.length=4000
       .rw[if_pos e7] at hr;have b7:((out.length:Int)==4000)=true:=by rw[beq_iff_eq];omega
        try (simp[b6,b7])
        repeat (first|(refine sR ?_;simp[b6,b7])|(refine sC ?_;simp[b6,b7])|(refine sX ?_;simp only[AU,↓reduceIte]))
        refine sT (sG Hb Ht htk.old htk.le ?_);simp[<-hr,tks]
       .rw[if_neg e7] at hr;have b7:((out.length:Int)==4000)=false:=by rw[beq_eq_false_iff_ne];omega
        have q1:0<=N.2.1:=by omega
        have q2:N.2.1.toNat<=s.size:=by omega
        have hds2:=dropB_size s N.2.1.toNat;have hdn:s.extract N.2.1.toNat s.size=dropB s N.2.1.toNat:=rfl
        have hfin:∃a',TkInv R tok nt a'/\a'.s.size<s.size/\a'=⟨dropB s N.2.1.toNat,line,out++[⟨N.1,txt,line⟩],.tok nt1,upd (own.kill tok1) nt1 true,nt1+1,f⟩ :=
         ⟨_,TkInv.of (by omega) (by omega) (by omega) (by omega) (by simp;omega) hr htk.app,by simp only;omega,rfl⟩
        obtain⟨a',fa,fb,fc⟩:=hfin;by_cases e8:N.1=3
        .rw[if_pos e8] at hte;have r3':=r3 e8
         have w1:IntKind.i64.wrap (N.2.1-1)=N.2.1-1:=wrap_in (by omega) (by omega)
         have q3:(1:Int)<=N.2.1-1:=by omega
         have q4:N.2.1-1<=s.size:=by omega
         have q5:1<=N.2.1.toNat-1:=by omega
         have q6:N.2.1.toNat-1<=s.size:=by omega
         have q7:0<=N.2.1-1:=by omega
         have q8:(N.2.1-1).toNat=N.2.1.toNat-1:=by omega
         try (simp[b6,b7,e8,q1,q2,r2,w1,q3,q4,q5,q6,q7,q8])
         repeat (first|(refine sR ?_;simp[b6,b7,e8,q1,q2,r2,w1,q3,q4,q5,q6,q7,q8])|(refine sC ?_;simp[b6,b7,e8,q1,q2,r2,w1,q3,q4,q5,q6,q7,q8])|(refine sX ?_;simp only[AU,↓reduceIte]))
         refine⟨by omega,?_⟩;try (simp)
         repeat (first|(refine sR ?_;simp)|(refine sC ?_;simp)|(refine sX ?_;simp only[AU,↓reduceIte]))
         refine⟨⟨by omega,htk.live⟩,?_⟩;try (simp[q1,q2,r2,hdn])
         repeat (first|(refine sR ?_;simp[q1,q2,r2,hdn])|(refine sC ?_;simp[q1,q2,r2,hdn])|(refine sX ?_;simp only[AU,↓reduceIte]))
         refine sE ?_;exact⟨a',fa,fb,by subst fc;exact wM (by have:=htk.le;omega) rfl (by simp[ToL,lk,e8,hte]) trivial⟩
        .rw[if_neg e8] at hte;have b8:(N.1==3)=false:=by simp[e8]
         try (simp[b6,b7,b8,q1,q2,r2])
         repeat (first|(refine sR ?_;simp[b6,b7,b8,q1,q2,r2])|(refine sC ?_;simp[b6,b7,b8,q1,q2,r2])|(refine sX ?_;simp only[AU,↓reduceIte]))
         refine⟨⟨by omega,htk.live⟩,?_⟩;try (simp[q1,q2,r2,hdn])
         repeat (first|(refine sR ?_;simp[q1,q2,r2,hdn])|(refine sC ?_;simp[q1,q2,r2,hdn])|(refine sX ?_;simp only[AU,↓reduceIte]))
         refine sE ?_;exact⟨a',fa,fb,by subst fc;exact wM (by have:=htk.le;omega) rfl (by simp[ToL,lk,hte]) trivial⟩
      .have b6:(N.2.2 != 0)=true:=by simp[e6]
       rw[if_pos e6] at hr;try (simp[b6])
       repeat (first|(refine sR ?_;simp[b6])|(refine sC ?_;simp[b6])|(refine sX ?_;simp only[AU,↓reduceIte]))
       refine sT (sG Hb Ht htk.old htk.le ?_);simp[<-hr,tks]
structure RqS where
 at':Nat
 bad:Int
abbrev RqS.row(L:List Tk)(r:RqS):List AV:=[.d (tks L),I r.at',I r.bad]
structure RqS.Ok (L:List Tk) (r:RqS):Prop where
 a:r.at'<=L.length
 b : -1<=r.bad
 c:r.bad<=L.length
def isAt(L:List Tk)(i:Nat)(s:ByteArray):Bool:=match L[i]? with
 | some t=>decide (t.text=s)&&(decide (t.kind=1)||decide (t.kind=4))
 | none=>false
def kindAt(L:List Tk)(i:Nat)(k:Int):Bool:=match L[i]? with
 | some t=>decide (t.kind=k)
 | none=>false
def textAt(L:List Tk)(i:Nat):ByteArray:=match L[i]? with
 | some t=>t.text
 | none=>⟨#[]⟩
def peekB(L:List Tk)(r:RqS)(s:ByteArray):Bool:=decide (r.bad<0)&&isAt L r.at' s
def failR(r:RqS):RqS:=if r.bad<0 then ⟨r.at',r.at'⟩ else r
def takeR(L:List Tk)(r:RqS)(s:ByteArray):RqS:=if peekB L r s=true then ⟨r.at'+1,r.bad⟩ else failR r
def kindB(L:List Tk)(r:RqS)(k:Int):Bool:=decide (r.bad<0)&&kindAt L r.at' k
def kindR(L:List Tk)(r:RqS)(k:Int):ByteArray × RqS:=if kindB L r k=true then (textAt L r.at',⟨r.at'+1,r.bad⟩) else (⟨#[]⟩,failR r)
structure AdvQ (L:List Tk) (r r':RqS):Prop where
 ok:r'.Ok L
 bd:0<=r.bad->r'=r
 le:r'.bad<0->r.at'<=r'.at'
structure AdvS (L:List Tk) (r r':RqS):Prop where
 ok:r'.Ok L
 bd:0<=r.bad->r'=r
 lt:r'.bad<0->r.at'<r'.at'
theorem AdvS.adv{L:List Tk}{r r':RqS}(h:AdvS L r r'):AdvQ L r r':=⟨h.ok,h.bd,fun hb=>Nat.le_of_lt (h.lt hb)⟩
theorem AdvQ.refl{L:List Tk}{r:RqS}(h:r.Ok L):AdvQ L r r:=⟨h,fun _=>rfl,fun _=>nr _⟩
theorem AdvQ.trans{L:List Tk}{r r' r'':RqS}(h:AdvQ L r r')(k:AdvQ L r' r''):AdvQ L r r'':=by
 refine⟨k.ok,fun hb=>?_,fun hb=>?_⟩
 .have e:=h.bd hb;subst e;exact k.bd hb
 .have h2:=k.le hb;by_cases hb':r'.bad<0
  .exact Nat.le_trans (h.le hb') h2
  .have:=k.bd (by omega)
   subst this;omega
theorem AdvS.trans{L:List Tk}{r r' r'':RqS}(h:AdvS L r r')(k:AdvQ L r' r''):AdvS L r r'':=by
 refine⟨k.ok,(h.adv.trans k).bd,fun hb=>?_⟩;have h2:=k.le hb;by_cases hb':r'.bad<0
 .exact Nat.lt_of_lt_of_le (h.lt hb') h2
 .have:=k.bd (by omega)
  subst this;omega
theorem AdvS.fail{L:List Tk}{r:RqS}(h:r.Ok L):AdvS L r (failR r):=by
 have h1:=h.a;have h2:=h.b;have h3:=h.c;unfold failR;split
 .exact⟨⟨h1,by simp only;omega,by simp only;omega⟩,fun hb=>by omega,fun hb=>by simp only at hb;omega⟩
 .exact⟨h,fun _=>rfl,fun hb=>by omega⟩
theorem at_lt{L:List Tk}{i:Nat}{s:ByteArray}(h:isAt L i s=true):i<L.length:=by
 unfold isAt at h;split at h
 .rename_i t ht;exact(List.getElem?_eq_some_iff.1 ht).1
 .cases h
theorem kat_lt{L:List Tk}{i:Nat}{k:Int}(h:kindAt L i k=true):i<L.length:=by
 unfold kindAt at h;split at h
 .rename_i t ht;exact(List.getElem?_eq_some_iff.1 ht).1
 .cases h
theorem AdvS.take{L:List Tk}{r:RqS}(h:r.Ok L)(s:ByteArray):AdvS L r (takeR L r s):=by
 unfold takeR;split
 .rename_i hp;unfold peekB at hp;simp only[Bool.and_eq_true,decide_eq_true_eq] at hp;have h1:=at_lt hp.2;have h2:=h.b;exact⟨⟨by simp only;omega,h2,h.c⟩,fun hb=>by omega,fun hb=>by simp only;omega⟩
 .exact AdvS.fail h
theorem AdvS.kind{L:List Tk}{r:RqS}(h:r.Ok L)(k:Int):AdvS L r (kindR L r k).2:=by
 unfold kindR;split
 .rename_i hp;unfold kindB at hp;simp only[Bool.and_eq_true,decide_eq_true_eq] at hp;have h1:=kat_lt hp.2;have h2:=h.b;exact⟨⟨by simp only;omega,h2,h.c⟩,fun hb=>by omega,fun hb=>by simp only;omega⟩
 .exact AdvS.fail h
def rem(L:List Tk)(r:RqS):Nat:=if r.bad<0 then L.length+1-r.at' else 0
theorem rem_adv{L:List Tk}{r r':RqS}(h:AdvQ L r r'):rem L r'<=rem L r:=by
 unfold rem;by_cases hb:r'.bad<0
 .have h1:=h.le hb;have:r.bad<0:=by
   rcases Int.lt_or_le r.bad 0 with h2|h2
   .exact h2
   .rw[h.bd h2] at hb;omega
  rw[if_pos hb,if_pos this];omega
 .rw[if_neg hb];omega
theorem rem_advS{L:List Tk}{r r':RqS}(h:AdvS L r r')(hr:r.bad<0)(ho:r.Ok L):rem L r'<rem L r:=by
 have h0:=ho.a;unfold rem;rw[if_pos hr];by_cases hb:r'.bad<0
 .have h1:=h.lt hb;have h2:=h.ok.a;rw[if_pos hb];omega
 .rw[if_neg hb];omega
theorem rem_bad{L:List Tk}{r:RqS}(h:¬r.bad<0):rem L r=0:=by unfold rem;rw[if_neg h]
theorem nil_size:(⟨#[]⟩:ByteArray).size<=200000000000000:=by decide
theorem rem_le(L:List Tk)(r:RqS):rem L r<=L.length+1:=by unfold rem;split<;>omega
theorem rem_zero{L:List Tk}{r:RqS}(h:r.Ok L)(h0:rem L r=0):¬r.bad<0:=by
 intro hb;have:=h.a
 unfold rem at h0;rw[if_pos hb] at h0;omega
def QRd(v0:AV)(row:List AV)(ks:Nat)(box:Bxs)(nb:Nat)(tok:Tks)(nt:Nat)(v:AV)(m:AMem):Prop :=
 v=v0/\m=⟨upd box ks (some [row]),nb,tok,nt⟩
theorem upd_keep{box:Bxs}{ks:Nat}{x:List (List AV)}(h:box ks=some x):upd box ks (some x)=box:=by
 funext k
 simp only[upd];split
 .rename_i e;rw[e];exact h.symm
 .rfl
theorem isAt_some{L:List Tk}{i:Nat}(h:i<L.length)(s:ByteArray):isAt L i s=(decide (L[i].text=s)&&(decide (L[i].kind=1)||decide (L[i].kind=4))):=by simp[isAt,h]
theorem isAt_none{L:List Tk}{i:Nat}(h:¬i<L.length)(s:ByteArray):isAt L i s=false:=by simp[isAt,h]
theorem kindAt_some{L:List Tk}{i:Nat}(h:i<L.length)(k:Int):kindAt L i k=decide (L[i].kind=k):=by simp[kindAt,h]
theorem kindAt_none{L:List Tk}{i:Nat}(h:¬i<L.length)(k:Int):kindAt L i k=false:=by simp[kindAt,h]
theorem textAt_some{L:List Tk}{i:Nat}(h:i<L.length):textAt L i=L[i].text:=by simp[textAt,h]
def zF:Fo:=.mk 0 ⟨#[]⟩ []
def sLp:ByteArray:=⟨#[40]⟩
def sRp:ByteArray:=⟨#[41]⟩
def sAm:ByteArray:=⟨#[38]⟩
def sBr:ByteArray:=⟨#[124]⟩
def sNot:ByteArray:=⟨#[110,111,116]⟩
def sEX:ByteArray:=⟨#[69,88]⟩
def sEF:ByteArray:=⟨#[69,70]⟩
def sEG:ByteArray:=⟨#[69,71]⟩
def sAX:ByteArray:=⟨#[65,88]⟩
def sAF:ByteArray:=⟨#[65,70]⟩
def sAG:ByteArray:=⟨#[65,71]⟩
def wE:ByteArray:=⟨#[69]⟩
def wA:ByteArray:=⟨#[65]⟩
def wU:ByteArray:=⟨#[85]⟩
def pfxK(s:ByteArray):Option Int:=if s=sNot then some 2 else if s=sEX then some 5 else if s=sEF then some 6 else if s=sEG then some 7 else if s=sAX then some 9 else if s=sAF then some 10 else if s=sAG then some 11 else none
def moreF(L:List Tk)(F:RqS->Fo × RqS)(sg:ByteArray):Nat->RqS->List Fo->List Fo × RqS
 | 0,r,l=>(l,r)
 | n+1,r,l=>if peekB L r sg=true then moreF L F sg n (F ⟨r.at'+1,r.bad⟩).2 (l++[(F ⟨r.at'+1,r.bad⟩).1]) else (l,r)
def lstF(L:List Tk)(F:RqS->Fo × RqS)(k:Int)(sg:ByteArray)(a:Fo × RqS)(b:Fo × RqS):Fo × RqS :=
 (.mk k ⟨#[]⟩ (moreF L F sg (L.length+1) b.2 [a.1,b.1]).1,takeR L (moreF L F sg (L.length+1) b.2 [a.1,b.1]).2 sRp)
def listF(L:List Tk)(F:RqS->Fo × RqS)(r:RqS):Fo × RqS :=
 if peekB L (F (takeR L r sLp)).2 sBr=true then lstF L F 4 sBr (F (takeR L r sLp)) (F (takeR L (F (takeR L r sLp)).2 sBr)) else lstF L F 3 sAm (F (takeR L r sLp)) (F (takeR L (F (takeR L r sLp)).2 sAm))
def untF(L:List Tk)(F:RqS->Fo × RqS)(k:Int)(r:RqS):Fo × RqS :=
 (.mk k ⟨#[]⟩ [(F (takeR L r sLp)).1,(F (takeR L (F (takeR L r sLp)).2 wU)).1],takeR L (F (takeR L (F (takeR L r sLp)).2 wU)).2 sRp)
def wrdF(L:List Tk)(F:RqS->Fo × RqS)(s:ByteArray)(r:RqS):Fo × RqS:=match pfxK s with
 | some k=>(.mk k ⟨#[]⟩ [(F r).1],(F r).2)
 | none=>if s=wE then untF L F 8 r else if s=wA then untF L F 12 r else if s=wU then (.mk 1 s [],⟨r.at',(r.at':Int)-1⟩) else (.mk 1 s [],r)
def frmF(L:List Tk)(F:RqS->Fo × RqS)(r:RqS):Fo × RqS :=
 if r.bad<0 then (if peekB L r sLp=true then listF L F r else if (kindR L r 1).2.bad<0 then wrdF L F (kindR L r 1).1 (kindR L r 1).2 else (zF,(kindR L r 1).2)) else (zF,r)
def pFrm(L:List Tk):Nat->RqS->Fo × RqS
 | 0,r=>(zF,r)
 | n+1,r=>frmF L (pFrm L n) r
def GoesF(L:List Tk)(F:RqS->Fo × RqS):Prop:=∀r,RqS.Ok L r->AdvQ L r (F r).2
theorem peek_at{L:List Tk}{r:RqS}(h:r.Ok L){s:ByteArray}(hp:peekB L r s=true):AdvS L r ⟨r.at'+1,r.bad⟩:=by
 have h1:=AdvS.take h s;unfold takeR at h1;rw[if_pos hp] at h1;exact h1
theorem more_adv{L:List Tk}{F:RqS->Fo × RqS}(hF:GoesF L F)(sg:ByteArray):∀(n:Nat) (r:RqS) (l:List Fo),r.Ok L->AdvQ L r (moreF L F sg n r l).2
 | 0,r,l,h=>AdvQ.refl h
 | n+1,r,l,h=>by
  unfold moreF;split
  .rename_i hp;have h1:=(peek_at h hp).adv;exact(h1.trans (hF _ h1.ok)).trans (more_adv hF sg n _ _ (hF _ h1.ok).ok)
  .exact AdvQ.refl h
theorem lst_adv{L:List Tk}{F:RqS->Fo × RqS}(hF:GoesF L F)(k:Int)(sg:ByteArray){r:RqS}(a:Fo × RqS){b:Fo × RqS}(hb:AdvS L r b.2):AdvS L r (lstF L F k sg a b).2:=by
 have h1:=more_adv hF sg (L.length+1) b.2 [a.1,b.1] hb.ok;exact(hb.trans h1).trans (AdvS.take h1.ok sRp).adv
theorem list_adv{L:List Tk}{F:RqS->Fo × RqS}(hF:GoesF L F){r:RqS}(h:r.Ok L):AdvS L r (listF L F r).2:=by
 have h1:=AdvS.take h sLp;have h2:=h1.trans (hF _ h1.ok);unfold listF;split
 .have h3:=AdvS.take h2.ok sBr;exact lst_adv hF _ _ _ ((h2.trans h3.adv).trans (hF _ h3.ok))
 .have h3:=AdvS.take h2.ok sAm;exact lst_adv hF _ _ _ ((h2.trans h3.adv).trans (hF _ h3.ok))
theorem unt_adv{L:List Tk}{F:RqS->Fo × RqS}(hF:GoesF L F)(k:Int){r:RqS}(h:r.Ok L):AdvS L r (untF L F k r).2:=by
 have h1:=AdvS.take h sLp;have h2:=h1.trans (hF _ h1.ok);have h3:=AdvS.take h2.ok wU;have h4:=(h2.trans h3.adv).trans (hF _ h3.ok);exact h4.trans (AdvS.take h4.ok sRp).adv
theorem wrd_adv{L:List Tk}{F:RqS->Fo × RqS}(hF:GoesF L F)(s:ByteArray){r:RqS}(h:r.Ok L)(h1:1<=r.at')(hb:r.bad<0):AdvQ L r (wrdF L F s r).2:=by
 unfold wrdF;have ha:=h.a;split
 .exact hF r h
 .split
  .exact(unt_adv hF 8 h).adv
  .split
   .exact(unt_adv hF 12 h).adv
   .split
    .exact⟨⟨h.a,by simp only;omega,by simp only;omega⟩,fun h0=>by omega,fun h0=>nr _⟩
    .exact AdvQ.refl h
theorem frm_adv{L:List Tk}{F:RqS->Fo × RqS}(hF:GoesF L F){r:RqS}(h:r.Ok L):AdvQ L r (frmF L F r).2:=by
 unfold frmF;split
 .split
  .exact(list_adv hF h).adv
  .have h1:=AdvS.kind h 1;split
   .rename_i hb;exact h1.adv.trans (wrd_adv hF _ h1.ok (by have:=h1.lt hb;omega) hb)
   .exact h1.adv
 .exact AdvQ.refl h
theorem pF_adv(L:List Tk):∀n,GoesF L (pFrm L n)
 | 0,r,h=>AdvQ.refl h
 | n+1,r,h=>frm_adv (pF_adv L n) h
structure SzG (L:List Tk) (F:RqS->Fo × RqS) (n:Nat):Prop where
 go:GoesF L F
 bd:∀r:RqS,¬r.bad<0->F r=(zF,r)
 sz:∀r:RqS,r.Ok L->rem L r<=n->(F r).1.size+5*rem L (F r).2<=5*rem L r+1
 sm:∀r:RqS,r.Ok L->rem L r<=n->(F r).1.Sm
theorem zF_size:zF.size=1:=rfl
theorem zF_sm:zF.Sm:=.mk nil_size (by simp[zF,Fo.kids]) (by simp[zF,Fo.kids])
theorem Fo.sizeL_snoc(l:List Fo)(c:Fo):Fo.sizeL (l++[c])=Fo.sizeL l+c.size:=by
 induction l with
 | nil=>simp[Fo.sizeL]
 | cons x l ih=>simp only[List.cons_append,Fo.sizeL,ih];omega
theorem fosm_snoc{l:List Fo}{c:Fo}(hl:∀x∈l,x.Sm)(hc:c.Sm):∀x∈l++[c],x.Sm:=fun x hx=>by
 rcases List.mem_append.1 hx with hx|hx
 .exact hl x hx
 .simp at hx;rw[hx];exact hc
theorem more_sz{L:List Tk}{F:RqS->Fo × RqS}{n:Nat}(hF:SzG L F n)(sg:ByteArray):∀(m:Nat) (r:RqS) (l:List Fo),r.Ok L->rem L r<=n->(∀x∈l,x.Sm) ->
  Fo.sizeL (moreF L F sg m r l).1+5*rem L (moreF L F sg m r l).2<=Fo.sizeL l+5*rem L r/\(∀x∈(moreF L F sg m r l).1,x.Sm)/\(moreF L F sg m r l).1.length<=l.length+m
 | 0,r,l,h,_,hl=>⟨nr _,hl,nr _⟩
 | m+1,r,l,h,hr,hl=>by
  unfold moreF;split
  .rename_i hp;have h1:=peek_at h hp;have hb:r.bad<0:=by unfold peekB at hp;simp only[Bool.and_eq_true,decide_eq_true_eq] at hp;exact hp.1
   have h2:=rem_advS h1 hb h;have h3:=hF.sz _ h1.ok (by omega);have h4:=rem_adv (hF.go _ h1.ok);obtain⟨g1,g2,g3⟩:=more_sz hF sg m _ (l++[(F ⟨r.at'+1,r.bad⟩).1]) (hF.go _ h1.ok).ok (by omega) (fosm_snoc hl (hF.sm _ h1.ok (by omega)));rw[Fo.sizeL_snoc] at g1;refine⟨by omega,g2,?_⟩;rw[List.length_append,List.length_singleton] at g3;omega
  .exact⟨nr _,hl,Nat.le_add_right _ _⟩
theorem lst_sz{L:List Tk}(hL:L.length<=1000000){F:RqS->Fo × RqS}{n:Nat}(hF:SzG L F n)(k:Int)(sg:ByteArray)(a b:Fo × RqS)(ha:a.1.Sm)(hb:b.1.Sm)(ho:b.2.Ok L)(hr:rem L b.2<=n):
  (lstF L F k sg a b).1.size+5*rem L (lstF L F k sg a b).2<=1+a.1.size+b.1.size+5*rem L b.2/\(lstF L F k sg a b).1.Sm:=by
 obtain⟨g1,g2,g3⟩:=more_sz hF sg (L.length+1) b.2 [a.1,b.1] ho hr (fun x hx=>by
  rcases List.mem_cons.1 hx with rfl|hx
  .exact ha
  .rw[List.mem_singleton.1 hx];exact hb)
 have h2:=(more_adv hF.go sg (L.length+1) b.2 [a.1,b.1] ho).ok;have h1:=rem_adv (AdvS.take h2 sRp).adv;simp only[Fo.sizeL] at g1;unfold lstF;simp only[Fo.size];simp only[List.length_cons,List.length_nil] at g3;exact⟨by omega,.mk nil_size (by simp only[Fo.kids];omega) (fun x hx=>g2 x (by simpa[Fo.kids] using hx))⟩
theorem list_sz{L:List Tk}(hL:L.length<=1000000){F:RqS->Fo × RqS}{n:Nat}(hF:SzG L F n){r:RqS}(h:r.Ok L)(hb:r.bad<0)(hr:rem L r<=n+1):(listF L F r).1.size+5*rem L (listF L F r).2<=5*rem L r+1/\(listF L F r).1.Sm:=by
 have h1:=AdvS.take h sLp;have r1:=rem_advS h1 hb h;have z1:=hF.sz _ h1.ok (by omega);have m1:=hF.sm _ h1.ok (by omega);have h2:=hF.go _ h1.ok;have r2:=rem_adv h2;unfold listF;split
 .have h3:=(AdvS.take h2.ok sBr).adv;have r3:=rem_adv h3;have z3:=hF.sz _ h3.ok (by omega);have m3:=hF.sm _ h3.ok (by omega);have h4:=hF.go _ h3.ok;have r4:=rem_adv h4;obtain⟨g1,g2⟩:=lst_sz hL hF 4 sBr (F (takeR L r sLp)) (F (takeR L (F (takeR L r sLp)).2 sBr)) m1 m3 h4.ok (by omega);exact⟨by omega,g2⟩
 .have h3:=(AdvS.take h2.ok sAm).adv;have r3:=rem_adv h3;have z3:=hF.sz _ h3.ok (by omega);have m3:=hF.sm _ h3.ok (by omega);have h4:=hF.go _ h3.ok;have r4:=rem_adv h4;obtain⟨g1,g2⟩:=lst_sz hL hF 3 sAm (F (takeR L r sLp)) (F (takeR L (F (takeR L r sLp)).2 sAm)) m1 m3 h4.ok (by omega);exact⟨by omega,g2⟩
theorem unt_sz{L:List Tk}{F:RqS->Fo × RqS}{n:Nat}(hF:SzG L F n)(k:Int){r:RqS}(h:r.Ok L)(hr:rem L r<=n):(untF L F k r).1.size+5*rem L (untF L F k r).2<=5*rem L r+3/\(untF L F k r).1.Sm:=by
 have h1:=(AdvS.take h sLp).adv;have r1:=rem_adv h1;have z1:=hF.sz _ h1.ok (by omega);have m1:=hF.sm _ h1.ok (by omega);have h2:=hF.go _ h1.ok;have r2:=rem_adv h2;have h3:=(AdvS.take h2.ok wU).adv;have r3:=rem_adv h3;have z3:=hF.sz _ h3.ok (by omega);have m3:=hF.sm _ h3.ok (by omega);have h4:=hF.go _ h3.ok;have r4:=rem_adv (AdvS.take h4.ok sRp).adv;unfold untF;simp only[Fo.size,Fo.sizeL];refine⟨by omega,.mk nil_size (by simp[Fo.kids]) (fun x hx=>?_)⟩;simp only[Fo.kids,List.mem_cons,List.not_mem_nil,or_false] at hx;rcases hx with rfl|rfl
 .exact m1
 .exact m3
theorem wrd_sz{L:List Tk}{F:RqS->Fo × RqS}{n:Nat}(hF:SzG L F n){s:ByteArray}(hs:s.size<=200000000000000){r:RqS}(h:r.Ok L)(h1:1<=r.at')(hr:rem L r<=n):(wrdF L F s r).1.size+5*rem L (wrdF L F s r).2<=5*rem L r+3/\(wrdF L F s r).1.Sm:=by
 unfold wrdF;split
 .have z:=hF.sz r h hr;have m:=hF.sm r h hr;simp only[Fo.size,Fo.sizeL];refine⟨by omega,.mk nil_size (by simp[Fo.kids]) (fun x hx=>?_)⟩;simp only[Fo.kids,List.mem_cons,List.not_mem_nil,or_false] at hx;rw[hx];exact m
 .split
  .exact unt_sz hF 8 h hr
  .split
   .exact unt_sz hF 12 h hr
   .split
    .refine⟨?_,.mk hs (by simp[Fo.kids]) (by simp[Fo.kids])⟩;have:rem L ⟨r.at',(r.at':Int)-1⟩=0:=rem_bad (by simp only;omega)
     simp only[Fo.size,Fo.sizeL,this];omega
    .refine⟨?_,.mk hs (by simp[Fo.kids]) (by simp[Fo.kids])⟩;simp only[Fo.size,Fo.sizeL];omega
theorem kind_sizeF{L:List Tk}(hT:∀t∈L,t.text.size<=200000000000000)(r:RqS)(k:Int):(kindR L r k).1.size<=200000000000000:=by
 unfold kindR;split
 .unfold textAt;split
  .rename_i t ht;exact hT t (List.mem_of_getElem? ht)
  .exact nil_size
 .exact nil_size
theorem frm_sz{L:List Tk}(hL:L.length<=1000000)(hT:∀t∈L,t.text.size<=200000000000000){F:RqS->Fo × RqS}{n:Nat}(hF:SzG L F n):SzG L (frmF L F) (n+1):=by
 have key:∀r:RqS,r.Ok L->rem L r<=n+1->(frmF L F r).1.size+5*rem L (frmF L F r).2<=5*rem L r+1/\(frmF L F r).1.Sm:=by
  intro r h hr;unfold frmF;split
  .rename_i hb;split
   .exact list_sz hL hF h hb hr
   .have h1:=AdvS.kind h 1;have r1:=rem_advS h1 hb h;split
    .rename_i hb2;obtain⟨g1,g2⟩:=wrd_sz hF (kind_sizeF hT r 1) h1.ok (by have:=h1.lt hb2;omega) (by omega);exact⟨by omega,g2⟩
    .exact⟨by rw[zF_size];simp only;omega,zF_sm⟩
  .exact⟨by rw[zF_size];simp only;omega,zF_sm⟩
 exact⟨fun r h=>frm_adv hF.go h,fun r hb=>by unfold frmF;rw[if_neg hb],fun r h hr=>(key r h hr).1,fun r h hr=>(key r h hr).2⟩
theorem pF_sz{L:List Tk}(hL:L.length<=1000000)(hT:∀t∈L,t.text.size<=200000000000000):∀n,SzG L (pFrm L n) n
 | 0=>⟨pF_adv L 0,fun r _=>rfl,fun r _ _=>by show zF.size+5*rem L r<=_;rw[zF_size];omega,fun r _ _=>zF_sm⟩
 | n+1=>frm_sz hL hT (pF_sz hL hT n)
theorem outG{rows0:List (List AV)}{box:Bxs}{k base:Nat}{p q:Nat->Prop}(h0:∀r∈rows0,∀x∈r,OkIn p q x):∀k' rows,k'<base->(upd box k (some rows0)) k'=some rows->box k'=some rows∨∀r∈rows,∀x∈r,OkIn p q x:=by
 intro k' rows hk' hr;by_cases e:k'=k
 .subst e;rw[uS] at hr;cases hr;exact .inr h0
 .rw[uO _ _ e] at hr;exact .inl hr
set_option maxRecDepth 100000 in
theorem peekT_c(L:List Tk)(r:RqS)(s:ByteArray)(ks:Nat)(box:Bxs)(hk:box ks=some [r.row L])(nb:Nat)(tok:Tks)(nt:Nat):
  ACalls prog 185 [.ptr ks 0 0,Sb s] ⟨box,nb,tok,nt⟩ fun v m=>v=B (peekB L r s)/\m=⟨box,nb,tok,nt⟩:=by
 refine sI func185 ntmps185 fun Hb Ht=>?_
 have kn:=key_lt Hb hk;by_cases hb:r.bad<0
 .by_cases hlt:r.at'<L.length
  .have hlt':(r.at':Int)<L.length:=by omega
   have hp:peekB L r s=(decide (L[r.at'].text=s)&&(decide (L[r.at'].kind=1)||decide (L[r.at'].kind=4))):=by simp[peekB,hb,isAt_some hlt]
   have hsq:=seq_dec L[r.at'].text s;by_cases e1:L[r.at'].text=s
   .have e1':decide (L[r.at'].text=s)=true:=by simp[e1]
    rw[e1'] at hsq hp;by_cases e2:L[r.at'].kind=1
    .try (simp[lO kn,hk,hb,hlt,hlt',hsq,e2])
     repeat (first|(refine sR ?_;simp[lO kn,hk,hb,hlt,hlt',hsq,e2])|(refine sC ?_;simp[lO kn,hk,hb,hlt,hlt',hsq,e2])|(refine sX ?_;simp only[AU,↓reduceIte]))
     refine sT (sH Hb Ht ?_);simp[hp,e2]
    .have b2:(L[r.at'].kind==1)=false:=by simp[e2]
     try (simp[lO kn,hk,hb,hlt,hlt',hsq,b2])
     repeat (first|(refine sR ?_;simp[lO kn,hk,hb,hlt,hlt',hsq,b2])|(refine sC ?_;simp[lO kn,hk,hb,hlt,hlt',hsq,b2])|(refine sX ?_;simp only[AU,↓reduceIte]))
     refine sT (sH Hb Ht ?_);simp[hp,e2,beqD]
   .have e1':decide (L[r.at'].text=s)=false:=by simp[e1]
    rw[e1'] at hsq hp;try (simp[lO kn,hk,hb,hlt,hlt',hsq])
    repeat (first|(refine sR ?_;simp[lO kn,hk,hb,hlt,hlt',hsq])|(refine sC ?_;simp[lO kn,hk,hb,hlt,hlt',hsq])|(refine sX ?_;simp only[AU,↓reduceIte]))
    refine sT (sH Hb Ht ?_);simp[hp]
  .have hlt':¬(r.at':Int)<L.length:=by omega
   have hp:peekB L r s=false:=by simp[peekB,isAt_none hlt]
   try (simp[lO kn,hk,hb,hlt'])
   repeat (first|(refine sR ?_;simp[lO kn,hk,hb,hlt'])|(refine sC ?_;simp[lO kn,hk,hb,hlt'])|(refine sX ?_;simp only[AU,↓reduceIte]))
   refine sT (sH Hb Ht ?_);simp[hp]
 .have hp:peekB L r s=false:=by simp[peekB,hb]
  try (simp[lO kn,hk,hb])
  repeat (first|(refine sR ?_;simp[lO kn,hk,hb])|(refine sC ?_;simp[lO kn,hk,hb])|(refine sX ?_;simp only[AU,↓reduceIte]))
  refine sT (sH Hb Ht ?_);simp[hp]
set_option maxRecDepth 100000 in
theorem takeT_c(L:List Tk)(r:RqS)(h:r.Ok L)(hL:L.length<=200000000000000)(s:ByteArray)(ks:Nat)(box:Bxs)(hk:box ks=some [r.row L])(nb:Nat)(tok:Tks)(nt:Nat):
  ACalls prog 249 [.ptr ks 0 0,Sb s] ⟨box,nb,tok,nt⟩ (QRd (.tup []) ((takeR L r s).row L) ks box nb tok nt):=by
 have hpk:=peekT_c L r s ks;have ha:=h.a;refine sI func249 ntmps249 fun Hb Ht=>?_
 have kn:=key_lt Hb hk;repeat first|simp|refine sR ?_
 refine Stop.of_a (hpk _ (by simp only;rw[lO kn];exact hk) _ _ _) ?_;rintro v m ⟨rfl,rfl⟩;have hw:IntKind.i64.wrap ((r.at':Int)+1)=((r.at'+1:Nat):Int):=by rw[wrap_in (by omega) (by omega)];rfl
 cases hp:peekB L r s
 .have ht:takeR L r s=failR r:=by simp[takeR,hp]
  by_cases hb:r.bad<0
  .have hf:failR r=⟨r.at',r.at'⟩:=if_pos hb
   try (simp[lO kn,hk,uL kn,uS,hb])
   repeat (first|(refine sR ?_;simp[lO kn,hk,uL kn,uS,hb])|(refine sC ?_;simp[lO kn,hk,uL kn,uS,hb])|(refine sX ?_;simp only[AU,↓reduceIte]))
   refine sE ?_;refine⟨by simp,(Fin.gen (vs:=[]) (av:=.tup []) (tok':=tok) (nt':=nt) (by simp[resAs,resA]) (by rw[<-uL kn,Hb]) (nr _) (nr _) (fun t ht=>⟨ht,.inl rfl⟩) (outG (by simp)) (by simp)).mono fun v m hq=>?_⟩;exact⟨hq.1,by rw[ht,hf];exact hq.2⟩
  .have hf:failR r=r:=if_neg hb
   try (simp[lO kn,hk,uL kn,uS,hb])
   repeat (first|(refine sR ?_;simp[lO kn,hk,uL kn,uS,hb])|(refine sC ?_;simp[lO kn,hk,uL kn,uS,hb])|(refine sX ?_;simp only[AU,↓reduceIte]))
   refine sE ?_;refine⟨by simp,(Fin.gen (vs:=[]) (av:=.tup []) (tok':=tok) (nt':=nt) (by simp[resAs,resA]) Hb (nr _) (nr _) (fun t ht=>⟨ht,.inl rfl⟩) (fun k rows _ h=>.inl h) (by simp)).mono fun v m hq=>?_⟩;exact⟨hq.1,by rw[ht,hf,upd_keep hk];exact hq.2⟩
 .have ht:takeR L r s=⟨r.at'+1,r.bad⟩:=by simp[takeR,hp]
  try (simp[lO kn,hk,uL kn,uS,hw])
  repeat (first|(refine sR ?_;simp[lO kn,hk,uL kn,uS,hw])|(refine sC ?_;simp[lO kn,hk,uL kn,uS,hw])|(refine sX ?_;simp only[AU,↓reduceIte]))
  refine sE ?_;refine⟨by simp,(Fin.gen (vs:=[]) (av:=.tup []) (tok':=tok) (nt':=nt) (by simp[resAs,resA]) (by rw[<-uL kn,Hb]) (nr _) (nr _) (fun t ht=>⟨ht,.inl rfl⟩) (outG (by simp)) (by simp)).mono fun v m hq=>?_⟩;exact⟨hq.1,by rw[ht];exact hq.2⟩
set_option maxRecDepth 100000 in
theorem wordT_c(L:List Tk)(r:RqS)(h:r.Ok L)(hL:L.length<=200000000000000)(ks:Nat)(box:Bxs)(hk:box ks=some [r.row L])(nb:Nat)(tok:Tks)(nt:Nat):
  ACalls prog 187 [.ptr ks 0 0] ⟨box,nb,tok,nt⟩ (QRd (Sb (kindR L r 1).1) ((kindR L r 1).2.row L) ks box nb tok nt):=by
 have ha:=h.a;refine sI func187 ntmps187 fun Hb Ht=>?_
 have kn:=key_lt Hb hk;have hw:IntKind.i64.wrap ((r.at':Int)+1)=((r.at'+1:Nat):Int):=by rw[wrap_in (by omega) (by omega)];rfl
 have hw2:IntKind.i64.wrap (r.at':Int)=(r.at':Int):=wrap_in (by omega) (by omega)
 by_cases hb:r.bad<0
 .have hb':¬0<=r.bad:=by omega
  by_cases hlt:r.at'<L.length
  .have hlt':¬(L.length:Int)<=r.at':=by omega
   have hlt2:¬L.length<=r.at':=by omega
   have hp:kindB L r 1=decide (L[r.at'].kind=1):=by simp[kindB,hb,kindAt_some hlt]
   by_cases e1:L[r.at'].kind=1
   .have b1:(L[r.at'].kind==1)=true:=by simp[e1]
    have ht:kindR L r 1=(L[r.at'].text,⟨r.at'+1,r.bad⟩):=by simp[kindR,hp,e1,textAt_some hlt]
    try (simp[lO kn,hk,hb,hb',hlt,hlt',hlt2,e1,b1,uL kn,uS,hw,hw2])
    repeat (first|(refine sR ?_;simp[lO kn,hk,hb,hb',hlt,hlt',hlt2,e1,b1,uL kn,uS,hw,hw2])|(refine sC ?_;simp[lO kn,hk,hb,hb',hlt,hlt',hlt2,e1,b1,uL kn,uS,hw,hw2])|(refine sX ?_;simp only[AU,↓reduceIte]))
    refine sT ?_;try simp only[AU]
    refine⟨by simp,(Fin.gen (av:=Sb L[r.at'].text) (tok':=tok) (nt':=nt) (by simp[resAs,resA,lk];rfl) (by rw[<-uL kn,Hb]) (nr _) (nr _) (fun t ht=>⟨ht,.inl rfl⟩) (outG (by simp)) (by simp)).mono fun v m hq=>?_⟩;exact⟨by rw[ht];exact hq.1,by rw[ht];exact hq.2⟩
   .have b1:(L[r.at'].kind==1)=false:=by simp[e1]
    have ht:kindR L r 1=(⟨#[]⟩,failR r):=by simp[kindR,hp,e1]
    have hf:failR r=⟨r.at',r.at'⟩:=if_pos hb
    try (simp[lO kn,hk,hb,hb',hlt,hlt',hlt2,e1,b1,uL kn,uS])
    repeat (first|(refine sR ?_;simp[lO kn,hk,hb,hb',hlt,hlt',hlt2,e1,b1,uL kn,uS])|(refine sC ?_;simp[lO kn,hk,hb,hb',hlt,hlt',hlt2,e1,b1,uL kn,uS])|(refine sX ?_;simp only[AU,↓reduceIte]))
    refine sT ?_;try simp only[AU]
    refine⟨by simp,(Fin.gen (av:=Sb ⟨#[]⟩) (tok':=tok) (nt':=nt) (by simp[resAs,resA,lk];rfl) (by rw[<-uL kn,Hb]) (nr _) (nr _) (fun t ht=>⟨ht,.inl rfl⟩) (outG (by simp)) (by simp)).mono fun v m hq=>?_⟩;exact⟨by rw[ht];exact hq.1,by rw[ht,hf];exact hq.2⟩
  .have hlt':(L.length:Int)<=r.at':=by omega
   have hlt2:L.length<=r.at':=by omega
   have ht:kindR L r 1=(⟨#[]⟩,failR r):=by simp[kindR,kindB,kindAt_none hlt]
   have hf:failR r=⟨r.at',r.at'⟩:=if_pos hb
   try (simp[lO kn,hk,hb,hb',hlt',hlt2,uL kn,uS])
   repeat (first|(refine sR ?_;simp[lO kn,hk,hb,hb',hlt',hlt2,uL kn,uS])|(refine sC ?_;simp[lO kn,hk,hb,hb',hlt',hlt2,uL kn,uS])|(refine sX ?_;simp only[AU,↓reduceIte]))
   refine sT ?_;try simp only[AU]
   refine⟨by simp,(Fin.gen (av:=Sb ⟨#[]⟩) (tok':=tok) (nt':=nt) (by simp[resAs,resA,lk];rfl) (by rw[<-uL kn,Hb]) (nr _) (nr _) (fun t ht=>⟨ht,.inl rfl⟩) (outG (by simp)) (by simp)).mono fun v m hq=>?_⟩;exact⟨by rw[ht];exact hq.1,by rw[ht,hf];exact hq.2⟩
 .have hb':0<=r.bad:=by omega
  have ht:kindR L r 1=(⟨#[]⟩,failR r):=by simp[kindR,kindB,hb]
  have hf:failR r=r:=if_neg hb
  try (simp[lO kn,hk,hb,hb',uL kn,uS])
  repeat (first|(refine sR ?_;simp[lO kn,hk,hb,hb',uL kn,uS])|(refine sC ?_;simp[lO kn,hk,hb,hb',uL kn,uS])|(refine sX ?_;simp only[AU,↓reduceIte]))
  refine sT ?_;try simp only[AU]
  refine⟨by simp,(Fin.gen (av:=Sb ⟨#[]⟩) (tok':=tok) (nt':=nt) (by simp[resAs,resA,lk];rfl) Hb (nr _) (nr _) (fun t ht=>⟨ht,.inl rfl⟩) (fun k rows _ h=>.inl h) (by simp)).mono fun v m hq=>?_⟩;exact⟨by rw[ht];exact hq.1,by rw[ht,hf,upd_keep hk];exact hq.2⟩
def PrdF(P:Program)(L:List Tk)(f:FuncId)(F:RqS->Fo × RqS)(n:Nat):Prop:=∀r:RqS,r.Ok L->rem L r<=n->∀(ks:Nat) (box:Bxs),box ks=some [r.row L]->∀(nb:Nat) (tok:Tks) (nt:Nat),
 ACalls P f [.ptr ks 0 0] ⟨box,nb,tok,nt⟩ (QRd (F r).1.av ((F r).2.row L) ks box nb tok nt)
structure AccFo where
 r:RqS
 l:List Fo
 own:Own
 tok:Nat->Bool
 nt:Nat
 f:Nat
structure LInv (L:List Tk) (F:RqS->Fo × RqS) (n:Nat) (sg:ByteArray) (R:List Fo × RqS) (mtok:Tks) (nt0:Nat) (x:AccFo):Prop where
 ok:x.r.Ok L
 n:rem L x.r<=n
 f:rem L x.r<=x.f
 e:moreF L F sg x.f x.r x.l=R
 l:x.l.length+x.f<=L.length+3
 k:TK mtok nt0 x.tok x.nt [x.own]
theorem LInv.of{L:List Tk}{F:RqS->Fo × RqS}{n:Nat}{sg:ByteArray}{R:List Fo × RqS}{mtok:Nat->Bool}{nt0:Nat}{r:RqS}{l:List Fo}{own:Own}{tok:Nat->Bool}{nt f:Nat}(h1:r.Ok L)(h2:rem L r<=n)(h3:rem L r<=f)(h4:moreF L F sg f r l=R)(h5:l.length+f<=L.length+3)(h7:TK mtok nt0 tok nt [own]):
  LInv L F n sg R mtok nt0 ⟨r,l,own,tok,nt,f⟩:=⟨h1,h2,h3,h4,h5,h7⟩
abbrev zRowF:List AV:=[I 0,Sb ⟨#[]⟩,nilS]
def stLsF(L:List Tk)(k:Int)(sg:ByteArray)(ks nb:Nat)(box:Bxs)(x:AccFo):AS :=
 ⟨tl [(3,.osl 3 (x.l.map Fo.cells) x.own),(4,Sb sg),(5,I k),(2,.ptr (nb+2) 0 0),(0,.ptr ks 0 0)],lb nb (upd box ks (some [x.r.row L])) [(2,[zRowF])],x.tok,x.nt⟩
set_option maxRecDepth 100000 in
theorem list_of(L:List Tk)(hL:L.length<=1000000000)(F:RqS->Fo × RqS)(n:Nat)(hF:PrdF prog L 112 F n)(hG:GoesF L F):∀r:RqS,r.Ok L->r.bad<0->rem L r<=n+1->∀(ks:Nat) (box:Bxs),box ks=some [r.row L]->∀(nb:Nat) (tok:Tks) (nt:Nat),
  ACalls prog 186 [.ptr ks 0 0] ⟨box,nb,tok,nt⟩ (QRd (listF L F r).1.av ((listF L F r).2.row L) ks box nb tok nt):=by
 intro r h hb hr ks box hk nb tok nt;have t1:=takeT_c L r h (by omega) sLp ks;have a1:=AdvS.take h sLp;have hrem:=rem_advS a1 hb h;have a2:=hG _ a1.ok;have c1:=hF _ a1.ok (by omega) ks;obtain⟨R,hR⟩:∃R,listF L F r=R:=⟨_,rfl⟩
 rw[hR];unfold listF at hR;generalize takeR L r sLp=r1 at *;obtain⟨c0,r2,hc0⟩:∃c0 r2,F r1=(c0,r2):=⟨_,_,rfl⟩
 rw[hc0] at c1 a2 hR;simp only at c1 a2 hR;have hrem2:=rem_adv a2;have pk:=peekT_c L r2 sBr ks;refine sI func186 ntmps186 fun Hb Ht=>?_
 have kn:=key_lt Hb hk;have ht0:=TK.start Ht;try (simp)
 repeat (first|(refine sR ?_;simp)|(refine sC ?_;simp)|(refine sX ?_;simp only[AU,↓reduceIte]))
 refine Stop.of_a (t1 _ (by simp only;rw[lO kn];exact hk) _ _ _) ?_;rintro v m ⟨rfl,rfl⟩;try (simp[uL kn])
 repeat (first|(refine sR ?_;simp[uL kn])|(refine sC ?_;simp[uL kn])|(refine sX ?_;simp only[AU,↓reduceIte]))
 refine Stop.of_a (c1 _ (by simp only;rw[lO kn,uS]) _ _ _) ?_;rintro v m ⟨rfl,rfl⟩;simp[uL kn,upd_upd];obtain⟨sg,k,hsk⟩:∃sg k,(if peekB L r2 sBr=true then (sBr,(4:Int)) else (sAm,3))=(sg,k):=⟨_,_,rfl⟩
 have hR2:lstF L F k sg (c0,r2) (F (takeR L r2 sg))=R:=by
  cases hp:peekB L r2 sBr
  .rw[hp] at hsk hR;simp at hsk hR;rw[<-hsk.1,<-hsk.2];exact hR
  .rw[hp] at hsk hR;simp at hsk hR;rw[<-hsk.1,<-hsk.2];exact hR
 refine sR ?_;simp;refine AL.seq ?_;refine AL.mid ⟨tl [(4,Sb sg),(5,I k),(3,.osl 3 [c0.cells] .full),(2,.ptr (nb+2) 0 0),(0,.ptr ks 0 0)],lb nb (upd box ks (some [r2.row L])) [(2,[zRowF])],tok,nt⟩ ?_ ?_
 .try (simp)
  repeat (first|(refine sR ?_;simp)|(refine sC ?_;simp)|(refine sX ?_;simp only[AU,↓reduceIte]))
  refine Stop.of_a (pk _ (by simp only;rw[lO kn,uS]) _ _ _) ?_;rintro v m ⟨rfl,rfl⟩;cases hp:peekB L r2 sBr
  .rw[hp] at hsk;simp at hsk;obtain⟨rfl,rfl⟩:=hsk;try (simp[hp])
   repeat (first|(refine sR ?_;simp[hp])|(refine sC ?_;simp[hp])|(refine sX ?_;simp only[AU,↓reduceIte]))
   refine sE ?_;exact Weaks.mk' (nr _) (by simp[ToL,lk,Fo.cells_eq,sAm,sBr];exact to_ptr (by rw[lO kn,uS];simp)) (by simp[BoxL,lk]) (outG (by simp))
  .rw[hp] at hsk;simp at hsk;obtain⟨rfl,rfl⟩:=hsk;try (simp[hp])
   repeat (first|(refine sR ?_;simp[hp])|(refine sC ?_;simp[hp])|(refine sX ?_;simp only[AU,↓reduceIte]))
   refine sE ?_;exact Weaks.mk' (nr _) (by simp[ToL,lk,Fo.cells_eq,sAm,sBr];exact to_ptr (by rw[lO kn,uS];simp)) (by simp[BoxL,lk]) (outG (by simp))
 .clear hsk hR;have t3:=takeT_c L r2 a2.ok (by omega) sg ks;have a3:=(AdvS.take a2.ok sg).adv;have hrem3:=rem_adv a3;have c3:=hF _ a3.ok (by omega) ks;have a4:=hG _ a3.ok;generalize takeR L r2 sg=r3 at *;obtain⟨c1',r4,hc1⟩:∃c1' r4,F r3=(c1',r4):=⟨_,_,rfl⟩
  rw[hc1] at c3 a4 hR2;simp only at c3 a4;have hrem4:=rem_adv a4;obtain⟨M,hM⟩:∃M,moreF L F sg (L.length+1) r4 [c0,c1']=M:=⟨_,rfl⟩
  unfold lstF at hR2;simp only at hR2;rw[hM] at hR2;subst hR2;have hrl:=rem_le L r4;try (simp)
  repeat (first|(refine sR ?_;simp)|(refine sC ?_;simp)|(refine sX ?_;simp only[AU,↓reduceIte]))
  refine Stop.of_a (t3 _ (by simp only;rw[lO kn,uS]) _ _ _) ?_;rintro v m ⟨rfl,rfl⟩;try (simp[uL kn,upd_upd])
  repeat (first|(refine sR ?_;simp[uL kn,upd_upd])|(refine sC ?_;simp[uL kn,upd_upd])|(refine sX ?_;simp only[AU,↓reduceIte]))
  refine Stop.of_a (c3 _ (by simp only;rw[lO kn,uS]) _ _ _) ?_;rintro v m ⟨rfl,rfl⟩;try (simp[uL kn,upd_upd])
  repeat (first|(refine sR ?_;simp[uL kn,upd_upd])|(refine sC ?_;simp[uL kn,upd_upd])|(refine sX ?_;simp only[AU,↓reduceIte]))
  refine sN ?_;refine sL (stLsF L k sg ks nb box) (LInv L F n sg M tok nt) (fun x=>x.f) ⟨r4,[c0,c1'],.tok nt,upd tok nt true,nt+1,L.length+1⟩ (LInv.of a4.ok (by omega) (by omega) hM (by simp;omega) ht0.full.app)
   (Weaks.mk' (by omega) (by simp[ToL,lk,Fo.cells_eq];exact to_ptr (by rw[lO kn,uS];simp)) (by simp[BoxL,lk]) (outG (by simp))) ?_
  clear hM;rintro⟨r,l,own,tok1,nt1,f⟩ S hinv hS;obtain⟨ho,hn1,hf,he,hl,htk⟩:=hinv;simp only[stLsF] at hS ho hn1 hf he hl htk ⊢;subst hS;have pk2:=peekT_c L r sg ks;try (simp)
  repeat (first|(refine sR ?_;simp)|(refine sC ?_;simp)|(refine sX ?_;simp only[AU,↓reduceIte]))
  refine Stop.of_a (pk2 _ (by simp only;rw[lO kn,uS]) _ _ _) ?_;rintro v m ⟨rfl,rfl⟩;cases hp:peekB L r sg
  .have he2:moreF L F sg f r l=(l,r):=by
    cases f with
    | zero=>rfl
    | succ f=>rw[moreF,if_neg (by simp[hp])]
   rw[he2] at he;subst he;have t5:=takeT_c L r ho (by omega) sRp ks;try (simp[hp])
   repeat (first|(refine sR ?_;simp[hp])|(refine sC ?_;simp[hp])|(refine sX ?_;simp only[AU,↓reduceIte]))
   refine Stop.of_a (t5 _ (by simp only;rw[lO kn,uS]) _ _ _) ?_;rintro v m ⟨rfl,rfl⟩;try (simp[uL kn,upd_upd])
   repeat (first|(refine sR ?_;simp[uL kn,upd_upd])|(refine sC ?_;simp[uL kn,upd_upd])|(refine sX ?_;simp only[AU,↓reduceIte]))
   refine sT ?_;try simp only[AU]
   refine⟨by simp,(Fin.gen (av:=Fo.av (.mk k ⟨#[]⟩ l)) (tok':=tok) (nt':=nt) (by simp[resAs,resA,lk];rfl) (by rw[<-uL kn,Hb]) (nr _) htk.le (fun t ht=>⟨htk.old t ht,.inr (Ht t ht)⟩) (outG (by simp)) (by simp[Fo.kind,Fo.name,Fo.kids])).mono fun v m hq=>?_⟩;exact hq
  .have hb:r.bad<0:=by unfold peekB at hp;simp only[Bool.and_eq_true,decide_eq_true_eq] at hp;exact hp.1
   have a5:=peek_at ho hp;have hlt:=rem_advS a5 hb ho;obtain⟨f,rfl⟩:∃f',f=f'+1:=⟨f-1,by omega⟩
   rw[moreF,if_pos hp] at he;have c5:=hF _ a5.ok (by omega) ks;have a6:=hG _ a5.ok;have hrem6:=rem_adv a6;have hat:=ho.a;have hw:IntKind.i64.wrap ((r.at':Int)+1)=((r.at'+1:Nat):Int):=by rw[wrap_in (by omega) (by omega)];rfl
   obtain⟨c7,r7,hc7⟩:∃c7 r7,F ⟨r.at'+1,r.bad⟩=(c7,r7):=⟨_,_,rfl⟩
   rw[hc7] at c5 a6 hrem6 he;simp only at c5 a6 hrem6 he;try (simp[hp,lO kn,uS,uL kn,upd_upd,hw])
   repeat (first|(refine sR ?_;simp[hp,lO kn,uS,uL kn,upd_upd,hw])|(refine sC ?_;simp[hp,lO kn,uS,uL kn,upd_upd,hw])|(refine sX ?_;simp only[AU,↓reduceIte]))
   refine Stop.of_a (c5 _ (by simp only;rw[lO kn,uS];rfl) _ _ _) ?_;rintro v m ⟨rfl,rfl⟩;try (simp[uL kn,upd_upd])
   repeat (first|(refine sR ?_;simp[uL kn,upd_upd])|(refine sC ?_;simp[uL kn,upd_upd])|(refine sX ?_;simp only[AU,↓reduceIte]))
   refine⟨⟨by omega,htk.live⟩,?_⟩;try (simp)
   repeat (first|(refine sR ?_;simp)|(refine sC ?_;simp)|(refine sX ?_;simp only[AU,↓reduceIte]))
   refine sE ?_;refine⟨⟨r7,l++[c7],.tok nt1,upd (own.kill tok1) nt1 true,nt1+1,f⟩,LInv.of a6.ok (by omega) (by omega) he (by simp;omega) htk.app,by simp only;omega,?_⟩;simp only[stLsF];exact Weaks.mk' (by have:=htk.le;omega) (by simp[ToL,lk,Fo.cells_eq];exact to_ptr (by rw[lO kn,uS];simp)) (by simp[BoxL,lk]) (outG (by simp))
variable {P:Program}
theorem RelM.conv{R:AV->AV->Prop}{G G':Gh}{w w':World}{base nb nt nt':Nat}{out:Bxs}{loc loc':List (Nat × List (List AV))}{tok tok':Nat->Bool}(hm:RelM G ⟨lb base out loc,nb,tok,nt⟩ w)(hm':RelM G' ⟨lb base out loc,nb,tok',nt'⟩ w')(hbx:G'.bx=G.bx)(hto:∀x y v,R x y->RV G w x v->RV G' w' y v)(hh:∀b,G.kind b=.box->w'.heap[b]?=w.heap[b]?)(hb:CvB R loc loc'):
  RelM G' ⟨lb base out loc',nb,tok',nt'⟩ w':=by
 constructor
 case box =>
  intro k rows b z hk hbk;simp only at hk;by_cases hkb:k<base
  .rw[lO hkb] at hk;exact hm'.box k rows b z (by simp only;rw[lO hkb];exact hk) hbk
  .have hkk:k=base+(k-base):=by omega
   rw[hkk,lb_at] at hk;rcases hb.at (k-base) with ⟨_,h2⟩|⟨r0,r',h1,h2,h3⟩
   .rw[h2] at hk;cases hk
   .rw[h2] at hk;cases hk;obtain⟨g0,cs,e,g2,g3,g4,g5⟩:=hm.box k r0 b z (by simp only;rw[hkk,lb_at];exact h1) (by rw[<-hbx];exact hbk);obtain⟨g1,_⟩:=hm'.box k r0 b z (by simp only;rw[hkk,lb_at];exact h1) hbk;refine⟨g1,cs,e,(hh b g0).trans g2,fun q hq=>?_,⟨h3.flat.1.symm.trans g4.1,fun i h1 h2=>hto _ _ _ (h3.flat.2 i (by rw[h3.flat.1];exact h1) h1) (g4.2 i _ h2)⟩,g5⟩;obtain⟨i,hi,rfl⟩:=List.getElem_of_mem hq;have hi0:i<r0.length:=by rw[h3.1];exact hi
    rw[<-(h3.2 i hi0 hi).1];exact g3 _ (List.getElem_mem _)
 case nobox =>
  intro k hk;refine hm'.nobox k ?_;simp only at hk ⊢;by_cases hkb:k<base
  .rw[lO hkb] at hk ⊢;exact hk
  .have hkk:k=base+(k-base):=by omega
   rw[hkk,lb_at] at hk ⊢;rcases hb.at (k-base) with ⟨h1,_⟩|⟨r0,r',_,h2,_⟩
   .exact h1
   .rw[h2] at hk;cases hk
 case inj=>exact hm'.inj
 case nb =>
  intro k hk;have h0:=hm'.nb k hk;simp only at h0 ⊢;by_cases hkb:k<base
  .rw[lO hkb] at h0 ⊢;exact h0
  .have hkk:k=base+(k-base):=by omega
   rw[hkk,lb_at] at h0 ⊢;rcases hb.at (k-base) with ⟨_,h2⟩|⟨r0,r',h1,_,_⟩
   .exact h2
   .rw[h1] at h0;cases h0
 case nt=>exact hm'.nt
 case toks=>exact hm'.toks
 case tokb=>exact hm'.tokb
 case tinj=>exact hm'.tinj
 case tnt=>exact hm'.tnt
 case glob=>exact hm'.glob
 case fresh=>exact hm'.fresh
def AV.mpF(t:Nat):AV->AV
 | .mp t' es=>if t'=t then .mpd (mpE es) else .mp t' es
 | x=>x
theorem Trans.mapD{cx:Cx}{nt0 nt:Nat}{l:List (Nat × AV)}{out:Bxs}{loc:List (Nat × List (List AV))}{tok:Nat->Bool}(t:Nat)(ht:tok t=true):
  Trans cx nt0 ⟨tl l,lb cx.base out loc,tok,nt⟩ ⟨tl (l.map fun q=>(q.1,q.2.mpF t)),lb cx.base out (loc.map fun q=>(q.1,q.2.map fun r=>r.map (AV.mpF t))),upd tok t false,nt⟩:=by
 intro G0 w0 G a w he hn0 hS hL;have hm:=hS.mem;obtain⟨hlt,x,hx⟩:=hm.toks t ht;have hmk:=hm.kill (.tok t);have hlk:=Le.kill (G:=G) (w:=w) (.tok t);have fin:∀G',Le G w G' w->G'.bx=G.bx->RelM G' ⟨lb cx.base out loc,cx.nb,upd tok t false,nt⟩ w->(∀es v,MpR G w t es v->MpD G' w (mpE es) v) ->
   ∃G',RelS cx.n cx.nb G' ⟨tl (l.map fun q=>(q.1,q.2.mpF t)),lb cx.base out (loc.map fun q=>(q.1,q.2.map fun r=>r.map (AV.mpF t))),upd tok t false,nt⟩ a w/\LeC cx G0 w0 G' w ⟨tl (l.map fun q=>(q.1,q.2.mpF t)),lb cx.base out (loc.map fun q=>(q.1,q.2.map fun r=>r.map (AV.mpF t))),upd tok t false,nt⟩:=by
  intro G' hle hbx hm' hd;have hto:∀x y v,y=AV.mpF t x->RV G w x v->RV G' w y v:=fun x y v h hr=>by
   subst h;cases x with
   | mp t' es =>
    simp only[AV.mpF];split
    .rename_i h;subst h;cases hr with|mp hr=>exact .mpd (hd _ _ hr)
    .exact hr.mono hle
   | _=>exact hr.mono hle
  refine⟨G',⟨hS.defers,hS.size,fun i=>hto _ _ _ ?_ (hS.tmps i),hm.conv hm' hbx hto (fun _ _=>rfl) (cvB_map (R:=fun x y=>y=AV.mpF t x) (fun _=>rfl) loc)⟩,?_⟩
  .exact CvL.at (R:=fun x y=>y=AV.mpF t x) rfl (cvL_map (R:=fun x y=>y=AV.mpF t x) (fun _=>rfl) l) i
  .refine hL.step ⟨hle,fun k hkb hg=>⟨by rw[hbx];exact hg,?_⟩⟩;simp only;rw[lO hkb,lO hkb]
 cases x with
 | none =>
  refine fin (G.kill (.tok t)) hlk rfl hmk fun es v hv=>?_
  obtain⟨_,_,r,_,hst⟩:=hv;cases (hst _ hx).1
 | some g =>
  obtain⟨f,cur,e,hkg,hg⟩:=hm.tokb t g hx;by_cases hex:G.kind g=.ex
  .have hnot:=kill_not hm hx;have hlr:=Le.reKind (G:=G.kill (.tok t)) (w:=w) .whole hex hnot;refine fin ((G.kill (.tok t)).setKind g .whole) (hlk.trans hlr) rfl (hmk.reKind .whole hex hnot (heap_lt hg)) fun es v hv=>?_
   obtain⟨_,_,r,rfl,hst⟩:=hv;obtain⟨h1,h2,en,k,h3,h4,_⟩:=hst _ hx;cases h1;exact⟨g,rfl,by simp[Gh.setKind,uS],en,k,h3,h4.mono (hlk.trans hlr).cells⟩
  .refine fin (G.kill (.tok t)) hlk rfl hmk fun es v hv=>?_
   obtain⟨_,_,r,rfl,hst⟩:=hv;obtain⟨h1,h2,_⟩:=hst _ hx;cases h1;exact absurd h2 hex
theorem AL.mapD{cx:Cx}{nt0 nt:Nat}{K:Exit->AS->Prop}{q:List CI}{x:Code}{l:List (Nat × AV)}{out:Bxs}{loc:List (Nat × List (List AV))}{tok:Nat->Bool}(t:Nat)(ht:tok t=true)(h:AL P cx nt0 K (.c x::q) ⟨tl (l.map fun q=>(q.1,q.2.mpF t)),lb cx.base out (loc.map fun q=>(q.1,q.2.map fun r=>r.map (AV.mpF t))),upd tok t false,nt⟩):AL P cx nt0 K (.c x::q) ⟨tl l,lb cx.base out loc,tok,nt⟩ :=
 AL.trans (Trans.mapD t ht) h
def World.setMap(w:World)(r:Nat)(en:Array MapEntry)(k:Nat):World:={ w with heap:=w.heap.setIfInBounds r (.map en k) }
theorem setMap_same{w:World}{r:Nat}{o:Obj}(h:w.heap[r]?=some o)(en:Array MapEntry)(k:Nat):(World.setMap w r en k).heap[r]?=some (.map en k):=by
 have:=heap_lt h
 simp[World.setMap,this]
theorem setMap_other{w:World}{r b:Nat}(h:b≠r)(en:Array MapEntry)(k:Nat):(World.setMap w r en k).heap[b]?=w.heap[b]?:=by
 simp[World.setMap,Ne.symm h]
theorem setMap_size(w:World)(r:Nat)(en:Array MapEntry)(k:Nat):(World.setMap w r en k).heap.size=w.heap.size:=by simp[World.setMap]
theorem Le.setMap{G:Gh}{w:World}{r:Nat}(hk:G.kind r=.ex)(ht:∀t,G.tk t≠some (some r)){en0:Array MapEntry}{k0:Nat}(hg:w.heap[r]?=some (.map en0 k0))(en:Array MapEntry)(k:Nat):Le G w G (World.setMap w r en k) where
 os:=rfl
 tape:=rfl
 output:=rfl
 size:=by rw[setMap_size];exact nr _
 whole b hb h:=⟨h,setMap_other (fun e=>by subst e;rw[hk] at h;cases h) en k⟩
 part b f0 c0 h:=⟨⟨f0,nr _,h⟩,fun a ha _=>World.cell?_of_block (setMap_other (fun e=>by
  have:G.kind r=.part f0 c0:=by rw[<-e,ha];exact h
  rw[hk] at this;cases this) en k)⟩
 bx _ _ h:=h
 nt:=nr _
 tk t _:=.inr ⟨rfl,fun j hj=>⟨rfl,fun _=>setMap_other (fun e=>by subst e;exact ht t hj) en k⟩⟩
 ty b c0 T f0 hb:=⟨c0,f0,by rw[setMap_other (fun e=>by subst e;rw[hg] at hb;cases hb) en k];exact hb⟩
theorem RelM.setMap{G:Gh}{m:AMem}{w:World}(h:RelM G m w){r:Nat}(hk:G.kind r=.ex)(ht:∀t,G.tk t≠some (some r)){en0:Array MapEntry}{k0:Nat}(hg:w.heap[r]?=some (.map en0 k0))(en:Array MapEntry)(k:Nat):RelM G m (World.setMap w r en k):=by
 have hle:=Le.setMap hk ht hg en k;constructor
 case box =>
  intro q rows b sz hkk hb;obtain⟨h1,cs,e',h2,h3,h4,h5⟩:=h.box q rows b sz hkk hb;exact⟨h1,cs,e',(setMap_other (fun e=>by subst e;rw[hk] at h1;cases h1) en k).trans h2,h3,h4.mono hle,h5⟩
 case nobox=>exact h.nobox
 case inj=>exact h.inj
 case nb=>exact h.nb
 case nt=>exact h.nt
 case toks=>exact h.toks
 case tokb =>
  intro t j hj;obtain⟨f0,cur0,e0,h1,h2⟩:=h.tokb t j hj;exact⟨f0,cur0,e0,h1,(setMap_other (fun e=>by subst e;exact ht t hj) en k).trans h2⟩
 case tinj=>exact h.tinj
 case tnt=>exact h.tnt
 case glob=>exact h.glob.mono hle.cells fun g hg hk=>hle.whole g hg hk
 case fresh =>
  intro b hb;exact h.fresh b (by rw[setMap_size] at hb;exact hb)
def mpPut(es:List (ByteArray × List (List D) × Own))(s:ByteArray)(xs:List (List D))(o:Own):List (ByteArray × List (List D) × Own):=match es.findIdx? fun e=>decide (e.1=s) with
 | some i=>es.set i (s,xs,o)
 | none=>es++[(s,xs,o)]
theorem sameBits_str(n:Nat)(s:ByteArray):Instr.sameBits n (.string s) (.string s)=true:=by
 cases n<;>simp[Instr.sameBits,bs_dec]
theorem run_mapUpdate_str{w:World}{T:TypeId}{r:Nat}{en:Array MapEntry}{k:Nat}{c:Addr->Option Value}{ps:Addr->Prop}{es:List (ByteArray × List (List D))}(hT:mapT P T=true)(hb:w.heap[r]?=some (.map en k))(he:EnR c ps es en)(s:ByteArray)(v:Value):
  ∃en' k',(Instr.mapUpdate T (.map (some r)) (.string s) v).run P w=.ok () (World.setMap w r en' k')/\(match es.findIdx? fun e=>decide (e.1=s) with
   | some i=>en'.size=en.size/\(∀j (h:j<en'.size) (h2:j<en.size),j≠i->en'[j].key=en[j].key/\en'[j].val=en[j].val)/\∀h:i<en'.size,en'[i].key=.string s/\en'[i].val=v
   | none=>en'.size=en.size+1/\(∀j (h:j<en'.size) (h2:j<en.size),en'[j].key=en[j].key/\en'[j].val=en[j].val)/\∀h:en.size<en'.size,en'[en.size].key=.string s/\en'[en.size].val=v):=by
 obtain⟨kt,et,h1,h2,h3⟩:=mapT_spec hT;have hf:=findNow_str s en.toList (es.map (·.1)) 0 he.keys;have hc:(Instr.checkKey false 10000 kt (.string s)).run P w=.ok () w:=MapKept.run_checkKey (k:=.string s) h2 (by simp[MapKept.IsKey]) _ 9999
 have hk:=MapKept.run_findKey (w:=w) h2 hf;rw[find_map] at hk;cases hi:es.findIdx? fun e=>decide (e.1=s) with
 | none =>
  rw[hi] at hk;simp only[Option.bind_none] at hk;refine⟨en.push { key:=.string s,val:=v,born:=k },k+1,?_,by simp,fun j h h2=>?_,fun h=>by simp⟩
  .simp[Instr.mapUpdate,run_underlying h1,MapKept.run_getObj_map hb,hc,hk,MapKept.run_setObj_map _ hb,Result.andThen,World.setMap]
  .rw[Array.getElem_push_lt h2];exact⟨rfl,rfl⟩
 | some i =>
  have hlt:i<en.size:=by
   have:=(List.findIdx?_eq_some_iff_getElem.1 hi).1
   rw[he.1] at this;exact this
  have hkey:en[i].key=.string s:=by
   obtain⟨g1,g2,_⟩:=List.findIdx?_eq_some_iff_getElem.1 hi;rw[(he.2 i g1 hlt).1];simp at g2;rw[g2]
  rw[hi] at hk;have hg:en.toList[i]?=some en[i]:=by simp[hlt]
  simp only[Option.bind_some,hg,Option.map_some,Nat.zero_add] at hk;refine⟨en.modify i fun e=>{ e with key:=.string s,val:=v },k,?_,by simp,fun j h h2 hne=>?_,fun h=>?_⟩
  .simp[Instr.mapUpdate,run_underlying h1,MapKept.run_getObj_map hb,hc,hk,hlt,hkey,Instr.keyThatStays,sameBits_str,MapKept.run_setObj_map _ hb,Result.andThen,World.setMap]
  .rw[Array.getElem_modify,if_neg (Ne.symm hne)];exact⟨rfl,rfl⟩
  .rw[Array.getElem_modify,if_pos rfl];exact⟨rfl,rfl⟩
def AV.mpU(t nt:Nat)(es':List (ByteArray × List (List D) × Own)):AV->AV
 | .mp t' es=>if t'=t then .mp nt es' else .mp t' es
 | x=>x
def LastK(P:Program)(cx:Cx)(o:Oper)(S:AS)(K:AS->Prop):Prop:=∀(G0:Gh) (w0:World) (Q:Act->World->Prop) (E:Exit->Act->World->Prop),(∀S a w G,K S->RelS cx.n cx.nb G S a w->LeC cx G0 w0 G w S->Q a w) ->
 ∀G a w,RelS cx.n cx.nb G S a w->LeC cx G0 w0 G w S->o.wp P a w Q E
theorem LastK.put{cx:Cx}{o:Oper}{K:AS->Prop}{l:List (Nat × AV)}{out:Bxs}{loc:List (Nat × List (List AV))}{tok:Nat->Bool}{nt:Nat}{T:TypeId}{m k v:Operand}(t:Nat)(es:List (ByteArray × List (List D) × Own))(s:ByteArray)(xs:List (List D))(own:Own)(ho:o.op=.mapUpdate T m k v)(hd:o.dst=none)(hT:mapT P T=true)(ht:tok t=true)(hmv:AS.ev ⟨tl l,lb cx.base out loc,tok,nt⟩ m=.mp t es)(hkv:AS.ev ⟨tl l,lb cx.base out loc,tok,nt⟩ k=.d (.raw (.string s)))(hvv:AS.ev ⟨tl l,lb cx.base out loc,tok,nt⟩ v=.osl 1 xs own)(h:K ⟨tl (l.map fun q=>(q.1,q.2.mpU t nt (mpPut es s xs own))),lb cx.base out (loc.map fun q=>(q.1,q.2.map fun r=>r.map (AV.mpU t nt (mpPut es s xs own)))),upd (upd tok t false) nt true,nt+1⟩):
  LastK P cx o ⟨tl l,lb cx.base out loc,tok,nt⟩ K:=by
 intro G0 w0 Q E hQ G a w hS hL;have hm:=hS.mem;have hmr:=hS.ev m;have hkr:=hS.ev k;have hvr:=hS.ev v;rw[hmv] at hmr;rw[hkv] at hkr;rw[hvv] at hvr;generalize hmx:a.eval m=mx at hmr;generalize hkx:a.eval k=kx at hkr;generalize hvx:a.eval v=vx at hvr;have hk1:kx=.string s:=by cases hkr with|d h=>cases h;rfl
 subst hk1;cases hmr with
 | mp hmr =>
  obtain⟨htl,hts,r,rfl,hmr⟩:=hmr;obtain⟨_,x,hx⟩:=hm.toks t ht;obtain⟨rfl,hkr2,en,k0,hh,he,how⟩:=hmr x hx;obtain⟨en',k',hrun,hen⟩:=run_mapUpdate_str (P:=P) hT hh he s vx;have hnot:=kill_not hm hx;have hmk:=hm.kill (.tok t);have hlk:=Le.kill (G:=G) (w:=w) (.tok t);have hms:=hmk.setMap hkr2 hnot hh en' k';have hls:=Le.setMap (G:=G.kill (.tok t)) hkr2 hnot hh en' k';have hhe:(World.setMap w r en' k').heap[r]?=some (.map en' k'):=setMap_same hh en' k'
  have hmn:=hms.newtok (some r) (fun g hg=>by cases hg;exact⟨hnot,0, #[],_,.inr hkr2,hhe⟩);have hln:=Le.newtok (G:=G.kill (.tok t)) (w:=World.setMap w r en' k') (some r);have hle:=(hlk.trans hls).trans hln;have hgnt:G.nt=nt:=hm.nt
  have hvd:RVd w.cell? G.ps (.sl 1 xs) vx/\OwnR G 1 xs.length own vx:=by cases hvr with|osl h1 h2=>exact⟨h1,h2⟩
  have hown1:∀t',own=.tok t'->t'<G.nt:=fun t' e=>by subst e;exact hvd.2.1
  have hmp:MpR ((G.kill (.tok t)).newtok (some r)) (World.setMap w r en' k') nt (mpPut es s xs own) (.map (some r)):=by
   refine⟨by simp only[Gh.newtok,Gh.kill];omega,fun e he' t' e1=>?_,r,rfl,fun y hy=>?_⟩
   .have:t'<G.nt:=by
     unfold mpPut at he';split at he'
     .rcases List.mem_or_eq_of_mem_set he' with h5|h5
      .exact hts e h5 t' e1
      .subst h5;exact hown1 t' e1
     .rcases List.mem_append.1 he' with h5|h5
      .exact hts e h5 t' e1
      .simp at h5;subst h5;exact hown1 t' e1
    simp only[Gh.newtok,Gh.kill];omega
   .simp only[Gh.newtok,Gh.kill,hgnt,uS,Option.some.injEq] at hy;subst hy;refine⟨rfl,hkr2,en',k',hhe,?_⟩;have hfi:(mpE es).findIdx? (fun e=>decide (e.1=s))=es.findIdx? fun e=>decide (e.1=s):=by
     rw[mpE,List.findIdx?_map];rfl
    rw[hfi] at hen;have hsz:es.length=en.size:=by have:=he.1;simpa[mpE] using this
    cases hi:es.findIdx? fun e=>decide (e.1=s) with
    | some i =>
     rw[hi] at hen;simp only at hen;obtain⟨e1,e2,e3⟩:=hen;have hp:mpPut es s xs own=es.set i (s,xs,own):=by simp only[mpPut,hi]
     rw[hp];refine⟨⟨by simp[mpE,e1,hsz],fun j h1 h2=>?_⟩,fun j h1 h2=>?_⟩
     .have hj:j<es.length:=by simpa[mpE] using h1
      by_cases hji:j=i
      .subst hji;simp only[mpE,List.getElem_map,List.getElem_set_self];exact⟨(e3 h2).1,by rw[(e3 h2).2];exact hvd.1.mono hle.cells⟩
      .simp only[mpE,List.getElem_map,List.getElem_set_ne (Ne.symm hji)];obtain⟨q1,q2⟩:=e2 j h2 (by omega) hji;have:=he.2 j (by simpa[mpE] using hj) (by omega)
       simp only[mpE,List.getElem_map] at this;rw[q1,q2];exact⟨this.1,this.2.mono hle.cells⟩
     .have hj:j<es.length:=by simpa using h1
      by_cases hji:j=i
      .subst hji;simp only[List.getElem_set_self];rw[(e3 h2).2];exact hvd.2.mono hle
      .simp only[List.getElem_set_ne (Ne.symm hji)];rw[(e2 j h2 (by omega) hji).2];exact(how j hj (by omega)).mono hle
    | none =>
     rw[hi] at hen;simp only at hen;obtain⟨e1,e2,e3⟩:=hen;have hp:mpPut es s xs own=es++[(s,xs,own)]:=by simp only[mpPut,hi]
     rw[hp];have hval:∀j (h1:j<(es++[(s,xs,own)]).length),(es++[(s,xs,own)])[j]=if h:j<es.length then es[j] else (s,xs,own):=fun j h1=>by
      by_cases h:j<es.length
      .rw[dif_pos h,List.getElem_append_left h]
      .rw[dif_neg h];simp at h1;have:j=es.length:=by omega
       subst this;simp
     refine⟨⟨by simp[mpE,e1,hsz],fun j h1 h2=>?_⟩,fun j h1 h2=>?_⟩
     .simp only[mpE,List.getElem_map];rw[hval j (by simpa[mpE] using h1)];by_cases h:j<es.length
      .rw[dif_pos h];obtain⟨q1,q2⟩:=e2 j h2 (by omega);have:=he.2 j (by simpa[mpE] using h) (by omega)
       simp only[mpE,List.getElem_map] at this;rw[q1,q2];exact⟨this.1,this.2.mono hle.cells⟩
      .rw[dif_neg h];have:j=en.size:=by omega
       subst this;exact⟨(e3 h2).1,by rw[(e3 h2).2];exact hvd.1.mono hle.cells⟩
     .rw[hval j h1];by_cases h:j<es.length
      .rw[dif_pos h];rw[(e2 j h2 (by omega)).2];exact(how j h (by omega)).mono hle
      .rw[dif_neg h];have:j=en.size:=by omega
       subst this;rw[(e3 h2).2];exact hvd.2.mono hle
  have hto:∀x y v,y=AV.mpU t nt (mpPut es s xs own) x->RV G w x v->RV ((G.kill (.tok t)).newtok (some r)) (World.setMap w r en' k') y v:=fun x y v h hr=>by
   subst h;cases x with
   | mp t' es0 =>
    simp only[AV.mpU];split
    .rename_i h;subst h;cases hr with
     | mp hr =>
      obtain⟨_,_,r2,rfl,hr⟩:=hr;have:=(hr _ hx).1
      cases this;exact .mp hmp
    .exact hr.mono hle
   | _=>exact hr.mono hle
  have hS':RelS cx.n cx.nb ((G.kill (.tok t)).newtok (some r)) ⟨tl (l.map fun q=>(q.1,q.2.mpU t nt (mpPut es s xs own))),lb cx.base out (loc.map fun q=>(q.1,q.2.map fun r=>r.map (AV.mpU t nt (mpPut es s xs own)))),upd (upd tok t false) nt true,nt+1⟩ a (World.setMap w r en' k') :=
   ⟨hS.defers,hS.size,fun i=>hto _ _ _ (CvL.at (R:=fun x y=>y=AV.mpU t nt (mpPut es s xs own) x) rfl (cvL_map (R:=fun x y=>y=AV.mpU t nt (mpPut es s xs own) x) (fun _=>rfl) l) i) (hS.tmps i),
    hm.conv hmn rfl hto (fun b hb=>setMap_other (fun e=>by subst e;rw[hkr2] at hb;cases hb) en' k') (cvB_map (R:=fun x y=>y=AV.mpU t nt (mpPut es s xs own) x) (fun _=>rfl) loc)⟩
  unfold Oper.wp;have hex:(execOp a.eval o).run P w=.ok .skip (World.setMap w r en' k'):=by
   simp only[execOp,ho,hmx,hkx,hvx,Sem.run_bind,hrun,Result.andThen_ok,Sem.run_pure]
  rw[hex];simp only[Oper.upon,hd,Act.put];exact hQ _ _ _ _ h hS' (hL.step ⟨hle,fun k hkb hg=>⟨hg,by simp only;rw[lO hkb,lO hkb]⟩⟩)
theorem AL.splitG{cx:Cx}{nt0:Nat}{K:Exit->AS->Prop}{r:List CI}{S:AS}{id:Nat}{L ops:Array Oper}{o:Oper}(hL:L=ops.push o)(hf:P.follows .mixedOrders=true)(hnb:cx.base+cx.n<=cx.nb)(hok:splitOk cx.n ops o=true)(h:FReg P cx ops true (fun S'=>LastK P cx o S' (AL P cx nt0 K r)) S):AL P cx nt0 K (.c (.region id L true)::r) S:=by
 subst hL;unfold splitOk at hok;simp only[Bool.and_eq_true,regionOk,Bool.or_eq_true,Bool.not_eq_true',Option.isNone_iff_eq_none] at hok;obtain⟨⟨⟨hal,hdst⟩,hreg⟩,⟨⟨hal1,hdst1⟩,_⟩,hdown,htied,hgo,hgn⟩:=hok;have hreg':regOk ops=true:=by simpa using hreg
 have h:=fReg_sound h;simp only[AL];intro G0 w0 he hn G a w hr hl;have hd:=dstOk_spec hdst;obtain⟨b,hb,hr1,hp,hkeep⟩:=preB_sound hnb ops.toList S.box (S:=S) hr (fun o ho d hod=>hd o d (by simpa using ho) hod) (allocOk_nodup hal) h;have hl1:LeC cx G0 w0 G w { S with box:=b }:=⟨hl.1,fun k hk hg=>by
  rw[<-hl.2 k hk hg];refine hkeep k fun hm=>?_
  obtain⟨o,ho,he⟩:=List.mem_filterMap.1 hm;split at he
  .rename_i T s h1 h2;simp only[Option.some.injEq] at he;subst he;exact absurd hk (by simp)
  .cases he⟩
 simp only at hb;obtain⟨S',hrun,hK⟩:=hb;refine wp_region_any hf ?_;have hrd:RelS cx.n cx.nb G { S with box:=b } a w.drew:=hr1.drew
 have hld:LeC cx G0 w0 G w.drew { S with box:=b }:=hl1.step ⟨Le.drew,fun k _ hg=>⟨hg,rfl⟩⟩
 rw[Array.size_push];refine wpAny_split (Qm:=fun e a' w'=>match e with
  | .normal=>o.wp P a' w' (fun a w=>∃S' G',AL P cx nt0 K r S'/\RelS cx.n cx.nb G' S' a w/\LeC cx G0 w0 G' w S') (fun e a' w'=>∃S' G',(match e with|.normal=>AL P cx nt0 K r S'|e=>AU P cx nt0 K r e S')/\RelS cx.n cx.nb G' S' a' w'/\LeC cx G0 w0 G' w' S')∨(o.asks P a' w'/\LetsOut (fun e a' w'=>∃S' G',(match e with|.normal=>AL P cx nt0 K r S'|e=>AU P cx nt0 K r e S')/\RelS cx.n cx.nb G' S' a' w'/\LeC cx G0 w0 G' w' S'))
  | e=>False) hdown htied hgo hgn (fun e a w hne hh=>by cases e<;>first|exact absurd rfl hne|exact hh.elim) (fun a w hh=>?_) ops.size _ (Array.replicate ops.size false) (by simp) (by simp) (fun i hi=>by simp[Array.getElem?_replicate,hi];omega) (by simp[Array.getElem?_replicate]) ?_ a w.drew ?_
 .exact hh
 .intro i x hx hl2;have:=of_getD hl2
  rw[Array.getElem?_replicate] at this;split at this
  .cases this
  .cases this
 .refine any_sound (n:=cx.n) (nb:=cx.nb) (base:=cx.base) (Sf:=S') (G0:=G) (w0:=w.drew) (b0:=b) hreg' hal hdst hnb (fun a' w' G' h1 h2=>?_) ops.size (Array.replicate ops.size false) (List.range ops.size) { S with box:=b } a w.drew G (by simp) ?_ (by simp) ?_ (IRun.of_all hrun) hrd ?_ (LeK.refl _ _ _ _)
  .have hl2:=hld.step h2;exact .inl (hK G0 w0 _ _ (fun S a w G q1 q2 q3=>⟨S,G,q1,q2,q3⟩) G' a' w' h1 hl2)
  .rw[List.filter_eq_self.2];intro i hi;simp at hi;simp[Array.getD,hi]
  .intro i o ho hlst;have hi:=(Array.getElem?_eq_some_iff.1 ho).1;simp[Array.getD,hi] at hlst
  .intro i _ o ho;exact hp o (by simpa using Array.mem_of_getElem? ho)
theorem AL.splitLG{cx:Cx}{nt0:Nat}{K:Exit->AS->Prop}{r:List CI}{S:AS}{id:Nat}{L:List Oper}{o:Oper}(hl:L.getLast?=some o)(hL:L=L.dropLast++[o])(hf:P.follows .mixedOrders=true)(hnb:cx.base+cx.n<=cx.nb)(hok:splitOk cx.n L.dropLast.toArray o=true)(h:FReg P cx L.dropLast.toArray true (fun S'=>LastK P cx o S' (AL P cx nt0 K r)) S):AL P cx nt0 K (.c (.region id L.toArray true)::r) S:=by
 refine AL.splitG (ops:=L.dropLast.toArray) (o:=o) ?_ hf hnb hok h;rw[List.push_toArray,<-hL]
inductive QuTo (t sz:Nat):AV->AV->Prop
 | bot {x}:QuTo t sz x .bot
 | same {x}:QuTo t sz x x
 | nil {n}:QuTo t sz (.osl n [] .full) (.que t sz [])
 | tok {t' s es}:QuTo t sz (.osl s es (.tok t')) (.que t' s es)
theorem QuTo.rv{G:Gh}{w:World}{t sz:Nat}(ht:t<G.nt)(hk:G.tk t=some none){x y:AV}{v:Value}(h:QuTo t sz x y)(hr:RV G w x v):RV G w y v:=by
 cases h with
 | bot=>exact .bot
 | same=>exact hr
 | nil =>
  cases hr with
  | osl _ ho =>
   obtain⟨A,rfl,_⟩:=ho;exact .que (.sl (es:=[]) (fun _ _=>default) (nr _) (Nat.zero_le _) (by simp) (by simp) (fun a _ i j hi _=>by simp at hi) (fun i j hi _=>by simp at hi)) ⟨ht,fun x hx=>.inl ⟨A,rfl⟩⟩
 | tok =>
  cases hr with
  | osl h1 ho =>
   refine .que h1 ⟨ho.1,fun x hx=>?_⟩;have:=ho.2 x hx
   cases x with
   | none=>exact .inl this
   | some g =>
    obtain⟨cap,hv,hk⟩:=this;exact .inr ⟨g,0,cap,rfl,hv,by simpa using hk⟩
theorem Trans.que{cx:Cx}{nt0 nt:Nat}{l l':List (Nat × AV)}{out:Bxs}{loc loc':List (Nat × List (List AV))}{tok:Nat->Bool}(sz:Nat)(hl:CvL (QuTo nt sz) l l')(hb:CvB (QuTo nt sz) loc loc'):
  Trans cx nt0 ⟨tl l,lb cx.base out loc,tok,nt⟩ ⟨tl l',lb cx.base out loc',upd tok nt true,nt+1⟩:=by
 intro G0 w0 G a w he hn0 hS hL;have hm:=hS.mem;have hgnt:G.nt=nt:=hm.nt
 have hle:=Le.newtok (G:=G) (w:=w) none;have hm':=hm.newtok none (fun g h=>by cases h)
 have h1:nt<(G.newtok none).nt:=by simp only[Gh.newtok];omega
 have h2:(G.newtok none).tk nt=some none:=by simp only[Gh.newtok];rw[<-hgnt,uS]
 refine⟨G.newtok none,⟨hS.defers,hS.size,fun i=>(hl.at .bot i).rv h1 h2 ((hS.tmps i).mono hle),hm'.rows (fun x y v h hr=>h.rv h1 h2 hr) hb⟩,?_⟩;refine hL.step ⟨hle,fun k hkb hg=>⟨hg,?_⟩⟩;simp only;rw[lO hkb,lO hkb]
section
variable {t sz:Nat}
@[simp] theorem quTo_bot(x:AV):QuTo t sz x .bot:=.bot
@[simp] theorem quTo_same(x:AV):QuTo t sz x x:=.same
@[simp] theorem quTo_nil(n:Nat):QuTo t sz (.osl n [] .full) (.que t sz []):=.nil
@[simp] theorem quTo_tok(t' s:Nat)(es:List (List D)):QuTo t sz (.osl s es (.tok t')) (.que t' s es):=.tok
end
section
variable {p:Nat->Prop} {fz:Option (Nat × Nat × List (List D))}
@[simp] theorem to_mp(t:Nat)(es:List (ByteArray × List (List D) × Own)):To p (fun _=>True) fz (.mp t es) (.mp t es):=.same (.mp trivial fun _ _ _ _=>trivial)
@[simp] theorem to_mpd{q:Nat->Prop}(es:List (ByteArray × List (List D))):To p q fz (.mpd es) (.mpd es):=.same .mpd
@[simp] theorem okIn_mpd{q:Nat->Prop}{es:List (ByteArray × List (List D))}:OkIn p q (.mpd es):=.mpd
end
attribute [simp] fM AV.mpF AV.mpU
def kdP:List Int:=[2,5,6,7,9,10,11]
def wdP:List ByteArray:=[sNot,sEX,sEF,sEG,sAX,sAF,sAG]
theorem run_insI{P:Program}{w:World}{T kt et:TypeId}(h1:P.underlying T=some (.map kt et))(h2:P.underlying kt=some (.int .i64)){en:Array MapEntry}{k:Nat}{ik:Int}{v:Value}(hf:Instr.findNow (.int .i64) (.int .i64 ik) en.toList 0=some none):
  (Instr.mapUpdate T (.map (some w.heap.size)) (.int .i64 ik) v).run P (w.alloc (.map en k))=.ok () (w.alloc (.map (en.push { key:=.int .i64 ik,val:=v,born:=k }) (k+1))):=by
 have hb:(w.alloc (.map en k)).heap[w.heap.size]?=some (.map en k):=by
  show (w.heap.push (.map en k))[w.heap.size]?=_
  simp
 have hc:(Instr.checkKey false 10000 kt (.int .i64 ik)).run P (w.alloc (.map en k))=.ok () (w.alloc (.map en k)):=MapKept.run_checkKey (k:=.int .i64 ik) h2 (by simp[MapKept.IsKey]) _ 9999
 have hk:=MapKept.run_findKey (w:=w.alloc (.map en k)) h2 hf;have hs:∀o,(w.heap.push (.map en k)).setIfInBounds w.heap.size o=w.heap.push o:=fun o=>by
  apply Array.ext
  .simp
  .intro i h3 h4;by_cases e:i=w.heap.size
   .subst e;simp
   .have h5:i<w.heap.size:=by simp at h4;omega
    rw[Array.getElem_setIfInBounds_ne (h:=Ne.symm e),Array.getElem_push_lt h5,Array.getElem_push_lt h5];simp at h4 ⊢;omega
 simp only[Instr.mapUpdate,Sem.run_bind,run_underlying h1,MapKept.run_getObj_map hb,hc,hk,Result.andThen];rw[MapKept.run_setObj_map _ hb];show Result.ok () { w with heap:=(w.heap.push (.map en k)).setIfInBounds w.heap.size _ }=_
 rw[hs];rfl
theorem run_lookI{P:Program}{w:World}{T kt et:TypeId}(h1:P.underlying T=some (.map kt et))(h2:P.underlying kt=some (.int .i64)){en:Array MapEntry}{k:Nat}{ik:Int}{v:Value}{j:Nat}(hf:Instr.findNow (.int .i64) (.int .i64 ik) en.toList 0=some (some (j,v))):
  (Instr.lookup T (.map (some w.heap.size)) (.int .i64 ik) false).run P (w.alloc (.map en k))=.ok v (w.alloc (.map en k)):=by
 have hb:(w.alloc (.map en k)).heap[w.heap.size]?=some (.map en k):=by
  show (w.heap.push (.map en k))[w.heap.size]?=_
  simp
 have hc:∀e,(Instr.checkKey e 10000 kt (.int .i64 ik)).run P (w.alloc (.map en k))=.ok () (w.alloc (.map en k)):=fun e=>MapKept.run_checkKey (k:=.int .i64 ik) h2 (by simp[MapKept.IsKey]) _ 9999
 have hk:=MapKept.run_findKey (w:=w.alloc (.map en k)) h2 hf;simp[Instr.lookup,run_underlying h1,MapKept.run_getObj_map hb,hc,hk,Result.andThen]
theorem wpList_insI{P:Program}{w w':World}{ops:Array Oper}{rest:List Oper}{o:Oper}{a:Act}{Q:Exit->Act->World->Prop}(hg:o.guard=none)(m x v:Operand)(t:TypeId)(hop:o.op=Op.insert t m x v)(hrun:(Instr.mapUpdate t (a.eval m) (a.eval x) (a.eval v)).run P w=.ok () w')(hK:wpList P ops Q rest (a.put o.dst undef) w'):wpList P ops Q (o::rest) a w:=by
 refine wpList_plain hg fun K' hK'=>?_
 unfold Oper.wp;simp[execOp,hop,hrun,Result.andThen];exact hK' _ _ hK
theorem wpList_lookI{P:Program}{w:World}{ops:Array Oper}{rest:List Oper}{o:Oper}{a:Act}{Q:Exit->Act->World->Prop}(hg:o.guard=none)(m x:Operand)(t:TypeId)(hop:o.op=Op.lookup t m x false)(r:Value)(hrun:(Instr.lookup t (a.eval m) (a.eval x) false).run P w=.ok r w)(hK:wpList P ops Q rest (a.put o.dst r) w):wpList P ops Q (o::rest) a w:=by
 refine wpList_plain hg fun K' hK'=>?_
 unfold Oper.wp;simp[execOp,hop,hrun,Result.andThen];exact hK' _ _ hK
end Go.AM
namespace Go.Proofs.YtainalmfffjnjaaGreatDoorX.pfx
open Go Go.Proofs Go.RowKit Go.AM
open Go.Proofs.Tryz
abbrev pfE:Array MapEntry := #[⟨.int .i64 2,.string sNot,0⟩,⟨.int .i64 5,.string sEX,1⟩,⟨.int .i64 6,.string sEF,2⟩,⟨.int .i64 7,.string sEG,3⟩,⟨.int .i64 9,.string sAX,4⟩,⟨.int .i64 10,.string sAF,5⟩,⟨.int .i64 11,.string sAG,6⟩]
set_option maxRecDepth 100000 in
theorem any(k:Int)(s:ByteArray)(j:Nat)(hf:Instr.findNow (.int .i64) (.int .i64 k) pfE.toList 0=some (some (j,.string s)))(w:World):
  Calls prog 188 #[.int .i64 k] w fun e w'=>e=.returned (.string s)/\Below w.heap.size w w':=by
 have hmm:=@run_makeMap prog
 go_enter func188,ntmps188
 go_wp2_with (first
  | (refine wpList_insI rfl _ _ _ _ rfl (run_insI underlying319 underlying3 rfl) ?_)
  | (refine wpList_lookI rfl _ _ _ rfl _ (run_lookI underlying319 underlying3 hf) ?_)
  | go_in)
 go_ret
 exact⟨rfl,(Below.refl _ _).alloc (nr _) _⟩
end Go.Proofs.YtainalmfffjnjaaGreatDoorX.pfx
namespace Go.AM
open Go Go.Proofs
open Go.Proofs.Tryz
set_option maxRecDepth 100000 in
theorem prefixT_c(i:Nat)(hi:i<7)(tok:Tks)(nt:Nat):DCall prog 188 [I (kdP.getD i 0)] tok nt (Sb (wdP.getD i ⟨#[]⟩)) tok nt:=by
 refine DCall.of_below (Enters.mk func188 rfl (by kernel_rfl)) rfl fun G w vals hr=>?_
 obtain⟨hlen,hrv⟩:=hr
 match vals,hlen with
 | [v],_ =>
 have hv:=hrv 0 (by simp) (by simp);simp only[List.getElem_cons_zero] at hv;have:v=.int .i64 (kdP.getD i 0):=by cases hv with|d h=>cases h;rfl
 subst this;have hi7:i=0∨i=1∨i=2∨i=3∨i=4∨i=5∨i=6:=by omega
 rcases hi7 with rfl|rfl|rfl|rfl|rfl|rfl|rfl
 .exact Go.Proofs.YtainalmfffjnjaaGreatDoorX.pfx.any 2 sNot 0 rfl w
 .exact Go.Proofs.YtainalmfffjnjaaGreatDoorX.pfx.any 5 sEX 1 rfl w
 .exact Go.Proofs.YtainalmfffjnjaaGreatDoorX.pfx.any 6 sEF 2 rfl w
 .exact Go.Proofs.YtainalmfffjnjaaGreatDoorX.pfx.any 7 sEG 3 rfl w
 .exact Go.Proofs.YtainalmfffjnjaaGreatDoorX.pfx.any 9 sAX 4 rfl w
 .exact Go.Proofs.YtainalmfffjnjaaGreatDoorX.pfx.any 10 sAF 5 rfl w
 .exact Go.Proofs.YtainalmfffjnjaaGreatDoorX.pfx.any 11 sAG 6 rfl w
theorem pfx_hit{i:Nat}(h:i<7):pfxK (wdP.getD i ⟨#[]⟩)=some (kdP.getD i 0):=by
 have:i=0∨i=1∨i=2∨i=3∨i=4∨i=5∨i=6:=by omega
 rcases this with rfl|rfl|rfl|rfl|rfl|rfl|rfl<;>decide
def NoW(s:ByteArray)(i:Nat):Prop:=∀j,j<i->wdP.getD j ⟨#[]⟩≠s
theorem NoW.succ{s:ByteArray}{i:Nat}(h:NoW s i)(hn:wdP.getD i ⟨#[]⟩≠s):NoW s (i+1):=fun j hj=>by
 by_cases e:j=i
 .subst e;exact hn
 .exact h j (by omega)
theorem pfx_none{s:ByteArray}(h:NoW s 7):pfxK s=none:=by
 unfold pfxK;rw[if_neg (fun e=>h 0 (by decide) e.symm),if_neg (fun e=>h 1 (by decide) e.symm),if_neg (fun e=>h 2 (by decide) e.symm),if_neg (fun e=>h 3 (by decide) e.symm),if_neg (fun e=>h 4 (by decide) e.symm),if_neg (fun e=>h 5 (by decide) e.symm),if_neg (fun e=>h 6 (by decide) e.symm)]
theorem words_mem{s:ByteArray}(h:NoW s 7)(hE:s≠wE)(hA:s≠wA):memS wordsL s=decide (s=wU):=by
 rw[Bool.eq_iff_iff,memS_iff,decide_eq_true_eq];constructor
 .intro hm;have hm:s∈[sNot,sEX,sEF,sEG,sAX,sAF,sAG,wE,wA,wU]:=hm
  simp only[List.mem_cons,List.not_mem_nil,or_false] at hm;rcases hm with e|e|e|e|e|e|e|e|e|e
  .exact absurd e.symm (h 0 (by decide))
  .exact absurd e.symm (h 1 (by decide))
  .exact absurd e.symm (h 2 (by decide))
  .exact absurd e.symm (h 3 (by decide))
  .exact absurd e.symm (h 4 (by decide))
  .exact absurd e.symm (h 5 (by decide))
  .exact absurd e.symm (h 6 (by decide))
  .exact absurd e hE
  .exact absurd e hA
  .exact e
 .rintro rfl;exact memS_iff.1 (by decide)
@[local simp] theorem to_fz{p q:Nat->Prop}:To p q none nilS (.d (fos [])):=.odsub .emp
theorem w_E{w:ByteArray}:w.toList=[69]↔w=wE:=by have h:=seq_iff (a:=w) (b:=wE);simpa[wE] using h
theorem w_A{w:ByteArray}:w.toList=[65]↔w=wA:=by have h:=seq_iff (a:=w) (b:=wA);simpa[wA] using h
set_option maxRecDepth 100000 in
theorem unt_of(L:List Tk)(hL:L.length<=1000000000)(F:RqS->Fo × RqS)(n:Nat)(hF:PrdF prog L 112 F n)(hG:GoesF L F)(k:Int):∀r:RqS,r.Ok L->rem L r<=n->∀(ks:Nat) (box:Bxs),box ks=some [r.row L]->∀(nb:Nat) (tok:Tks) (nt:Nat),
  ACalls prog 189 [.ptr ks 0 0,I k] ⟨box,nb,tok,nt⟩ (QRd (untF L F k r).1.av ((untF L F k r).2.row L) ks box nb tok nt):=by
 intro r h hr ks box hk nb tok nt;have t1:=takeT_c L r h (by omega) sLp ks;have a1:=(AdvS.take h sLp).adv;have hrem:=rem_adv a1;have a2:=hG _ a1.ok;have c1:=hF _ a1.ok (by omega) ks;obtain⟨R,hR⟩:∃R,untF L F k r=R:=⟨_,rfl⟩
 rw[hR];unfold untF at hR;generalize takeR L r sLp=r1 at *;obtain⟨c0,r2,hc0⟩:∃c0 r2,F r1=(c0,r2):=⟨_,_,rfl⟩
 rw[hc0] at c1 a2 hR;simp only at c1 a2 hR;have hrem2:=rem_adv a2;have t3:=takeT_c L r2 a2.ok (by omega) wU ks;have a3:=(AdvS.take a2.ok wU).adv;have hrem3:=rem_adv a3;have c3:=hF _ a3.ok (by omega) ks;have a4:=hG _ a3.ok;generalize takeR L r2 wU=r3 at *;obtain⟨c2,r4,hc2⟩:∃c2 r4,F r3=(c2,r4):=⟨_,_,rfl⟩
 rw[hc2] at c3 a4 hR;simp only at c3 a4 hR;have t5:=takeT_c L r4 a4.ok (by omega) sRp ks;subst hR;refine sI func189 ntmps189 fun Hb Ht=>?_
 have kn:=key_lt Hb hk;have ht0:=TK.start Ht;try (simp)
 repeat (first|(refine sR ?_;simp)|(refine sC ?_;simp)|(refine sX ?_;simp only[AU,↓reduceIte]))
 refine Stop.of_a (t1 _ (by simp only;rw[lO kn];exact hk) _ _ _) ?_;rintro v m ⟨rfl,rfl⟩;try (simp[uL kn])
 repeat (first|(refine sR ?_;simp[uL kn])|(refine sC ?_;simp[uL kn])|(refine sX ?_;simp only[AU,↓reduceIte]))
 refine Stop.of_a (c1 _ (by simp only;rw[lO kn,uS]) _ _ _) ?_;rintro v m ⟨rfl,rfl⟩;try (simp[uL kn,upd_upd])
 repeat (first|(refine sR ?_;simp[uL kn,upd_upd])|(refine sC ?_;simp[uL kn,upd_upd])|(refine sX ?_;simp only[AU,↓reduceIte]))
 refine Stop.of_a (t3 _ (by simp only;rw[lO kn,uS]) _ _ _) ?_;rintro v m ⟨rfl,rfl⟩;try (simp[uL kn,upd_upd])
 repeat (first|(refine sR ?_;simp[uL kn,upd_upd])|(refine sC ?_;simp[uL kn,upd_upd])|(refine sX ?_;simp only[AU,↓reduceIte]))
 refine Stop.of_a (c3 _ (by simp only;rw[lO kn,uS]) _ _ _) ?_;rintro v m ⟨rfl,rfl⟩;try (simp[uL kn,upd_upd])
 repeat (first|(refine sR ?_;simp[uL kn,upd_upd])|(refine sC ?_;simp[uL kn,upd_upd])|(refine sX ?_;simp only[AU,↓reduceIte]))
 refine Stop.of_a (t5 _ (by simp only;rw[lO kn,uS]) _ _ _) ?_;rintro v m ⟨rfl,rfl⟩;try (simp[uL kn,upd_upd])
 repeat (first|(refine sR ?_;simp[uL kn,upd_upd])|(refine sC ?_;simp[uL kn,upd_upd])|(refine sX ?_;simp only[AU,↓reduceIte]))
 refine sT ?_;try simp only[AU]
 have htk:=ht0.full.app;have e1:(Fo.mk k ⟨#[]⟩ [c0,c2]).kind=k:=rfl
 have e2:(Fo.mk k ⟨#[]⟩ [c0,c2]).name=⟨#[]⟩:=rfl
 have e3:(Fo.mk k ⟨#[]⟩ [c0,c2]).kids=[c0,c2]:=rfl
 have e4:fos [c0,c2]=.sl 3 [[.raw (.int .i64 c0.kind),.raw (.string c0.name),fos c0.kids],[.raw (.int .i64 c2.kind),.raw (.string c2.name),fos c2.kids]]:=by simp[Fo.cells_eq c0,Fo.cells_eq c2]
 refine⟨by simp,(Fin.gen (av:=Fo.av (.mk k ⟨#[]⟩ [c0,c2])) (tok':=tok) (nt':=nt) (by simp[resAs,resA,lk];rfl) (by rw[<-uL kn,Hb]) (nr _) htk.le (fun t ht=>⟨htk.old t ht,.inr (Ht t ht)⟩) (outG (by simp)) (by simp[e1,e2,e3,e4])).mono fun v m hq=>?_⟩;exact hq
def stFm(L:List Tk)(r:RqS)(s:ByteArray)(ks nb:Nat)(box:Bxs)(tok:Tks)(nt:Nat)(i:Nat):AS :=
 ⟨tl [(24,.d (ints kdP)),(25,I 7),(26,I i),(3,Sb s),(2,.ptr (nb+2) 0 0),(0,.ptr ks 0 0)],lb nb (upd box ks (some [r.row L])) [(2,[zRowF])],tok,nt⟩
set_option maxRecDepth 100000 in
theorem formula_of(L:List Tk)(hL:L.length<=1000000000)(hT:∀t∈L,t.text.size<=200000000000000)(F:RqS->Fo × RqS)(n:Nat)(hF:PrdF prog L 112 F n)(hG:GoesF L F):PrdF prog L 112 (frmF L F) (n+1):=by
 intro r h hr ks box hk nb tok nt;obtain⟨R,hR⟩:∃R,frmF L F r=R:=⟨_,rfl⟩
 rw[hR];unfold frmF at hR;have pk:=peekT_c L r sLp ks;refine sI func112 ntmps112 fun Hb Ht=>?_
 have kn:=key_lt Hb hk;by_cases hb:r.bad<0
 .rw[if_pos hb] at hR;have hb':¬0<=r.bad:=by omega
  have hls:=list_of L hL F n hF hG r h hb hr ks;try (simp[lO kn,hk,hb,hb'])
  repeat (first|(refine sR ?_;simp[lO kn,hk,hb,hb'])|(refine sC ?_;simp[lO kn,hk,hb,hb'])|(refine sX ?_;simp only[AU,↓reduceIte]))
  refine Stop.of_a (pk _ (by simp only;rw[lO kn];exact hk) _ _ _) ?_;rintro v m ⟨rfl,rfl⟩;cases hp:peekB L r sLp
  .rw[hp] at hR;simp only[Bool.false_eq_true,↓reduceIte] at hR;have w1:=wordT_c L r h (by omega) ks;have a1:=AdvS.kind h 1;have hrem:=rem_advS a1 hb h;have hsz:=kind_sizeF hT r 1;obtain⟨s,r1,hsr⟩:∃s r1,kindR L r 1=(s,r1):=⟨_,_,rfl⟩
   rw[hsr] at w1 a1 hrem hsz hR;simp only at w1 a1 hrem hsz hR;try (simp[hp])
   repeat (first|(refine sR ?_;simp[hp])|(refine sC ?_;simp[hp])|(refine sX ?_;simp only[AU,↓reduceIte]))
   refine Stop.of_a (w1 _ (by simp only;rw[lO kn];exact hk) _ _ _) ?_;rintro v m ⟨rfl,rfl⟩;by_cases hb1:r1.bad<0
   .rw[if_pos hb1] at hR;have hb1':¬0<=r1.bad:=by omega
    try (simp[lO kn,uS,uL kn,hb1,hb1'])
    repeat (first|(refine sR ?_;simp[lO kn,uS,uL kn,hb1,hb1'])|(refine sC ?_;simp[lO kn,uS,uL kn,hb1,hb1'])|(refine sX ?_;simp only[AU,↓reduceIte]))
    refine⟨rfl,?_⟩;refine sN ?_;refine sL (stFm L r1 s ks nb box tok nt) (fun i=>i<=7/\NoW s i) (fun i=>7-i) 0 ⟨Nat.zero_le _,fun j h=>by omega⟩
     (Weaks.mk' (nr _) (by simp[ToL,lk,kdP,ints];exact to_ptr (by rw[lO kn,uS];simp)) (by simp[BoxL,lk]) (outG (by simp))) ?_
    rintro i S ⟨hi,hno⟩ hS;simp only[stFm] at hS;subst hS;have hw:=sW (i:=i) (by omega);have hkl:kdP.length=7:=rfl
    by_cases hlt:i<7
    .have hlt':(i:Int)<7:=by omega
     have hlt2:i<kdP.length:=hlt
     have hpx:=prefixT_c i hlt;have hk1:kdP.getD i 0=kdP[i]:=by simp[hlt2]
     have hph:=pfx_hit hlt;rw[hk1] at hpx hph;obtain⟨wd,hwd⟩:∃wd,wdP.getD i ⟨#[]⟩=wd:=⟨_,rfl⟩
     rw[hwd] at hpx hph;have hsq:=seq_dec s wd;by_cases hs:s=wd
     .have hs':decide (s=wd)=true:=by simp[hs]
      rw[hs'] at hsq;rw[wrdF,hs,hph] at hR;simp only at hR;have c1:=hF r1 a1.ok (by omega) ks;obtain⟨c0,r2,hc0⟩:∃c0 r2,F r1=(c0,r2):=⟨_,_,rfl⟩
      rw[hc0] at c1 hR;simp only at c1 hR;subst hR;try (simp[hlt,hlt',hkl])
      repeat (first|(refine sR ?_;simp[hlt,hlt',hkl])|(refine sC ?_;simp[hlt,hlt',hkl])|(refine sX ?_;simp only[AU,↓reduceIte]))
      refine sD (hpx _ _) ?_;simp;try (simp[hsq])
      repeat (first|(refine sR ?_;simp[hsq])|(refine sC ?_;simp[hsq])|(refine sX ?_;simp only[AU,↓reduceIte]))
      refine Stop.of_a (c1 _ (by simp only;rw[lO kn,uS]) _ _ _) ?_;rintro v m ⟨rfl,rfl⟩;try (simp[uL kn,upd_upd])
      repeat (first|(refine sR ?_;simp[uL kn,upd_upd])|(refine sC ?_;simp[uL kn,upd_upd])|(refine sX ?_;simp only[AU,↓reduceIte]))
      refine sT ?_;try simp only[AU]
      have e1:(Fo.mk kdP[i] ⟨#[]⟩ [c0]).kind=kdP[i]:=rfl
      have e2:(Fo.mk kdP[i] ⟨#[]⟩ [c0]).name=⟨#[]⟩:=rfl
      have e3:(Fo.mk kdP[i] ⟨#[]⟩ [c0]).kids=[c0]:=rfl
      have e4:fos [c0]=.sl 3 [[.raw (.int .i64 c0.kind),.raw (.string c0.name),fos c0.kids]]:=by simp[Fo.cells_eq c0]
      refine⟨by simp,(Fin.gen (av:=Fo.av (.mk kdP[i] ⟨#[]⟩ [c0])) (tok':=tok) (nt':=nt) (by simp[resAs,resA,lk];rfl) (by rw[<-uL kn,Hb]) (nr _) (nr _) (fun t ht=>⟨ht,.inl rfl⟩) (outG (by simp)) (by simp[e1,e2,e3,e4])).mono fun v m hq=>?_⟩;exact hq
     .have hs':decide (s=wd)=false:=by simp[hs]
      rw[hs'] at hsq;try (simp[hlt,hlt',hkl])
      repeat (first|(refine sR ?_;simp[hlt,hlt',hkl])|(refine sC ?_;simp[hlt,hlt',hkl])|(refine sX ?_;simp only[AU,↓reduceIte]))
      refine sD (hpx _ _) ?_;simp;try (simp[hsq,hw])
      repeat (first|(refine sR ?_;simp[hsq,hw])|(refine sC ?_;simp[hsq,hw])|(refine sX ?_;simp only[AU,↓reduceIte]))
      refine sE ?_;exact⟨i+1,⟨hlt,hno.succ (by rw[hwd];exact Ne.symm hs)⟩,by omega,Weaks.mk' (nr _) (by simp[ToL,lk];exact to_ptr (by rw[lO kn,uS];simp)) (by simp[BoxL,lk]) (outG (by simp))⟩
    .have:i=7:=by omega
     subst this;rw[wrdF,pfx_none hno] at hR;simp only at hR;by_cases hE:s=wE
     .have hE':=w_E.2 hE
      rw[if_pos hE] at hR;have u1:=unt_of L hL F n hF hG 8 r1 a1.ok (by omega) ks;try (simp[hE'])
      repeat (first|(refine sR ?_;simp[hE'])|(refine sC ?_;simp[hE'])|(refine sX ?_;simp only[AU,↓reduceIte]))
      refine Stop.of_a (u1 _ (by simp only;rw[lO kn,uS]) _ _ _) ?_;rintro v m ⟨rfl,rfl⟩;rw[<-hR];try (simp[uL kn,upd_upd])
      repeat (first|(refine sR ?_;simp[uL kn,upd_upd])|(refine sC ?_;simp[uL kn,upd_upd])|(refine sX ?_;simp only[AU,↓reduceIte]))
      refine sT ?_;try simp only[AU]
      refine⟨by simp,(Fin.gen (av:=Fo.av (untF L F 8 r1).1) (tok':=tok) (nt':=nt) (by simp[resAs,resA,lk];rfl) (by rw[<-uL kn,Hb]) (nr _) (nr _) (fun t ht=>⟨ht,.inl rfl⟩) (outG (by simp)) (by simp)).mono fun v m hq=>?_⟩;exact hq
     .have hE':¬s.toList=[69]:=fun h=>hE (w_E.1 h)
      rw[if_neg hE] at hR;by_cases hA:s=wA
      .have hA':=w_A.2 hA
       rw[if_pos hA] at hR;have u1:=unt_of L hL F n hF hG 12 r1 a1.ok (by omega) ks;try (simp[hE',hA'])
       repeat (first|(refine sR ?_;simp[hE',hA'])|(refine sC ?_;simp[hE',hA'])|(refine sX ?_;simp only[AU,↓reduceIte]))
       refine Stop.of_a (u1 _ (by simp only;rw[lO kn,uS]) _ _ _) ?_;rintro v m ⟨rfl,rfl⟩;rw[<-hR];try (simp[uL kn,upd_upd])
       repeat (first|(refine sR ?_;simp[uL kn,upd_upd])|(refine sC ?_;simp[uL kn,upd_upd])|(refine sX ?_;simp only[AU,↓reduceIte]))
       refine sT ?_;try simp only[AU]
       refine⟨by simp,(Fin.gen (av:=Fo.av (untF L F 12 r1).1) (tok':=tok) (nt':=nt) (by simp[resAs,resA,lk];rfl) (by rw[<-uL kn,Hb]) (nr _) (nr _) (fun t ht=>⟨ht,.inl rfl⟩) (outG (by simp)) (by simp)).mono fun v m hq=>?_⟩;exact hq
      .have hA':¬s.toList=[65]:=fun h=>hA (w_A.1 h)
       rw[if_neg hA] at hR;have hm:=words_mem hno hE hA;have hct:=containsS_c wordsL s (by decide);rw[hm] at hct;by_cases hU:s=wU
       .rw[if_pos hU] at hR;subst hR;have hU':decide (s=wU)=true:=by simp[hU]
        rw[hU'] at hct;have hw3:IntKind.i64.wrap ((r1.at':Int)-1)=(r1.at':Int)-1:=by have:=a1.ok.a;exact wrap_in (by omega) (by omega)
        try (simp[hE',hA'])
        repeat (first|(refine sR ?_;simp[hE',hA'])|(refine sC ?_;simp[hE',hA'])|(refine sX ?_;simp only[AU,↓reduceIte]))
        refine sD (hct _ _) ?_;simp;try (simp[lO kn,uS,uL kn,upd_upd,hw3])
        repeat (first|(refine sR ?_;simp[lO kn,uS,uL kn,upd_upd,hw3])|(refine sC ?_;simp[lO kn,uS,uL kn,upd_upd,hw3])|(refine sX ?_;simp only[AU,↓reduceIte]))
        refine sT ?_;try simp only[AU]
        refine⟨by simp,(Fin.gen (av:=Fo.av (.mk 1 s [])) (tok':=tok) (nt':=nt) (by simp[resAs,resA,lk];rfl) (by rw[<-uL kn,Hb]) (nr _) (nr _) (fun t ht=>⟨ht,.inl rfl⟩) (outG (by simp)) (by simp[Fo.kind,Fo.name,Fo.kids])).mono fun v m hq=>?_⟩;exact hq
       .rw[if_neg hU] at hR;subst hR;have hU':decide (s=wU)=false:=by simp[hU]
        rw[hU'] at hct;try (simp[hE',hA'])
        repeat (first|(refine sR ?_;simp[hE',hA'])|(refine sC ?_;simp[hE',hA'])|(refine sX ?_;simp only[AU,↓reduceIte]))
        refine sD (hct _ _) ?_;simp;try (simp)
        repeat (first|(refine sR ?_;simp)|(refine sC ?_;simp)|(refine sX ?_;simp only[AU,↓reduceIte]))
        refine sT ?_;try simp only[AU]
        refine⟨by simp,(Fin.gen (av:=Fo.av (.mk 1 s [])) (tok':=tok) (nt':=nt) (by simp[resAs,resA,lk];rfl) (by rw[<-uL kn,Hb]) (nr _) (nr _) (fun t ht=>⟨ht,.inl rfl⟩) (outG (by simp)) (by simp[Fo.kind,Fo.name,Fo.kids])).mono fun v m hq=>?_⟩;exact hq
   .rw[if_neg hb1] at hR;have hb1':0<=r1.bad:=by omega
    subst hR;try (simp[lO kn,uS,uL kn,hb1,hb1'])
    repeat (first|(refine sR ?_;simp[lO kn,uS,uL kn,hb1,hb1'])|(refine sC ?_;simp[lO kn,uS,uL kn,hb1,hb1'])|(refine sX ?_;simp only[AU,↓reduceIte]))
    refine sT ?_;try simp only[AU]
    refine⟨by simp,(Fin.gen (av:=Fo.av zF) (tok':=tok) (nt':=nt) (by simp[resAs,resA,lk];rfl) (by rw[<-uL kn,Hb]) (nr _) (nr _) (fun t ht=>⟨ht,.inl rfl⟩) (outG (by simp)) (by simp[zF,Fo.kind,Fo.name,Fo.kids])).mono fun v m hq=>?_⟩;exact hq
  .rw[hp] at hR;simp only[↓reduceIte] at hR;try (simp[hp])
   repeat (first|(refine sR ?_;simp[hp])|(refine sC ?_;simp[hp])|(refine sX ?_;simp only[AU,↓reduceIte]))
   refine Stop.of_a (hls _ (by simp only;rw[lO kn];exact hk) _ _ _) ?_;rintro v m ⟨rfl,rfl⟩;try (simp[uL kn,upd_upd])
   repeat (first|(refine sR ?_;simp[uL kn,upd_upd])|(refine sC ?_;simp[uL kn,upd_upd])|(refine sX ?_;simp only[AU,↓reduceIte]))
   refine sT ?_;try simp only[AU]
   rw[<-hR];refine⟨by simp,(Fin.gen (av:=Fo.av (listF L F r).1) (tok':=tok) (nt':=nt) (by simp[resAs,resA,lk];rfl) (by rw[<-uL kn,Hb]) (nr _) (nr _) (fun t ht=>⟨ht,.inl rfl⟩) (outG (by simp)) (by simp)).mono fun v m hq=>?_⟩;exact hq
 .rw[if_neg hb] at hR;have hb':0<=r.bad:=by omega
  subst hR;try (simp[lO kn,hk,hb,hb'])
  repeat (first|(refine sR ?_;simp[lO kn,hk,hb,hb'])|(refine sC ?_;simp[lO kn,hk,hb,hb'])|(refine sX ?_;simp only[AU,↓reduceIte]))
  refine sT ?_;try simp only[AU]
  refine⟨by simp,(Fin.gen (av:=Fo.av zF) (tok':=tok) (nt':=nt) (by simp[resAs,resA,lk];rfl) Hb (nr _) (nr _) (fun t ht=>⟨ht,.inl rfl⟩) (fun k rows _ h=>.inl h) (by simp[zF,Fo.kind,Fo.name,Fo.kids])).mono fun v m hq=>?_⟩;exact⟨hq.1,by rw[upd_keep hk];exact hq.2⟩
theorem text_size(s:ByteArray)(h:s.size<=20000):(textR s).size<=20000:=by
 unfold textR;split
 .rw[ByteArray.size_extract];omega
 .rw[ByteArray.size_extract];omega
theorem toksF_ok:∀(f:Nat) (s:ByteArray) (line:Int) (out:List Tk),s.size<=20000->(∀t∈out,t.text.size<=20000)->out.length<=4000->(∀t∈(toksF f s line out).1,t.text.size<=20000)/\(toksF f s line out).1.length<=4000
 | 0,s,line,out,hs,ho,hn=>⟨ho,hn⟩
 | f+1,s,line,out,hs,ho,hn=>by
  unfold toksF;repeat' split
  .exact⟨ho,hn⟩
  .exact toksF_ok f _ _ _ (by rw[dropB_size];omega) ho hn
  .exact toksF_ok f _ _ _ (by rw[dropB_size];omega) ho hn
  .exact toksF_ok f _ _ _ (by rw[dropB_size];omega) ho hn
  .exact⟨by simp,by simp⟩
  .exact⟨by simp,by simp⟩
  .refine toksF_ok f _ _ _ (by rw[dropB_size];omega) (fun t ht=>?_) (by simp;omega);rcases List.mem_append.1 ht with ht|ht
   .exact ho t ht
   .simp at ht;rw[ht];exact text_size s hs
theorem toksR_ok(s:ByteArray):(∀t∈(toksR s).1,t.text.size<=20000)/\(toksR s).1.length<=4000:=by
 unfold toksR;split
 .exact⟨by simp,by simp⟩
 .exact toksF_ok _ _ _ _ (by omega) (by simp) (by simp)
@[local simp] theorem to_fy{p q:Nat->Prop}:To p q none nilS (.d (fos [])):=.odsub .emp
theorem formula_bad(L:List Tk):PrdF prog L 112 (pFrm L 0) 0:=by
 intro r h hr ks box hk nb tok nt;have hb:¬r.bad<0:=rem_zero h (by omega)
 have hb':0<=r.bad:=by omega
 show ACalls prog 112 [.ptr ks 0 0] ⟨box,nb,tok,nt⟩ (QRd zF.av (r.row L) ks box nb tok nt)
 refine sI func112 ntmps112 fun Hb Ht=>?_
 have kn:=key_lt Hb hk;try (simp[lO kn,hk,hb,hb'])
 repeat (first|(refine sR ?_;simp[lO kn,hk,hb,hb'])|(refine sC ?_;simp[lO kn,hk,hb,hb'])|(refine sX ?_;simp only[AU,↓reduceIte]))
 refine sT ?_;try simp only[AU]
 refine⟨by simp,(Fin.gen (av:=Fo.av zF) (tok':=tok) (nt':=nt) (by simp[resAs,resA,lk];rfl) Hb (nr _) (nr _) (fun t ht=>⟨ht,.inl rfl⟩) (fun k rows _ h=>.inl h) (by simp[zF,Fo.kind,Fo.name,Fo.kids])).mono fun v m hq=>?_⟩;exact⟨hq.1,by rw[upd_keep hk];exact hq.2⟩
theorem pF_all(L:List Tk)(hL:L.length<=1000000000)(hT:∀t∈L,t.text.size<=200000000000000):∀n,PrdF prog L 112 (pFrm L n) n
 | 0=>formula_bad L
 | n+1=>formula_of L hL hT (pFrm L n) n (pF_all L hL hT n) (pF_adv L n)
def lineT(L:List Tk)(i:Nat):Int:=match L[i]? with
 | some t=>t.line
 | none=>0
def lineF(L:List Tk)(b:Int):Int:=if L.length=0 then 1 else lineT L (min b ((L.length:Int)-1)).toNat
def badF1(L:List Tk)(r:RqS):Int:=if r.bad<0/\r.at'<L.length then (r.at':Int) else r.bad
def parL(L:List Tk):Fo × Int × Int :=
 if 0<=badF1 L (pFrm L (L.length+1) ⟨0, -1⟩).2 then (zF,lineF L (badF1 L (pFrm L (L.length+1) ⟨0, -1⟩).2),2)
 else if shapeF (pFrm L (L.length+1) ⟨0, -1⟩).1≠0 then (zF,0,shapeF (pFrm L (L.length+1) ⟨0, -1⟩).1) else ((pFrm L (L.length+1) ⟨0, -1⟩).1,0,0)
def parS(s:ByteArray):Fo × Int × Int:=if (toksR s).2.2≠0 then (zF,(toksR s).2.1,(toksR s).2.2) else parL (toksR s).1
set_option maxRecDepth 100000 in
theorem parseT_c(s:ByteArray)(hs:s.size<=200000000000000):DC 48 [Sb s] (.tup [(parS s).1.av,I (parS s).2.1,I (parS s).2.2]):=by
 intro tok nt box nb;have ht:=tokens_c s hs;obtain⟨hT,hL⟩:=toksR_ok s;obtain⟨N,hN⟩:∃N,parS s=N:=⟨_,rfl⟩
 rw[hN];unfold parS at hN;generalize toksR s=K at *;refine sI func48 ntmps48 fun Hb Ht=>?_
 have ht0:=TK.start Ht;repeat first|simp|refine sR ?_
 refine sD (ht _ _) ?_;repeat first|simp|refine sR ?_
 by_cases he:K.2.2=0
 .rw[if_neg (by simp[he])] at hN;have be:(K.2.2 != 0)=false:=by simp[he]
  generalize K.1=L at *;have hT2:∀t∈L,t.text.size<=200000000000000:=fun t h=>by have:=hT t h;omega
  have hr0:(⟨0, -1⟩:RqS).Ok L:=⟨by simp,by simp,by show (-1:Int)<=L.length;omega⟩
  have c1:=pF_all L (by omega) hT2 (L.length+1) ⟨0, -1⟩ hr0 (rem_le L _);have hsz:=(pF_sz (L:=L) (by omega) hT2 (L.length+1)).sz ⟨0, -1⟩ hr0 (rem_le L _);have hsm:=(pF_sz (L:=L) (by omega) hT2 (L.length+1)).sm ⟨0, -1⟩ hr0 (rem_le L _);have hok:=(pF_adv L (L.length+1) ⟨0, -1⟩ hr0).ok;have hrl:=rem_le L ⟨0, -1⟩;unfold parL at hN;obtain⟨f,r,hfr⟩:∃f r,pFrm L (L.length+1) ⟨0, -1⟩=(f,r):=⟨_,_,rfl⟩
  rw[hfr] at c1 hsz hsm hok hN;simp only at c1 hsz hsm hok hN;have hsh:=shapeT_c f (by omega) hsm;simp only[be];try (simp)
  repeat (first|(refine sR ?_;simp)|(refine sC ?_;simp)|(refine sX ?_;simp only[AU,↓reduceIte]))
  refine Stop.of_a (c1 _ _ (by simp[lb_at,lk]) _ _ _) ?_;rintro v m ⟨rfl,rfl⟩;have hoa:=hok.a;have hob:=hok.c;have hwl:IntKind.i64.wrap ((L.length:Int)-1)=(L.length:Int)-1:=wrap_in (by omega) (by omega)
  have key:∀b:Int,0<=b->0<L.length->∃j:Nat,∃h:j<L.length,min b ((L.length:Int)-1)=(j:Int)/\lineF L b=L[j].line:=by
   intro b h0 h1;refine⟨(min b ((L.length:Int)-1)).toNat,by omega,by omega,?_⟩;unfold lineF lineT;rw[if_neg (by omega),List.getElem?_eq_getElem (show (min b ((L.length:Int)-1)).toNat<L.length by omega)]
  by_cases hb:r.bad<0
  .by_cases hlt:r.at'<L.length
   .have hlt':(r.at':Int)<L.length:=by omega
    have hbf:badF1 L r=(r.at':Int):=by unfold badF1;rw[if_pos ⟨hb,hlt⟩]
    rw[hbf,if_pos (by omega)] at hN;obtain⟨j,hj,hmn,hln⟩:=key r.at' (by omega) (by omega);have hpos:0<L.length:=by omega
    have hpos':(0:Int)<L.length:=by omega
    have hj':(j:Int)<L.length:=by omega
    rw[hln] at hN;subst hN;try (simp[lk,hb,hlt,hlt',hpos,hpos',hwl,hmn,hj,hj'])
    repeat (first|(refine sR ?_;simp[lk,hb,hlt,hlt',hpos,hpos',hwl,hmn,hj,hj'])|(refine sC ?_;simp[lk,hb,hlt,hlt',hpos,hpos',hwl,hmn,hj,hj'])|(refine sX ?_;simp only[AU,↓reduceIte]))
    refine sT (sH Hb Ht ?_);simp[zF,Fo.kind,Fo.name,Fo.kids]
   .have hlt':¬(r.at':Int)<L.length:=by omega
    have hbf:badF1 L r=r.bad:=by unfold badF1;rw[if_neg (fun h=>hlt h.2)]
    have hb':¬0<=r.bad:=by omega
    rw[hbf,if_neg hb'] at hN;try (simp[lk,hb,hlt,hlt',hb'])
    repeat (first|(refine sR ?_;simp[lk,hb,hlt,hlt',hb'])|(refine sC ?_;simp[lk,hb,hlt,hlt',hb'])|(refine sX ?_;simp only[AU,↓reduceIte]))
    refine sD (hsh _ _) ?_;simp[Fo.cells_eq];by_cases h0:shapeF f=0
    .rw[if_neg (by simp[h0])] at hN;subst hN;have b0:(shapeF f != 0)=false:=by simp[h0]
     try (simp[b0])
     repeat (first|(refine sR ?_;simp[b0])|(refine sC ?_;simp[b0])|(refine sX ?_;simp only[AU,↓reduceIte]))
     refine sT (sH Hb Ht ?_);simp
    .rw[if_pos h0] at hN;subst hN;have b0:(shapeF f != 0)=true:=by simpa using h0
     try (simp[b0])
     repeat (first|(refine sR ?_;simp[b0])|(refine sC ?_;simp[b0])|(refine sX ?_;simp only[AU,↓reduceIte]))
     refine sT (sH Hb Ht ?_);simp[zF,Fo.kind,Fo.name,Fo.kids]
  .have hbf:badF1 L r=r.bad:=by unfold badF1;rw[if_neg (fun h=>hb h.1)]
   have hb':0<=r.bad:=by omega
   rw[hbf,if_pos hb'] at hN;by_cases hpos:0<L.length
   .have hpos':(0:Int)<L.length:=by omega
    obtain⟨j,hj,hmn,hln⟩:=key r.bad hb' hpos;have hj':(j:Int)<L.length:=by omega
    rw[hln] at hN;subst hN;try (simp[lk,hb,hb',hpos,hpos',hwl,hmn,hj,hj'])
    repeat (first|(refine sR ?_;simp[lk,hb,hb',hpos,hpos',hwl,hmn,hj,hj'])|(refine sC ?_;simp[lk,hb,hb',hpos,hpos',hwl,hmn,hj,hj'])|(refine sX ?_;simp only[AU,↓reduceIte]))
    refine sT (sH Hb Ht ?_);simp[zF,Fo.kind,Fo.name,Fo.kids]
   .have hpos':¬(0:Int)<L.length:=by omega
    have hln:lineF L r.bad=1:=by unfold lineF;rw[if_pos (by omega)]
    rw[hln] at hN;subst hN;try (simp[lk,hb,hb',hpos,hpos'])
    repeat (first|(refine sR ?_;simp[lk,hb,hb',hpos,hpos'])|(refine sC ?_;simp[lk,hb,hb',hpos,hpos'])|(refine sX ?_;simp only[AU,↓reduceIte]))
    refine sT (sH Hb Ht ?_);simp[zF,Fo.kind,Fo.name,Fo.kids]
 .rw[if_pos he] at hN;have be:(K.2.2 != 0)=true:=by simpa using he
  subst hN;simp only[be];try (simp)
  repeat (first|(refine sR ?_;simp)|(refine sC ?_;simp)|(refine sX ?_;simp only[AU,↓reduceIte]))
  refine sT (sH Hb Ht ?_);simp[zF,Fo.kind,Fo.name,Fo.kids]
open Go Go.Proofs Go.Shelf
open Go.Proofs.Tryz
abbrev Wk:=Int × ByteArray
abbrev Tk.kt(t:Tk):Wk:=(t.kind,t.text)
def whL(s:List UInt8):Prop:=∀b r,s=b::r->b=32∨b=10∨b=9
theorem whL_nil:whL []:=fun b r h=>by cases h
theorem whL_sp(s:List UInt8):whL (32::s):=fun b r h=>by cases h;exact .inl rfl
theorem whL_nl(s:List UInt8):whL (10::s):=fun b r h=>by cases h;exact .inr (.inl rfl)
theorem whL_tb(s:List UInt8):whL (9::s):=fun b r h=>by cases h;exact .inr (.inr rfl)
def wdB(w:Wk):Bool:=(decide (w.1=1)&&nameB w.2)||(decide (w.1=4)&&(decide (w.2=sLp)||decide (w.2=sRp)||(decide (w.2=sAm)||decide (w.2=sBr))))
theorem take_stop{q:UInt8->Bool}{s:List UInt8}(h:∀b r,s=b::r->q b=false):s.takeWhile q=[]:=by
 cases s with
 | nil=>rfl
 | cons b r=>rw[List.takeWhile_cons,if_neg (by rw[h b r rfl];simp)]
theorem run_word{p:Int->Bool}{t w:ByteArray}{s:List UInt8}(ht:t.data.toList=w.data.toList++s)(hw:runN p w 0=w.size)(hp:p 32=false/\p 10=false/\p 9=false)(hs:whL s):runN p t 0=w.size:=by
 unfold runN at hw ⊢;rw[List.drop_zero] at hw ⊢;have hall:w.data.toList.takeWhile (fun b=>p (b.toNat:Int))=w.data.toList:=by
  have:=(List.takeWhile_prefix (l:=w.data.toList) (fun b=>p (b.toNat:Int))).eq_of_length (by rw[hw,sz_list])
  exact this
 have hst:s.takeWhile (fun b=>p (b.toNat:Int))=[]:=take_stop fun b r h=>by
  rcases hs b r h with rfl|rfl|rfl
  .exact hp.1
  .exact hp.2.1
  .exact hp.2.2
 rw[ht,List.takeWhile_append,hall,if_pos rfl,hst,List.append_nil,sz_list]
theorem byte_word{t w:ByteArray}{s:List UInt8}(ht:t.data.toList=w.data.toList++s){i:Nat}(h:i<w.size):byteAt t i=byteAt w i:=by
 have hl:i<w.data.toList.length:=by rw[sz_list];exact h
 simp only[byteAt,ht,List.getD_eq_getElem?_getD,List.getElem?_append_left hl]
theorem cut_word{t w:ByteArray}{s:List UInt8}(ht:t.data.toList=w.data.toList++s):t.extract 0 w.size=w:=ba_ext (by
 rw[ba_cut,ht,List.drop_zero,Nat.sub_zero];have:w.size=w.data.toList.length:=(sz_list w).symm
 rw[this,List.take_left])
theorem sz_word{t w:ByteArray}{s:List UInt8}(ht:t.data.toList=w.data.toList++s):t.size=w.size+s.length:=by
 rw[<-sz_list,ht,List.length_append,sz_list]
structure Word (t:ByteArray) (w:Wk):Prop where
 pos:1<=w.2.size
 c:¬byteAt t 0=10/\¬whiB (byteAt t 0)=true/\¬byteAt t 0=35
 next:nextR t=(w.1,(w.2.size:Int),0)
 text:textR t=w.2
theorem let_not{c:Int}(h:letB c=true):¬c=10/\¬whiB c=true/\¬c=35:=by
 simp only[letB,decide_eq_true_eq] at h;simp only[whiB,decide_eq_true_eq];omega
theorem text_word{t:ByteArray}{w:Wk}{s:List UInt8}(ht:t.data.toList=w.2.data.toList++s)(hn:nextR t=(w.1,(w.2.size:Int),0))(h3:w.1≠3):textR t=w.2:=by
 unfold textR;rw[hn];simp only;rw[if_neg h3,Int.toNat_natCast];exact cut_word ht
theorem sign_word{t:ByteArray}{b:UInt8}{s:List UInt8}(ht:t.data.toList=(⟨#[b]⟩:ByteArray).data.toList++s)(hb:b=40∨b=41∨b=38∨b=124):Word t (4,⟨#[b]⟩):=by
 have ht':t.data.toList=b::s:=ht
 have h0:byteAt t 0=(b.toNat:Int):=by simp[byteAt,ht']
 have hp:pairB t=false:=by
  unfold pairB;by_cases h2:2<=t.size
  .have hm:t.extract 0 2∉pairL:=fun hm=>by
    have h1:(t.extract 0 2).data.toList.getD 0 0=b:=by rw[ba_cut,ht'];rfl
    simp only[pairL,List.mem_cons,List.not_mem_nil,or_false] at hm;rcases hm with e|e|e|e|e<;>rw[e] at h1<;>rcases hb with rfl|rfl|rfl|rfl<;>exact absurd h1 (by decide)
   have:memS pairL (t.extract 0 2)=false:=by
    cases hx:memS pairL (t.extract 0 2) with
    | false=>rfl
    | true=>exact absurd (memS_iff.1 hx) hm
   rw[this,Bool.and_false]
  .rw[decide_eq_false h2,Bool.false_and]
 have hn:nextR t=(4,1,0):=by
  unfold nextR;rw[h0,hp];rcases hb with rfl|rfl|rfl|rfl
  .rfl
  .rfl
  .rfl
  .rfl
 refine⟨nr _,?_,hn,?_⟩
 .rw[h0];rcases hb with rfl|rfl|rfl|rfl<;>decide
 .exact text_word (w:=(4,⟨#[b]⟩)) ht hn (by show (4:Int)≠3;decide)
theorem word_of{w:Wk}(hw:wdB w=true){t:ByteArray}{s:List UInt8}(hs:whL s)(ht:t.data.toList=w.2.data.toList++s):Word t w:=by
 obtain⟨k,w⟩:=w;have ht:t.data.toList=w.data.toList++s:=ht
 simp only[wdB,Bool.or_eq_true,Bool.and_eq_true,decide_eq_true_eq] at hw;rcases hw with ⟨rfl,hn⟩|⟨rfl,hg⟩
 .simp only[nameB,Bool.and_eq_true,decide_eq_true_eq] at hn;obtain⟨⟨⟨h1,h20⟩,hl⟩,hr⟩:=hn;have hb:=byte_word ht (show 0<w.size by omega);have hru:runN parB t 0=w.size:=run_word ht hr ⟨by decide,by decide,by decide⟩ hs
  have hx:nextR t=(1,(w.size:Int),0):=by
   unfold nextR;rw[hb,if_pos hl,hru,if_neg (by omega)]
  exact⟨h1,by rw[hb];exact let_not hl,hx,text_word (w:=(1,w)) ht hx (by show (1:Int)≠3;decide)⟩
 .rcases hg with (rfl|rfl)|rfl|rfl
  .exact sign_word ht (.inl rfl)
  .exact sign_word ht (.inr (.inl rfl))
  .exact sign_word ht (.inr (.inr (.inl rfl)))
  .exact sign_word ht (.inr (.inr (.inr rfl)))
inductive Lay (q:Bool):List UInt8->List Wk->Prop
 | nil:Lay q [] []
 | nl {s ws}:Lay q s ws->Lay q (10::s) ws
 | wh {s ws} {b:UInt8}:b=32∨b=9->Lay q s ws->Lay q (b::s) ws
 | cm {s ws} (c:List UInt8):q=true->(∀x∈c,x≠10)->Lay q s ws->Lay q (35::(c++10::s)) ws
 | wd {s ws} (w:Wk):wdB w=true->whL s->Lay q s ws->Lay q (w.2.data.toList++s) (w::ws)
theorem byte_cons{s:ByteArray}{b:UInt8}{r:List UInt8}(h:s.data.toList=b::r):byteAt s 0=(b.toNat:Int)/\¬s.size=0/\s.size=r.length+1/\(dropB s 1).data.toList=r:=by
 have hz:s.size=r.length+1:=by rw[<-sz_list,h,List.length_cons]
 refine⟨by simp[byteAt,h],by omega,hz,?_⟩;rw[dropB_list,h];rfl
theorem u8_ten{x:UInt8}(h:x≠10):nlB (x.toNat:Int)=true:=by
 have:x.toNat≠10:=fun e=>h (UInt8.toNat_inj.1 e)
 simp only[nlB,bne_iff_ne,ne_eq];omega
theorem run_cm{s:ByteArray}{c r:List UInt8}(h:s.data.toList=35::(c++10::r))(hc:∀x∈c,x≠10):runN nlB s 0=c.length+1:=by
 unfold runN;rw[List.drop_zero,h];have h2:(c++10::r).takeWhile (fun b=>nlB (b.toNat:Int))=c:=by
  rw[List.takeWhile_append_of_pos (fun x hx=>u8_ten (hc x hx)),List.takeWhile_cons,if_neg (by decide),List.append_nil]
 rw[List.takeWhile_cons,if_pos (by decide),h2,List.length_cons]
theorem Lay.toks{q:Bool}{l:List UInt8}{ws:List Wk}(h:Lay q l ws):∀(f:Nat) (s:ByteArray) (line:Int) (out:List Tk),s.data.toList=l->s.size<=f->out.length+ws.length<=4000 ->
  ∃T:List Tk,toksF f s line out=(out++T,0,0)/\T.map Tk.kt=ws:=by
 induction h with
 | nil =>
  intro f s line out hl hf ho;have hz:s.size=0:=by rw[<-sz_list,hl];rfl
  exact⟨[],by rw[toksF_end hz,List.append_nil],rfl⟩
 | @nl s0 ws0 h ih =>
  intro f s line out hl hf ho;obtain⟨b0,b1,b2,b3⟩:=byte_cons hl;obtain⟨f,rfl⟩:∃g,f=g+1:=⟨f-1,by omega⟩
  rw[toksF_nl b1 (by rw[b0];rfl)];exact ih f _ _ _ b3 (by rw[dropB_size];omega) ho
 | @wh s0 ws0 b hb h ih =>
  intro f s line out hl hf ho;obtain⟨b0,b1,b2,b3⟩:=byte_cons hl;obtain⟨f,rfl⟩:∃g,f=g+1:=⟨f-1,by omega⟩
  rw[toksF_wh b1 (by rw[b0];rcases hb with rfl|rfl<;>decide) (by rw[b0];rcases hb with rfl|rfl<;>decide)];exact ih f _ _ _ b3 (by rw[dropB_size];omega) ho
 | @cm s0 ws0 c hq hc h ih =>
  intro f s line out hl hf ho;obtain⟨b0,b1,b2,b3⟩:=byte_cons hl;obtain⟨f,rfl⟩:∃g,f=g+1:=⟨f-1,by omega⟩
  rw[toksF_cm b1 (by rw[b0];rfl),run_cm hl hc];have hd:(dropB s (c.length+1)).data.toList=10::s0:=by
   rw[dropB_list,hl,List.drop_succ_cons,List.drop_left]
  obtain⟨d0,d1,d2,d3⟩:=byte_cons hd;have hz:=dropB_size s (c.length+1);obtain⟨f,rfl⟩:∃g,f=g+1:=⟨f-1,by omega⟩
  rw[toksF_nl d1 (by rw[d0];rfl)];exact ih f _ _ _ d3 (by rw[dropB_size];omega) ho
 | @wd s0 ws0 w hw hs h ih =>
  intro f s line out hl hf ho;obtain⟨h1,⟨c1,c2,c3⟩,hn,ht⟩:=word_of hw hs hl;have hz:=sz_word hl;obtain⟨f,rfl⟩:∃g,f=g+1:=⟨f-1,by omega⟩
  rw[List.length_cons] at ho;rw[toksF_tk (by omega) c1 c2 c3,hn,ht];simp only;rw[if_neg (by simp),if_neg (by omega),Int.toNat_natCast];obtain⟨T,e1,e2⟩:=ih f (dropB s w.2.size) line (out++[⟨w.1,w.2,line⟩]) (by rw[dropB_list,hl,<-sz_list w.2,List.drop_left]) (by rw[dropB_size];omega) (by rw[List.length_append,List.length_singleton];omega);refine⟨⟨w.1,w.2,line⟩::T,by rw[e1,List.append_assoc,List.singleton_append],?_⟩;rw[List.map_cons,e2]
theorem Lay.toksR{q:Bool}{s:ByteArray}{ws:List Wk}(h:Lay q s.data.toList ws)(hs:s.size<=20000)(hl:ws.length<=4000):∃T:List Tk,toksR s=(T,0,0)/\T.map Tk.kt=ws:=by
 obtain⟨T,e1,e2⟩:=h.toks s.size s 1 [] rfl (nr _) (by simpa using hl);exact⟨T,by rw[AM.toksR,if_neg (by omega),e1,List.nil_append],e2⟩
def PutW(q:Bool)(x:ByteArray)(a:List Wk):Prop:=∀s ws,whL s->Lay q s ws->Lay q (x.data.toList++s) (a++ws)
theorem ba_app_list(a b:ByteArray):(a++b).data.toList=a.data.toList++b.data.toList:=by
 rw[ByteArray.data_append,Array.toList_append]
theorem putW_word{q:Bool}{w:Wk}(h:wdB w=true):PutW q w.2 [w]:=fun s ws hw hs=>.wd w h hw hs
theorem PutW.sp{q:Bool}{x y:ByteArray}{a b:List Wk}(h:PutW q x a)(k:PutW q y b):PutW q (x++(⟨#[32]⟩++y)) (a++b):=fun s ws hw hs=>by
 rw[ba_app_list,ba_app_list,List.append_assoc,List.append_assoc,List.append_assoc];exact h _ _ (whL_sp _) (.wh (.inl rfl) (k _ _ hw hs))
end Go.AM
