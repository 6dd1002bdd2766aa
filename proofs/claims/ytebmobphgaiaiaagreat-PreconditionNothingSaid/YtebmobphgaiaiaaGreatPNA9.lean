/-
 Parts of the proof, as merged from many texts: a machine over data, what the functions compute, plain laws.
-/
import Derived.Test.YtebmobphgaiaiaaGreatPNA8
set_option linter.unusedSimpArgs false
set_option linter.unusedVariables false
namespace Go.AM
open Go Go.Proofs
open Go.Proofs.Tryz
def stH7(xs:List Int)(v:Int)(nb:Nat)(box:Bxs)(tok:Tks)(nt:Nat)(i:Nat):AS:=⟨tl [(0,.d (ints xs)),(1,I v),(5,I i)],lb nb box [],tok,nt⟩
theorem has07_c(xs:List Int)(v:Int)(hx:xs.length<=1000000):DC 242 [.d (ints xs),I v] (B (decide (v∈xs))):=by
 intro tok nt box nb;refine sI func242 ntmps242 fun Hb Ht=>?_
 refine sR ?_;simp;refine sR ?_;simp;refine sN ?_;refine sL (stH7 xs v nb box tok nt) (fun i=>i<=xs.length/\v∉xs.take i) (fun i=>xs.length-i) 0 ⟨Nat.zero_le _,by simp⟩ (wM (nr _) rfl (by simp[ToL]) trivial) ?_;rintro i S ⟨hi,htk⟩ hS;simp only[stH7] at hS;subst hS;have hw:=sW (i:=i) (by omega);refine sR ?_;simp;refine sC ?_;simp;refine⟨fun hlt=>?_,fun hge=>?_⟩
 .refine sR ?_;simp[hlt];refine sC ?_;simp;refine⟨fun he=>?_,fun hne=>?_⟩
  .refine sR ?_;simp;have hmem:v∈xs:=by rw[<-he];exact List.getElem_mem _
   refine sT (sH Hb Ht ?_);simp[hmem]
  .refine sR ?_;simp[hw];refine sE ?_;refine⟨i+1,⟨hlt,?_⟩,by omega,wM (nr _) rfl (by simp[ToL]) trivial⟩;rw[List.take_succ_eq_append_getElem hlt];simp only[List.mem_append,List.mem_singleton,not_or];exact⟨htk,fun e=>hne e.symm⟩
 .refine sX ?_;simp only[AU,↓reduceIte];refine sR ?_;simp;have hn:v∉xs:=by rwa [List.take_of_length_le hge] at htk
  refine sT (sH Hb Ht ?_);simp[hn]
def stI7(xs:List Int)(v:Int)(nb:Nat)(box:Bxs)(tok:Tks)(nt:Nat)(i:Nat):AS:=⟨tl [(0,.d (ints xs)),(1,I v),(5,I i)],lb nb box [],tok,nt⟩
theorem index07_c(xs:List Int)(v:Int)(hx:xs.length<=1000000):DC 105 [.d (ints xs),I v] (I (indexI xs v)):=by
 intro tok nt box nb;refine sI func105 ntmps105 fun Hb Ht=>?_
 refine sR ?_;simp;refine sR ?_;simp;refine sN ?_;refine sL (stI7 xs v nb box tok nt) (fun i=>i<=xs.length/\v∉xs.take i) (fun i=>xs.length-i) 0 ⟨Nat.zero_le _,by simp⟩ (wM (nr _) rfl (by simp[ToL]) trivial) ?_;rintro i S ⟨hi,htk⟩ hS;simp only[stI7] at hS;subst hS;have hw:=sW (i:=i) (by omega);refine sR ?_;simp;refine sC ?_;simp;refine⟨fun hlt=>?_,fun hge=>?_⟩
 .have hsp:xs=xs.take i++xs[i]::xs.drop (i+1):=by simp
  refine sR ?_;simp[hlt];refine sC ?_;simp;refine⟨fun he=>?_,fun hne=>?_⟩
  .refine sR ?_;simp;have hmem:v∈xs:=by rw[<-he];exact List.getElem_mem _
   have hid:xs.idxOf v=i:=by
    unfold List.idxOf;rw[List.findIdx_eq hlt];refine⟨by simp[he],fun j hj=>?_⟩;have:xs[j]≠v:=fun e=>htk (by rw[<-e,List.mem_take_iff_getElem];exact⟨j,by omega,rfl⟩)
    simpa using this
   refine sT (sH Hb Ht ?_);simp[indexI,hmem,hid]
  .refine sR ?_;simp[hw];refine sE ?_;refine⟨i+1,⟨hlt,?_⟩,by omega,wM (nr _) rfl (by simp[ToL]) trivial⟩;rw[List.take_succ_eq_append_getElem hlt];simp only[List.mem_append,List.mem_singleton,not_or];exact⟨htk,fun e=>hne e.symm⟩
 .refine sX ?_;simp only[AU,↓reduceIte];refine sR ?_;simp;have hn:v∉xs:=by rwa [List.take_of_length_le hge] at htk
  refine sT (sH Hb Ht ?_);simp[indexI,hn]
def stAs(l:List Int)(n:Int)(nb:Nat)(box:Bxs)(tok:Tks)(nt:Nat)(i:Nat):AS:=⟨tl [(0,.d (ints l)),(1,I n),(5,I i)],lb nb box [],tok,nt⟩
theorem asc07_c(l:List Int)(n:Int)(hl:l.length<=1000000):DC 241 [.d (ints l),I n] (I (ascE l n)):=by
 intro tok nt box nb;refine sI func241 ntmps241 fun Hb Ht=>?_
 repeat first|simp|refine sR ?_
 refine sN ?_;refine sL (stAs l n nb box tok nt) (fun i=>i<=l.length/\firstE (ascAt l n) i=0) (fun i=>l.length-i) 0 ⟨Nat.zero_le _,rfl⟩ (wM (nr _) rfl (by simp[ToL]) trivial) ?_;rintro i S ⟨hi,hok⟩ hS;simp only[stAs] at hS;subst hS;have hw:=sW (i:=i) (by omega);have hR:i<l.length->ascAt l n i≠0->ascE l n=ascAt l n i:=fun hlt h0=>firstE_stop hok h0 l.length hlt
 repeat first|simp|refine sR ?_|refine sC ?_
 refine⟨fun hlt=>?_,fun hge=>?_⟩
 .have hg:l.getD i 0=l[i]:=by simp[hlt]
  have hR:=hR hlt;have hA:ascAt l n i=if l[i]<0∨n<=l[i] then 6 else if 0<i/\l[i]<=l.getD (i-1) 0 then 12 else 0:=by rw[ascAt,hg]
  repeat first|simp[hlt]|refine sR ?_
  by_cases hneg:l[i]<0
  .repeat first|simp[hneg,hlt]|refine sR ?_
   refine sC ?_;repeat first|simp|refine sR ?_
   rw[hA,if_pos (.inl hneg)] at hR;have hR:=hR (by decide);refine sT (sH Hb Ht ?_);simp[hR]
  .repeat first|simp[hneg,hlt]|refine sR ?_
   by_cases hbig:n<=l[i]
   .simp only[hbig];refine sC ?_;repeat first|simp|refine sR ?_
    rw[hA,if_pos (.inr hbig)] at hR;have hR:=hR (by decide);refine sT (sH Hb Ht ?_);simp[hR]
   .simp only[hbig];rw[if_neg (by omega)] at hA;refine sC ?_;simp;by_cases h0:0<i
    .have hw':IntKind.i64.wrap (↑i-1)=((i-1:Nat):Int):=by rw[wrap_in (by omega) (by omega)];omega
     have hlt':i-1<l.length:=by omega
     have hg':l.getD (i-1) 0=l[i-1]:=by simp[hlt']
     rw[hg'] at hA;repeat first|simp[hlt,h0,hw',hlt']|refine sR ?_
     by_cases hle:l[i]<=l[i-1]
     .rw[if_pos ⟨h0,hle⟩] at hA;rw[hA] at hR;have hR:=hR (by decide);simp only[hle];refine sC ?_;repeat first|simp|refine sR ?_
      refine sT (sH Hb Ht ?_);simp[hR]
     .rw[if_neg (by omega)] at hA;simp only[hle];refine sC ?_;simp;repeat first|simp[hw]|refine sR ?_
      refine sE ?_;exact⟨i+1,⟨hlt,by simp only[firstE,hok,hA,↓reduceIte]⟩,by omega,wM (nr _) rfl (by simp[ToL]) trivial⟩
    .rw[if_neg (by omega)] at hA;repeat first|simp[hlt,h0]|refine sR ?_
     refine sC ?_;simp;repeat first|simp[hw]|refine sR ?_
     refine sE ?_;exact⟨i+1,⟨hlt,by simp only[firstE,hok,hA,↓reduceIte]⟩,by omega,wM (nr _) rfl (by simp[ToL]) trivial⟩
 .refine sX ?_;simp only[AU,↓reduceIte];repeat first|simp|refine sR ?_
  have:i=l.length:=by omega
  subst this;refine sT (sH Hb Ht ?_);simp[ascE,hok]
def stRi(g:Gr)(p:Mo)(nb:Nat)(box:Bxs)(tok:Tks)(nt:Nat)(i:Nat):AS :=
 ⟨tl [(7,I i),(3,.ptr (nb+3) 0 0),(2,.ptr (nb+2) 0 0)],lb nb box [(3,[[.d (ints p.nodes),.d (ints p.edges)]]),(2,[[.d (ints g.nodes),.d (AM.edges g.edges)]])],tok,nt⟩
theorem right07_c(g:Gr)(p:Mo)(hg:g.Fit)(hv:vG g=0)(hp:p.Fit):DC 186 [g.av,p.av] (I (rightP g p)):=by
 intro tok nt box nb;have h1:=asc07_c p.nodes g.nodes.length hp.n;have h2:=asc07_c p.edges g.edges.length hp.e;refine sI func186 ntmps186 fun Hb Ht=>?_
 repeat first|simp|refine sR ?_
 refine sD (h1 _ _) ?_;repeat first|simp|refine sR ?_
 by_cases e1:ascE p.nodes g.nodes.length=0
 .simp only[e1];refine sC ?_;repeat first|simp|refine sR ?_
  refine sD (h2 _ _) ?_;repeat first|simp|refine sR ?_
  by_cases e2:ascE p.edges g.edges.length=0
  .simp only[e2];refine sC ?_;repeat first|simp|refine sR ?_
   refine sN ?_;have re:=asc_rng e2;refine sL (stRi g p nb box tok nt) (fun i=>i<=p.edges.length/\firstE (dangAt g p) i=0) (fun i=>p.edges.length-i) 0 ⟨Nat.zero_le _,rfl⟩ wkA ?_;rintro i S ⟨hi,hok⟩ hS;simp only[stRi] at hS;subst hS;have hpe:=hp.e;have hw:=sW (i:=i) (by omega);have hR:i<p.edges.length->dangAt g p i≠0->rightP g p=dangAt g p i:=fun hlt h0=>by
    have:=firstE_stop hok h0 p.edges.length hlt
    simp[rightP,e1,e2,this]
   repeat first|simp|refine sR ?_|refine sC ?_
   refine⟨fun hlt=>?_,fun hge=>?_⟩
   .have hR:=hR hlt;obtain⟨r1,r2⟩:=re _ (List.getElem_mem hlt);have r3:p.edges[i].toNat<g.edges.length:=by omega
    have hD:dangAt g p i=if g.edges[p.edges[i].toNat].fr∈p.nodes/\g.edges[p.edges[i].toNat].to∈p.nodes then 0 else 14:=by
     have q1:p.edges.getD i 0=p.edges[i]:=by simp[hlt]
     have q2:g.edges.getD p.edges[i].toNat default=g.edges[p.edges[i].toNat]:=by simp[r3]
     rw[dangAt,q1,q2]
    have hh:=fun v=>has07_c p.nodes v hp.n
    refine sN ?_;refine AL.region2 follows_Tryz (nr _) (by kernel_rfl) (Side.of (by simp)) ?_;simp[hlt,r1,r2,r3];generalize g.edges[p.edges[i].toNat]=x at *;repeat first|simp|refine sR ?_
    refine sD (hh _ _ _) ?_;simp;by_cases h1:x.fr∈p.nodes
    .simp only[h1];repeat first|simp|refine sR ?_
     refine sD (hh _ _ _) ?_;simp;by_cases h2:x.to∈p.nodes
     .rw[if_pos ⟨h1,h2⟩] at hD;simp only[h2];repeat first|simp[hw]|refine sR ?_|refine sC ?_
      refine sE ?_;exact⟨i+1,⟨hlt,by simp only[firstE,hok,hD,↓reduceIte]⟩,by omega,wkA⟩
     .rw[if_neg (fun h=>h2 h.2)] at hD;rw[hD] at hR;have hR:=hR (by decide);simp only[h2];repeat first|simp|refine sR ?_
      refine sC ?_;repeat first|simp|refine sR ?_
      refine sT (sH Hb Ht ?_);simp[hR]
    .rw[if_neg (fun h=>h1 h.1)] at hD;rw[hD] at hR;have hR:=hR (by decide);simp only[h1];repeat first|simp|refine sR ?_
     refine sC ?_;repeat first|simp|refine sR ?_
     refine sT (sH Hb Ht ?_);simp[hR]
   .refine sX ?_;simp only[AU,↓reduceIte];repeat first|simp|refine sR ?_
    have:i=p.edges.length:=by omega
    subst this;refine sT (sH Hb Ht ?_);simp[rightP,e1,e2,hok]
  .have b2:(ascE p.edges g.edges.length != 0)=true:=by simp[e2]
   simp only[b2];refine sC ?_;repeat first|simp|refine sR ?_
   refine sT (sH Hb Ht ?_);simp[rightP,e1,e2]
 .have b1:(ascE p.nodes g.nodes.length != 0)=true:=by simp[e1]
  simp only[b1];refine sC ?_;repeat first|simp|refine sR ?_
  refine sT (sH Hb Ht ?_);simp[rightP,e1]
theorem valid07_c(g:Gr)(p:Mo)(hg:g.Fit)(hp:p.Fit):DC 104 [g.av,p.av] (I (validP g p)):=by
 intro tok nt box nb;have h1:=valid05_c g hg;have h2:=fun h=>right07_c g p hg h hp
 refine sI func104 ntmps104 fun Hb Ht=>?_
 repeat first|simp|refine sR ?_
 refine sD (h1 _ _) ?_;repeat first|simp|refine sR ?_
 by_cases e1:vG g=0
 .simp only[e1];refine sC ?_;repeat first|simp|refine sR ?_
  refine sD (h2 e1 _ _) ?_;repeat first|simp|refine sR ?_
  refine sT (sH Hb Ht ?_);simp[validP,e1]
 .have b1:(vG g != 0)=true:=by simp[e1]
  simp only[b1];refine sC ?_;repeat first|simp|refine sR ?_
  refine sT (sH Hb Ht ?_);simp[validP,e1]
def exN07(g:Gr)(p:Mo)(i:Nat):List Int:=(p.nodes.take i).map fun k=>g.nodes.getD k.toNat 0
def exE07(g:Gr)(p:Mo)(i:Nat):List E:=(p.edges.take i).map (exE1 g p)
def stEx1(g:Gr)(p:Mo)(nb:Nat)(box:Bxs)(x:Acc):AS :=
 ⟨tl [(9,I x.i),(8,.ptr (nb+8) 0 0),(5,.ptr (nb+5) 0 0),(4,.ptr (nb+4) 0 0),(3,.ptr (nb+3) 0 0),(2,.ptr (nb+2) 0 0)],
  lb nb box [(8,[[.osl 1 (rI (exN07 g p x.i)) x.own,.osl 0 [] .full]]),(3,[[.d (ints p.nodes),.d (ints p.edges)]]),(2,[[.d (ints g.nodes),.d (AM.edges g.edges)]]),(5,[[nilS,nilS]]),(4,[[nilS,nilS]])],x.tok,x.nt⟩
def stEx2(g:Gr)(p:Mo)(own1:Own)(nb:Nat)(box:Bxs)(x:Acc):AS :=
 ⟨tl [(10,I x.i),(8,.ptr (nb+8) 0 0),(5,.ptr (nb+5) 0 0),(4,.ptr (nb+4) 0 0),(3,.ptr (nb+3) 0 0),(2,.ptr (nb+2) 0 0)],
  lb nb box [(8,[[.d (ints (exN07 g p p.nodes.length)),.osl 3 (rE (exE07 g p x.i)) x.own]]),(3,[[.d (ints p.nodes),.d (ints p.edges)]]),(2,[[.d (ints g.nodes),.d (AM.edges g.edges)]]),(5,[[nilS,nilS]]),(4,[[nilS,nilS]])],x.tok,x.nt⟩
theorem exN07_zero(g:Gr)(p:Mo):exN07 g p 0=[]:=by simp[exN07]
theorem exE07_zero(g:Gr)(p:Mo):exE07 g p 0=[]:=by simp[exE07]
theorem exN07_succ(g:Gr)(p:Mo){i:Nat}(h:i<p.nodes.length):exN07 g p (i+1)=exN07 g p i++[g.nodes.getD p.nodes[i].toNat 0]:=by simp only[exN07,List.take_add_one,List.getElem?_eq_getElem h,Option.toList,List.map_append,List.map_cons,List.map_nil]
theorem exE07_succ(g:Gr)(p:Mo){i:Nat}(h:i<p.edges.length):exE07 g p (i+1)=exE07 g p i++[exE1 g p p.edges[i]]:=by simp only[exE07,List.take_add_one,List.getElem?_eq_getElem h,Option.toList,List.map_append,List.map_cons,List.map_nil]
theorem exN07_len(g:Gr)(p:Mo)(i:Nat):(exN07 g p i).length<=i:=by simp[exN07];omega
theorem exE07_len(g:Gr)(p:Mo)(i:Nat):(exE07 g p i).length<=i:=by simp[exE07];omega
theorem exG_07(g:Gr)(p:Mo):exG g p=⟨exN07 g p p.nodes.length,exE07 g p p.edges.length⟩:=by simp[exG,exN07,exE07]
theorem extract07_c(g:Gr)(p:Mo)(hg:g.Fit)(hp:p.Fit)(h:VP g p):DC 54 [g.av,p.av] (.tup [(exG g p).av,p.av,I 0]):=by
 intro tok nt box nb;have h1:=valid07_c g p hg hp;rw[h.v] at h1;refine sI func54 ntmps54 fun Hb Ht=>?_
 repeat first|simp|refine sR ?_
 refine sD (h1 _ _) ?_;repeat first|simp|refine sR ?_
 refine sC ?_;repeat first|simp|refine sR ?_
 refine sN ?_;have hpn:=hp.n;have hpe:=hp.e;refine sL (stEx1 g p nb box) (fun x=>x.i<=p.nodes.length/\TK tok nt x.tok x.nt [x.own]) (fun x=>p.nodes.length-x.i) ⟨0,.full,tok,nt⟩ ⟨Nat.zero_le _,(TK.start Ht).full⟩ (wM (nr _) rfl (by simp[ToL,lk]) (by simp[BoxL,lk,exN07_zero])) ?_;rintro⟨i,own,tok',nt'⟩ S ⟨hi,htk⟩ hS;simp only[stEx1] at hS hi htk;subst hS;have hw:=sW (i:=i) (by omega);repeat first|simp|refine sR ?_|refine sC ?_
 refine⟨fun hlt=>?_,fun hge=>?_⟩
 .obtain⟨r1,r2⟩:=h.n _ (List.getElem_mem hlt);have r3:p.nodes[i].toNat<g.nodes.length:=by omega
  refine sR ?_;simp[hlt,r1,r2,r3];refine⟨⟨by have:=exN07_len g p i;omega,htk.live⟩,?_⟩;repeat first|simp[hw]|refine sR ?_
  refine sE ?_;exact⟨⟨i+1,_,_,_⟩,⟨hlt,htk.app⟩,by simp only;omega,wM htk.app.le rfl (by simp[ToL,lk]) (by simp[BoxL,lk,exN07_succ g p hlt,r3])⟩
 .refine sX ?_;simp only[AU,↓reduceIte];have:i=p.nodes.length:=by omega
  subst this;repeat first|simp|refine sR ?_
  refine sN ?_;refine sL (stEx2 g p own nb box) (fun x=>x.i<=p.edges.length/\TK tok nt x.tok x.nt [x.own]) (fun x=>p.edges.length-x.i) ⟨0,.full,tok',nt'⟩ ⟨Nat.zero_le _,htk.tail.full⟩ (wM htk.le rfl (by simp[ToL,lk]) (by simp[BoxL,lk,exE07_zero])) ?_;rintro⟨i,own2,tok2,nt2⟩ S ⟨hi,htk2⟩ hS;simp only[stEx2] at hS hi htk2;subst hS;have hw:=sW (i:=i) (by omega);have hh:=fun v=>index07_c p.nodes v hp.n
  repeat first|simp|refine sR ?_|refine sC ?_
  refine⟨fun hlt=>?_,fun hge=>?_⟩
  .obtain⟨r1,r2⟩:=h.e _ (List.getElem_mem hlt);have r3:p.edges[i].toNat<g.edges.length:=by omega
   have hE:exE1 g p p.edges[i]=⟨g.edges[p.edges[i].toNat].ty,indexI p.nodes g.edges[p.edges[i].toNat].fr,indexI p.nodes g.edges[p.edges[i].toNat].to⟩:=by
    have q2:g.edges.getD p.edges[i].toNat default=g.edges[p.edges[i].toNat]:=by simp[r3]
    rw[exE1,q2]
   have hsucc:=exE07_succ g p hlt;rw[hE] at hsucc;refine sN ?_;refine AL.region2 follows_Tryz (nr _) (by kernel_rfl) (Side.of (by simp)) ?_;simp[hlt,r1,r2,r3];generalize g.edges[p.edges[i].toNat]=x at *;refine sR ?_;simp;refine sD (hh _ _ _) ?_;simp;refine sD (hh _ _ _) ?_;simp;refine⟨⟨by have:=exE07_len g p i;omega,htk2.live⟩,?_⟩;repeat first|simp[hw]|refine sR ?_
   refine sE ?_;exact⟨⟨i+1,_,_,_⟩,⟨hlt,htk2.app⟩,by simp only;omega,wM htk2.app.le rfl (by simp[ToL,lk]) (by simp[BoxL,lk,hsucc])⟩
  .refine sX ?_;simp only[AU,↓reduceIte];have:i=p.edges.length:=by omega
   subst this;repeat first|simp|refine sR ?_
   refine⟨by omega,by omega,?_⟩;have htk3:=htk2.full.app.full.app;refine sT (sG Hb Ht htk3.old htk3.le ?_);simp[exG_07]
theorem few07_c(p:Mo)(n:Int)(h1:p.nodes.length<=281474976710656)(h2:p.edges.length<=281474976710656):DC 108 [p.av,I n] (B (fewM p n)):=by
 intro tok nt box nb;have hw:IntKind.i64.wrap (↑p.nodes.length+↑p.edges.length)=(p.nodes.length:Int)+p.edges.length:=wrap_in (by omega) (by omega)
 refine sI func108 ntmps108 fun Hb Ht=>?_
 repeat first|simp[hw]|refine sR ?_
 refine sT (sH Hb Ht ?_);simp[fewM]
theorem isNaN_c(n:Int):DC 281 [I n] (B false):=by
 intro tok nt box nb;refine sI func281 ntmps281 fun Hb Ht=>?_
 repeat first|simp|refine sR ?_
 refine sT (sH Hb Ht ?_);simp
theorem isNaNs_c(n:Int):DC 244 [I n] (B false):=by
 intro tok nt box nb;refine sI func244 ntmps244 fun Hb Ht=>?_
 repeat first|simp|refine sR ?_
 refine sT (sH Hb Ht ?_);simp
theorem less_c(m n:Int):DC 243 [I m,I n] (B (decide (m<n))):=by
 intro tok nt box nb;have h:=isNaN_c;refine sI func243 ntmps243 fun Hb Ht=>?_
 repeat first|simp|refine sR ?_
 refine sD (h _ _ _) ?_;repeat first|simp|refine sR ?_
 refine sT (sH Hb Ht ?_);simp
def lowI(l:List Int)(v:Int):Nat:=l.findIdx fun x=>decide (v<=x)
theorem lowI_eq{l:List Int}{v:Int}{i:Nat}(hi:i<=l.length)(h1:∀t,t<i->l.getD t 0<v)(h2:∀t,i<=t->t<l.length->v<=l.getD t 0):lowI l v=i:=by
 unfold lowI;have gd:∀t (h:t<l.length),l.getD t 0=l[t]:=fun t h=>by simp[h]
 by_cases h:i<l.length
 .rw[List.findIdx_eq h];refine⟨?_,fun j hj=>?_⟩
  .have:=h2 i (nr _) h
   rw[gd i h] at this;simpa using this
  .have:=h1 j hj
   rw[gd j (by omega)] at this;simpa using this
 .have:i=l.length:=by omega
  subst this;rw[List.findIdx_eq_length];intro x hx;obtain⟨t,ht,rfl⟩:=List.getElem_of_mem hx;have:=h1 t ht
  rw[gd t ht] at this;simpa using this
theorem lowI_index{l:List Int}{v:Int}(hs:∀j i,i<j->j<l.length->l.getD i 0<l.getD j 0)(hm:v∈l):(lowI l v:Int)=indexI l v:=by
 obtain⟨i1,i2,i3⟩:=indexI_in hm;obtain⟨k,hk⟩:∃k:Nat,indexI l v=k:=⟨(indexI l v).toNat,by omega⟩
 rw[hk] at i1 i2 i3 ⊢;rw[Int.toNat_natCast] at i3;rw[lowI_eq (i:=k) (by omega) (fun t ht=>by rw[<-i3];exact hs k t ht (by omega)) fun t h1 h2=>by
  rw[<-i3];by_cases e:t=k
  .subst e;omega
  .have:=hs t k (by omega) h2;omega]
structure AccB where
 i:Nat
 j:Nat
def stBs(l:List Int)(v:Int)(nb:Nat)(box:Bxs)(tok:Tks)(nt:Nat)(a:AccB):AS:=⟨tl [(8,I a.j),(7,I a.i),(6,I l.length),(5,B false),(4,I 0),(0,.d (ints l)),(1,I v)],lb nb box [],tok,nt⟩
theorem search_c(l:List Int)(v:Int)(hl:l.length<=1000000)(hs:∀j i,i<j->j<l.length->l.getD i 0<l.getD j 0):DC 188 [.d (ints l),I v] (.tup [I (lowI l v),B (decide (v∈l))]):=by
 intro tok nt box nb;refine sI func188 ntmps188 fun Hb Ht=>?_
 repeat first|simp|refine sR ?_
 refine sN ?_;refine sL (stBs l v nb box tok nt) (fun a=>a.i<=a.j/\a.j<=l.length/\(∀t,t<a.i->l.getD t 0<v)/\∀t,a.j<=t->t<l.length->v<=l.getD t 0) (fun a=>a.j-a.i) ⟨0,l.length⟩ ⟨Nat.zero_le _,nr _,fun t ht=>absurd ht (Nat.not_lt_zero _),fun t h1 h2=>absurd h2 (by simp only at h1;omega)⟩ (wM (nr _) rfl (by simp[ToL,lk]) trivial) ?_;rintro⟨i,j⟩ S ⟨hij,hj,h1,h2⟩ hS;simp only[stBs] at hS hij hj h1 h2;subst hS;repeat first|simp|refine sR ?_|refine sC ?_
 refine⟨fun hlt=>?_,fun hge=>?_⟩
 .obtain⟨q,hq⟩:∃q,i+j=q:=⟨_,rfl⟩
  obtain⟨h,hh⟩:∃h,q / 2=h:=⟨_,rfl⟩
  have w1:IntKind.i64.wrap (↑i+↑j)=(q:Int):=by rw[wrap_in (by omega) (by omega)];omega
  have w2:IntKind.u64.wrap (q:Int)=q:=u64_in (by omega) (by omega)
  have w3:(q:Int).fdiv (2 ^ min 1 IntKind.u64.bits)=(h:Int):=by
   have e:(2:Int) ^ min 1 IntKind.u64.bits=2:=by decide
   rw[e,Int.fdiv_eq_ediv_of_nonneg _ (by omega)];omega
  have w4:IntKind.i64.wrap (h:Int)=h:=wrap_in (by omega) (by omega)
  have w5:IntKind.i64.wrap ((h:Int)+1)=((h+1:Nat):Int):=by rw[wrap_in (by omega) (by omega)];rfl
  have hhl:h<l.length:=by omega
  have hgh:l.getD h 0=l[h]:=by simp[hhl]
  have hls:=less_c l[h] v;repeat first|simp[w1,w2,w3,w4,hhl]|refine sR ?_
  refine sD (hls _ _) ?_;simp;by_cases hv:l[h]<v
  .simp only[hv];refine sC ?_;simp;repeat first|simp[w5]|refine sR ?_
   refine sE ?_;refine⟨⟨h+1,j⟩,⟨by simp only;omega,hj,fun t ht=>?_,h2⟩,by simp only;omega,wM (nr _) rfl (by simp[ToL,lk]) trivial⟩;simp only at ht;rw[<-List.getD_eq_getElem?_getD];by_cases e:t=h
   .rw[e,hgh];exact hv
   .have:=hs h t (by omega) hhl
    rw[hgh] at this;omega
  .simp only[hv];refine sC ?_;repeat first|simp|refine sR ?_
   refine sE ?_;refine⟨⟨i,h⟩,⟨by simp only;omega,by simp only;omega,h1,fun t ht htl=>?_⟩,by simp only;omega,wM (nr _) rfl (by simp[ToL,lk]) trivial⟩;simp only at ht;rw[<-List.getD_eq_getElem?_getD];by_cases e:t=h
   .rw[e,hgh];omega
   .have:=hs t h (by omega) htl
    rw[hgh] at this;omega
 .refine sX ?_;simp only[AU,↓reduceIte];have hij2:i=j:=by omega
  subst hij2;have hlow:lowI l v=i:=lowI_eq hj h1 h2
  have hmem:i<l.length->l.getD i 0=v->v∈l:=fun h3 h4=>by rw[<-h4];exact getD_mem h3
  have hin:v∈l->i<l.length/\l.getD i 0=v:=fun hm=>by
   obtain⟨t,ht,e⟩:=mem_getD hm;have a1:¬t<i:=fun h3=>by have:=h1 t h3;omega
   have a2:¬i<t:=fun h3=>by
    have:=hs t i h3 ht
    have:=h2 i (nr _) (by omega)
    omega
   have:t=i:=by omega
   subst this;exact⟨ht,e⟩
  by_cases h3:i<l.length
  .have hg:l.getD i 0=l[i]:=by simp[h3]
   rw[hg] at hmem hin;by_cases h4:l[i]=v
   .have hm:=hmem h3 h4;have hb:(l[i]==v)=true:=by simp[h4]
    repeat first|simp[h3,hb]|refine sR ?_
    refine sT (sH Hb Ht ?_);simp[hlow,hm]
   .have hm:v∉l:=fun h=>h4 (hin h).2
    have hb:(l[i]==v)=false:=by simp[h4]
    repeat first|simp[h3,hb]|refine sR ?_
    refine sD (isNaNs_c _ _ _) ?_;repeat first|simp|refine sR ?_
    refine sT (sH Hb Ht ?_);simp[hlow,hm]
  .have hm:v∉l:=fun h=>h3 (hin h).1
   repeat first|simp[h3]|refine sR ?_
   refine sT (sH Hb Ht ?_);simp[hlow,hm]
def stLi(l:List Int)(n:Int)(nb:Nat)(box:Bxs)(tok:Tks)(nt:Nat)(i:Nat):AS:=⟨tl [(9,I i),(8,I l.length),(7,.d (ints l)),(4,I 0),(0,.d (ints l)),(1,I n)],lb nb box [],tok,nt⟩
theorem list_c(l:List Int)(n:Int)(hl:l.length<=1000000):DC 262 [.d (ints l),I n] (I (ascE l n)):=by
 intro tok nt box nb;refine sI func262 ntmps262 fun Hb Ht=>?_
 repeat first|simp|refine sR ?_
 refine sN ?_;refine sL (stLi l n nb box tok nt) (fun i=>i<=l.length/\firstE (ascAt l n) i=0) (fun i=>l.length-i) 0 ⟨Nat.zero_le _,rfl⟩ (wM (nr _) rfl (by simp[ToL,lk]) trivial) ?_;rintro i S ⟨hi,hok⟩ hS;simp only[stLi] at hS;subst hS;have hw:=sW (i:=i) (by omega);have hR:i<l.length->ascAt l n i≠0->ascE l n=ascAt l n i:=fun hlt h0=>firstE_stop hok h0 l.length hlt
 repeat first|simp|refine sR ?_|refine sC ?_
 refine⟨fun hlt=>?_,fun hge=>?_⟩
 .have hg:l.getD i 0=l[i]:=by simp[hlt]
  have hR:=hR hlt;have hA:ascAt l n i=if l[i]<0∨n<=l[i] then 6 else if 0<i/\l[i]<=l.getD (i-1) 0 then 12 else 0:=by rw[ascAt,hg]
  by_cases hneg:l[i]<0
  .repeat first|simp[hneg,hlt]|refine sR ?_
   refine sC ?_;repeat first|simp|refine sR ?_
   rw[hA,if_pos (.inl hneg)] at hR;have hR:=hR (by decide);refine sT (sH Hb Ht ?_);simp[hR]
  .by_cases hbig:n<=l[i]
   .repeat first|simp[hneg,hlt,hbig]|refine sR ?_
    refine sC ?_;repeat first|simp|refine sR ?_
    rw[hA,if_pos (.inr hbig)] at hR;have hR:=hR (by decide);refine sT (sH Hb Ht ?_);simp[hR]
   .rw[if_neg (by omega)] at hA;repeat (first|simp[hneg,hlt,hbig]|refine sR ?_)
    refine sC ?_
    repeat (first|simp[hneg,hlt,hbig]|refine sR ?_)
    by_cases h0:0<i
    .have hw':IntKind.i64.wrap (↑i-1)=((i-1:Nat):Int):=by rw[wrap_in (by omega) (by omega)];omega
     have hlt':i-1<l.length:=by omega
     have hg':l.getD (i-1) 0=l[i-1]:=by simp[hlt']
     rw[hg'] at hA;repeat first|simp[hlt,h0,hw',hlt']|refine sR ?_
     by_cases hle:l[i]<=l[i-1]
     .rw[if_pos ⟨h0,hle⟩] at hA;rw[hA] at hR;have hR:=hR (by decide);simp only[hle];refine sC ?_;repeat first|simp|refine sR ?_
      refine sT (sH Hb Ht ?_);simp[hR]
     .rw[if_neg (by omega)] at hA;simp only[hle];refine sC ?_;simp;repeat first|simp[hw]|refine sR ?_
      refine sE ?_;exact⟨i+1,⟨hlt,by simp only[firstE,hok,hA,↓reduceIte]⟩,by omega,wM (nr _) rfl (by simp[ToL,lk]) trivial⟩
    .rw[if_neg (by omega)] at hA;repeat first|simp[hlt,h0]|refine sR ?_
     refine sC ?_;simp;repeat first|simp[hw]|refine sR ?_
     refine sE ?_;exact⟨i+1,⟨hlt,by simp only[firstE,hok,hA,↓reduceIte]⟩,by omega,wM (nr _) rfl (by simp[ToL,lk]) trivial⟩
 .refine sX ?_;simp only[AU,↓reduceIte];repeat first|simp|refine sR ?_
  have:i=l.length:=by omega
  subst this;refine sT (sH Hb Ht ?_);simp[ascE,hok]
theorem has_c(l:List Int)(v:Int)(hl:l.length<=1000000)(hs:∀j i,i<j->j<l.length->l.getD i 0<l.getD j 0):DC 263 [.d (ints l),I v] (B (decide (v∈l))):=by
 intro tok nt box nb;have h:=search_c l v hl hs;refine sI func263 ntmps263 fun Hb Ht=>?_
 repeat first|simp|refine sR ?_
 refine sD (h _ _) ?_;repeat first|simp|refine sR ?_
 refine sT (sH Hb Ht ?_);simp
def stPr(g:Gr)(p:Mo)(nb:Nat)(box:Bxs)(tok:Tks)(nt:Nat)(i:Nat):AS :=
 ⟨tl [(30,I i),(29,I p.edges.length),(28,.d (ints p.edges)),(3,.ptr (nb+3) 0 0),(2,.ptr (nb+2) 0 0)],lb nb box [(3,[[.d (ints p.nodes),.d (ints p.edges)]]),(2,[[.d (ints g.nodes),.d (AM.edges g.edges)]])],tok,nt⟩
theorem part_c(g:Gr)(p:Mo)(hg:g.Fit)(hv:vG g=0)(hp:p.Fit):DC 216 [g.av,p.av] (I (rightP g p)):=by
 intro tok nt box nb;have h1:=list_c p.nodes g.nodes.length hp.n;have h2:=list_c p.edges g.edges.length hp.e;refine sI func216 ntmps216 fun Hb Ht=>?_
 repeat first|simp|refine sR ?_
 refine sD (h1 _ _) ?_;repeat first|simp|refine sR ?_
 by_cases e1:ascE p.nodes g.nodes.length=0
 .simp only[e1];refine sC ?_;repeat first|simp|refine sR ?_
  refine sD (h2 _ _) ?_;repeat first|simp|refine sR ?_
  by_cases e2:ascE p.edges g.edges.length=0
  .simp only[e2];refine sC ?_;repeat first|simp|refine sR ?_
   refine sN ?_;have re:=asc_rng e2;refine sL (stPr g p nb box tok nt) (fun i=>i<=p.edges.length/\firstE (dangAt g p) i=0) (fun i=>p.edges.length-i) 0 ⟨Nat.zero_le _,rfl⟩ wkA ?_;rintro i S ⟨hi,hok⟩ hS;simp only[stPr] at hS;subst hS;have hpe:=hp.e;have hw:=sW (i:=i) (by omega);have hR:i<p.edges.length->dangAt g p i≠0->rightP g p=dangAt g p i:=fun hlt h0=>by
    have:=firstE_stop hok h0 p.edges.length hlt
    simp[rightP,e1,e2,this]
   repeat first|simp|refine sR ?_|refine sC ?_
   refine⟨fun hlt=>?_,fun hge=>?_⟩
   .have hR:=hR hlt;obtain⟨r1,r2⟩:=re _ (List.getElem_mem hlt);have r3:p.edges[i].toNat<g.edges.length:=by omega
    have hD:dangAt g p i=if g.edges[p.edges[i].toNat].fr∈p.nodes/\g.edges[p.edges[i].toNat].to∈p.nodes then 0 else 14:=by
     have q1:p.edges.getD i 0=p.edges[i]:=by simp[hlt]
     have q2:g.edges.getD p.edges[i].toNat default=g.edges[p.edges[i].toNat]:=by simp[r3]
     rw[dangAt,q1,q2]
    have hh:=fun v=>has_c p.nodes v hp.n (asc_lt e1)
    repeat first|simp[hlt,r1,r2,r3]|refine sR ?_
    refine sD (hh _ _ _) ?_;simp;by_cases h1:g.edges[p.edges[i].toNat].fr∈p.nodes
    .simp only[h1];repeat first|simp[hlt,r1,r2,r3]|refine sR ?_
     refine sD (hh _ _ _) ?_;simp;by_cases h2:g.edges[p.edges[i].toNat].to∈p.nodes
     .rw[if_pos ⟨h1,h2⟩] at hD;simp only[h2];repeat first|simp[hw]|refine sR ?_|refine sC ?_
      refine sE ?_;exact⟨i+1,⟨hlt,by simp only[firstE,hok,hD,↓reduceIte]⟩,by omega,wkA⟩
     .rw[if_neg (fun h=>h2 h.2)] at hD;rw[hD] at hR;have hR:=hR (by decide);simp only[h2];repeat first|simp|refine sR ?_
      refine sC ?_;repeat first|simp|refine sR ?_
      refine sT (sH Hb Ht ?_);simp[hR]
    .rw[if_neg (fun h=>h1 h.1)] at hD;rw[hD] at hR;have hR:=hR (by decide);simp only[h1];repeat first|simp|refine sR ?_
     refine sC ?_;repeat first|simp|refine sR ?_
     refine sT (sH Hb Ht ?_);simp[hR]
   .refine sX ?_;simp only[AU,↓reduceIte];repeat first|simp|refine sR ?_
    have:i=p.edges.length:=by omega
    subst this;refine sT (sH Hb Ht ?_);simp[rightP,e1,e2,hok]
  .have b2:(ascE p.edges g.edges.length != 0)=true:=by simp[e2]
   simp only[b2];refine sC ?_;repeat first|simp|refine sR ?_
   refine sT (sH Hb Ht ?_);simp[rightP,e1,e2]
 .have b1:(ascE p.nodes g.nodes.length != 0)=true:=by simp[e1]
  simp only[b1];refine sC ?_;repeat first|simp|refine sR ?_
  refine sT (sH Hb Ht ?_);simp[rightP,e1]
theorem validP_c(g:Gr)(p:Mo)(hg:g.Fit)(hp:p.Fit):DC 153 [g.av,p.av] (I (validP g p)):=by
 intro tok nt box nb;have h1:=graphValid_c g hg;have h2:=fun h=>part_c g p hg h hp
 refine sI func153 ntmps153 fun Hb Ht=>?_
 repeat first|simp|refine sR ?_
 refine sD (h1 _ _) ?_;repeat first|simp|refine sR ?_
 by_cases e1:vG g=0
 .simp only[e1];refine sC ?_;repeat first|simp|refine sR ?_
  refine sD (h2 e1 _ _) ?_;repeat first|simp|refine sR ?_
  refine sT (sH Hb Ht ?_);simp[validP,e1]
 .have b1:(vG g != 0)=true:=by simp[e1]
  simp only[b1];refine sC ?_;repeat first|simp|refine sR ?_
  refine sT (sH Hb Ht ?_);simp[validP,e1]
def stPx1(g:Gr)(p:Mo)(nb:Nat)(box:Bxs)(x:Acc):AS :=
 ⟨tl [(25,I x.i),(24,I p.nodes.length),(23,.d (ints p.nodes)),(8,.ptr (nb+8) 0 0),(5,.ptr (nb+5) 0 0),(4,.ptr (nb+4) 0 0),(3,.ptr (nb+3) 0 0),(2,.ptr (nb+2) 0 0)],
  lb nb box [(8,[[.osl 1 (rI (exN07 g p x.i)) x.own,.osl 0 [] .full]]),(3,[[.d (ints p.nodes),.d (ints p.edges)]]),(2,[[.d (ints g.nodes),.d (AM.edges g.edges)]]),(5,[[nilS,nilS]]),(4,[[nilS,nilS]])],x.tok,x.nt⟩
def stPx2(g:Gr)(p:Mo)(own1:Own)(nb:Nat)(box:Bxs)(x:Acc):AS :=
 ⟨tl [(43,I x.i),(42,I p.edges.length),(41,.d (ints p.edges)),(8,.ptr (nb+8) 0 0),(5,.ptr (nb+5) 0 0),(4,.ptr (nb+4) 0 0),(3,.ptr (nb+3) 0 0),(2,.ptr (nb+2) 0 0)],
  lb nb box [(8,[[.d (ints (exN07 g p p.nodes.length)),.osl 3 (rE (exE07 g p x.i)) x.own]]),(3,[[.d (ints p.nodes),.d (ints p.edges)]]),(2,[[.d (ints g.nodes),.d (AM.edges g.edges)]]),(5,[[nilS,nilS]]),(4,[[nilS,nilS]])],x.tok,x.nt⟩
theorem extractP_c(g:Gr)(p:Mo)(hg:g.Fit)(hp:p.Fit)(h:VP g p):DC 114 [g.av,p.av] (.tup [(exG g p).av,p.av,I 0]):=by
 intro tok nt box nb;have h1:=validP_c g p hg hp;rw[h.v] at h1;refine sI func114 ntmps114 fun Hb Ht=>?_
 repeat first|simp|refine sR ?_
 refine sD (h1 _ _) ?_;repeat first|simp|refine sR ?_
 refine sC ?_;repeat first|simp|refine sR ?_
 refine sN ?_;have hpn:=hp.n;have hpe:=hp.e;refine sL (stPx1 g p nb box) (fun x=>x.i<=p.nodes.length/\TK tok nt x.tok x.nt [x.own]) (fun x=>p.nodes.length-x.i) ⟨0,.full,tok,nt⟩ ⟨Nat.zero_le _,(TK.start Ht).full⟩ (wM (nr _) rfl (by simp[ToL,lk]) (by simp[BoxL,lk,exN07_zero])) ?_;rintro⟨i,own,tok',nt'⟩ S ⟨hi,htk⟩ hS;simp only[stPx1] at hS hi htk;subst hS;have hw:=sW (i:=i) (by omega);repeat first|simp|refine sR ?_|refine sC ?_
 refine⟨fun hlt=>?_,fun hge=>?_⟩
 .obtain⟨r1,r2⟩:=h.n _ (List.getElem_mem hlt);have r3:p.nodes[i].toNat<g.nodes.length:=by omega
  repeat first|simp[hlt,r1,r2,r3]|refine sR ?_
  refine⟨⟨by have:=exN07_len g p i;omega,htk.live⟩,?_⟩;repeat first|simp[hw]|refine sR ?_
  refine sE ?_;exact⟨⟨i+1,_,_,_⟩,⟨hlt,htk.app⟩,by simp only;omega,wM htk.app.le rfl (by simp[ToL,lk]) (by simp[BoxL,lk,exN07_succ g p hlt,r3])⟩
 .refine sX ?_;simp only[AU,↓reduceIte];have:i=p.nodes.length:=by omega
  subst this;repeat first|simp|refine sR ?_
  refine sN ?_;refine sL (stPx2 g p own nb box) (fun x=>x.i<=p.edges.length/\TK tok nt x.tok x.nt [x.own]) (fun x=>p.edges.length-x.i) ⟨0,.full,tok',nt'⟩ ⟨Nat.zero_le _,htk.tail.full⟩ (wM htk.le rfl (by simp[ToL,lk]) (by simp[BoxL,lk,exE07_zero])) ?_;rintro⟨i,own2,tok2,nt2⟩ S ⟨hi,htk2⟩ hS;simp only[stPx2] at hS hi htk2;subst hS;have hw:=sW (i:=i) (by omega);have hh:=fun v=>search_c p.nodes v hp.n h.sn
  repeat first|simp|refine sR ?_|refine sC ?_
  refine⟨fun hlt=>?_,fun hge=>?_⟩
  .obtain⟨r1,r2⟩:=h.e _ (List.getElem_mem hlt);have r3:p.edges[i].toNat<g.edges.length:=by omega
   have hE:exE1 g p p.edges[i]=⟨g.edges[p.edges[i].toNat].ty,indexI p.nodes g.edges[p.edges[i].toNat].fr,indexI p.nodes g.edges[p.edges[i].toNat].to⟩:=by
    have q2:g.edges.getD p.edges[i].toNat default=g.edges[p.edges[i].toNat]:=by simp[r3]
    rw[exE1,q2]
   have hsucc:=exE07_succ g p hlt;rw[hE] at hsucc;have hcc:=h.c _ (List.getElem_mem hlt);have q3:g.edges.getD p.edges[i].toNat default=g.edges[p.edges[i].toNat]:=by simp[r3]
   rw[q3] at hcc;have hh1:=hh g.edges[p.edges[i].toNat].fr;have hh2:=hh g.edges[p.edges[i].toNat].to;rw[lowI_index h.sn hcc.1] at hh1;rw[lowI_index h.sn hcc.2] at hh2;refine sR ?_;simp[hlt];refine sR ?_;simp[r1,r2,r3];generalize g.edges[p.edges[i].toNat]=x at *;repeat first|simp|refine sR ?_
   refine sD (hh1 _ _) ?_;repeat first|simp|refine sR ?_
   refine sD (hh2 _ _) ?_;repeat first|simp|refine sR ?_
   refine⟨⟨by have:=exE07_len g p i;omega,htk2.live⟩,?_⟩;repeat first|simp[hw]|refine sR ?_
   refine sE ?_;exact⟨⟨i+1,_,_,_⟩,⟨hlt,htk2.app⟩,by simp only;omega,wM htk2.app.le rfl (by simp[ToL,lk]) (by simp[BoxL,lk,hsucc])⟩
  .refine sX ?_;simp only[AU,↓reduceIte];have:i=p.edges.length:=by omega
   subst this;have c1:=clone_c p.nodes hp.n;have c2:=clone_c p.edges hp.e;repeat first|simp|refine sR ?_
   refine sD (c1 _ _) ?_;repeat first|simp|refine sR ?_
   refine sD (c2 _ _) ?_;simp;have htk3:=htk2.full.app.full.app;repeat first|simp|refine sR ?_
   refine sT (sG Hb Ht htk3.old htk3.le ?_);simp[exG_07]
structure At where
 name:ByteArray
 lo:Int
 hi:Int
 names:List ByteArray
structure NT where
 name:ByteArray
 par:Int
 abs:Bool
 own:List At
structure ET where
 name:ByteArray
 fr:Int
 to:Int
 ol:Int
 oh:Int
 il:Int
 ih:Int
structure Ty where
 nodes:List NT
 edges:List ET
abbrev At.cells(a:At):List D:=[.raw (.string a.name),.raw (.int .i64 a.lo),.raw (.int .i64 a.hi),strs a.names]
abbrev atts(l:List At):D:=.sl 4 (l.map At.cells)
abbrev NT.cells(n:NT):List D:=[.raw (.string n.name),.raw (.int .i64 n.par),.raw (.bool n.abs),atts n.own]
abbrev ET.cells(e:ET):List D:=[.raw (.string e.name),.raw (.int .i64 e.fr),.raw (.int .i64 e.to),.raw (.int .i64 e.ol),.raw (.int .i64 e.oh),.raw (.int .i64 e.il),.raw (.int .i64 e.ih)]
abbrev nts(l:List NT):D:=.sl 4 (l.map NT.cells)
abbrev ets(l:List ET):D:=.sl 7 (l.map ET.cells)
abbrev Ty.av(t:Ty):AV:=.agg [.d (nts t.nodes),.d (ets t.edges)]
instance:Inhabited ByteArray:=⟨⟨#[]⟩⟩
abbrev eB:ByteArray:=⟨#[]⟩
def nmsAt(l:List ByteArray)(i:Nat):Int:=if nameB (l.getD i eB)=false then 2 else if memS (l.take i) (l.getD i eB)=true then 5 else 0
def nmsE(l:List ByteArray):Int:=if 20<l.length then 3 else firstE (nmsAt l) l.length
structure NmFit (l:List ByteArray):Prop where
 n:l.length<=1000000
 s:∀x∈l,x.size<=1000000000000
theorem strs_take(l:List ByteArray)(i:Nat):strs (l.take i)=.sl 1 (List.take i (l.map fun s=>[D.raw (.string s)])):=by rw[strs,List.map_take]
theorem memS_more{l:List ByteArray}{i:Nat}{v:ByteArray}(hi:i<l.length)(h:memS (l.take i) v=false)(hne:v≠l[i]):memS (l.take (i+1)) v=false:=by
 rw[<-Bool.not_eq_true,memS_iff] at h ⊢;rw[List.take_succ_eq_append_getElem hi,List.mem_append,List.mem_singleton];exact fun h2=>h2.elim h hne
theorem memS_hit{l:List ByteArray}{k i:Nat}(hk:k<l.length)(hki:k<i):memS (l.take i) l[k]=true:=memS_iff.2 (by rw[List.mem_take_iff_getElem];exact⟨k,by omega,rfl⟩)
def stNm4(l:List ByteArray)(nb:Nat)(box:Bxs)(tok:Tks)(nt:Nat)(i:Nat):AS:=⟨tl [(3,I i),(0,.d (strs l))],lb nb box [],tok,nt⟩
def stNm5(l:List ByteArray)(i:Nat)(nb:Nat)(box:Bxs)(tok:Tks)(nt:Nat)(k:Nat):AS:=⟨tl [(4,I k),(3,I i),(0,.d (strs l))],lb nb box [],tok,nt⟩
def stNm(l:List ByteArray)(nb:Nat)(box:Bxs)(tok:Tks)(nt:Nat)(i:Nat):AS:=⟨tl [(10,I i),(9,I l.length),(8,.d (strs l)),(0,.d (strs l))],lb nb box [],tok,nt⟩
theorem names_c(l:List ByteArray)(hl:NmFit l):DC 274 [.d (strs l)] (I (nmsE l)):=by
 intro tok nt box nb;have hln:=hl.n;by_cases h20:20<l.length
 .have h20':(20:Int)<l.length:=by omega
  rw[show nmsE l=3 from if_pos h20];refine sI func274 ntmps274 fun Hb Ht=>?_
  repeat first|simp[h20']|refine sR ?_
  refine sC ?_;repeat first|simp|refine sR ?_
  refine sT (sH Hb Ht ?_);simp
 .have h20':¬(20:Int)<l.length:=by omega
  have hE:nmsE l=firstE (nmsAt l) l.length:=if_neg h20
  refine sI func274 ntmps274 fun Hb Ht=>?_
  repeat first|simp[h20']|refine sR ?_
  refine sC ?_;repeat first|simp|refine sR ?_
  refine sN ?_;refine sL (stNm l nb box tok nt) (fun i=>i<=l.length/\firstE (nmsAt l) i=0) (fun i=>l.length-i) 0 ⟨Nat.zero_le _,rfl⟩ (wM (nr _) rfl (by simp[ToL,lk]) trivial) ?_;rintro i S' ⟨hi,hok⟩ hS;simp only[stNm] at hS;subst hS;have hw:=sW (i:=i) (by omega);have hR:i<l.length->nmsAt l i≠0->firstE (nmsAt l) l.length=nmsAt l i:=fun hlt h0=>firstE_stop hok h0 l.length hlt
  repeat first|simp|refine sR ?_|refine sC ?_
  refine⟨fun hlt=>?_,fun hge=>?_⟩
  .have hg:l.getD i eB=l[i]:=by simp[hlt]
   have hA:nmsAt l i=if nameB l[i]=false then 2 else if memS (l.take i) l[i]=true then 5 else 0:=by rw[nmsAt,hg]
   have hn:=isName_c l[i] (Nat.le_trans (hl.s _ (List.getElem_mem hlt)) (by decide));have hc:=containsS_c (l.take i) l[i] (by simp;omega);have hR:=hR hlt;repeat first|simp[hlt,strs_at hlt]|refine sR ?_
   refine sD (hn _ _) ?_;simp;cases e1:nameB l[i]
   .rw[e1,if_pos rfl] at hA;rw[hA] at hR;have hR:=hR (by decide);repeat first|simp|refine sR ?_
    refine sC ?_;repeat first|simp|refine sR ?_
    refine sT (sH Hb Ht ?_);simp[hE,hR]
   .rw[e1,if_neg (by simp)] at hA;repeat first|simp|refine sR ?_
    refine sC ?_;repeat first|simp|refine sR ?_
    refine⟨by omega,?_⟩;rw[strs_take] at hc;refine sD (hc _ _) ?_;simp;cases e2:memS (l.take i) l[i]
    .rw[e2,if_neg (by simp)] at hA;repeat first|simp[hw]|refine sR ?_|refine sC ?_
     refine sE ?_;exact⟨i+1,⟨hlt,by simp only[firstE,hok,hA,↓reduceIte]⟩,by omega,wM (nr _) rfl (by simp[ToL,lk]) trivial⟩
    .rw[e2,if_pos rfl] at hA;rw[hA] at hR;have hR:=hR (by decide);repeat first|simp|refine sR ?_
     refine sC ?_;repeat first|simp|refine sR ?_
     refine sT (sH Hb Ht ?_);simp[hE,hR]
  .refine sX ?_;simp only[AU,↓reduceIte];repeat first|simp|refine sR ?_
   have:i=l.length:=by omega
   subst this;refine sT (sH Hb Ht ?_);simp[hE,hok]
theorem names04_c(l:List ByteArray)(hl:NmFit l):DC 280 [.d (strs l)] (I (nmsE l)):=by
 intro tok nt box nb;have hln:=hl.n;by_cases h20:20<l.length
 .have h20':(20:Int)<l.length:=by omega
  rw[show nmsE l=3 from if_pos h20];refine sI func280 ntmps280 fun Hb Ht=>?_
  repeat first|simp[h20']|refine sR ?_
  refine sC ?_;repeat first|simp|refine sR ?_
  refine sT (sH Hb Ht ?_);simp
 .have h20':¬(20:Int)<l.length:=by omega
  have hE:nmsE l=firstE (nmsAt l) l.length:=if_neg h20
  refine sI func280 ntmps280 fun Hb Ht=>?_
  repeat first|simp[h20']|refine sR ?_
  refine sC ?_;repeat first|simp|refine sR ?_
  refine sN ?_;refine sL (stNm4 l nb box tok nt) (fun i=>i<=l.length/\firstE (nmsAt l) i=0) (fun i=>l.length-i) 0 ⟨Nat.zero_le _,rfl⟩ (wM (nr _) rfl (by simp[ToL,lk]) trivial) ?_;rintro i S' ⟨hi,hok⟩ hS;simp only[stNm4] at hS;subst hS;have hw:=sW (i:=i) (by omega);have hR:i<l.length->nmsAt l i≠0->firstE (nmsAt l) l.length=nmsAt l i:=fun hlt h0=>firstE_stop hok h0 l.length hlt
  repeat first|simp|refine sR ?_|refine sC ?_
  refine⟨fun hlt=>?_,fun hge=>?_⟩
  .have hg:l.getD i eB=l[i]:=by simp[hlt]
   have hA:nmsAt l i=if nameB l[i]=false then 2 else if memS (l.take i) l[i]=true then 5 else 0:=by rw[nmsAt,hg]
   have hn:=isName01_c l[i] (Nat.le_trans (hl.s _ (List.getElem_mem hlt)) (by decide));have hR:=hR hlt;repeat first|simp[hlt,strs_at hlt]|refine sR ?_
   refine sD (hn _ _) ?_;simp;cases e1:nameB l[i]
   .rw[e1,if_pos rfl] at hA;rw[hA] at hR;have hR:=hR (by decide);repeat first|simp|refine sR ?_
    refine sC ?_;repeat first|simp|refine sR ?_
    refine sT (sH Hb Ht ?_);simp[hE,hR]
   .rw[e1,if_neg (by simp)] at hA;repeat first|simp|refine sR ?_
    refine sC ?_;repeat first|simp|refine sR ?_
    refine sN ?_;refine sL (stNm5 l i nb box tok nt) (fun k=>k<=i/\memS (l.take k) l[i]=false) (fun k=>i-k) 0 ⟨Nat.zero_le _,rfl⟩ (wM (nr _) rfl (by simp[ToL,lk]) trivial) ?_;rintro k S' ⟨hk,hm⟩ hS;simp only[stNm5] at hS;subst hS;have hwk:=sW (i:=k) (by omega);repeat first|simp|refine sR ?_|refine sC ?_
    refine⟨fun hlk=>?_,fun hge=>?_⟩
    .have hkl:k<l.length:=by omega
     by_cases e2:l[k]=l[i]
     .have b2:(l[k].toList==l[i].toList)=true:=by rw[seq_dec];simp[e2]
      have hmm:=memS_hit hkl hlk;rw[e2] at hmm;rw[if_pos hmm] at hA;rw[hA] at hR;have hR:=hR (by decide);repeat first|simp[hlt,hkl,b2]|refine sR ?_
      refine sC ?_;repeat first|simp|refine sR ?_
      refine sT (sH Hb Ht ?_);simp[hE,hR]
     .have b2:(l[k].toList==l[i].toList)=false:=by rw[seq_dec];simp[e2]
      repeat first|simp[hlt,hkl,b2]|refine sR ?_
      refine sC ?_;simp;repeat first|simp[hwk]|refine sR ?_
      refine sE ?_;exact⟨k+1,⟨hlk,memS_more hkl hm fun h=>e2 h.symm⟩,by omega,wM (nr _) rfl (by simp[ToL,lk]) trivial⟩
    .refine sX ?_;simp only[AU,↓reduceIte];have:k=i:=by omega
     subst this;rw[if_neg (by simp[hm])] at hA;repeat first|simp[hw]|refine sR ?_
     refine sE ?_;exact⟨k+1,⟨hlt,by simp only[firstE,hok,hA,↓reduceIte]⟩,by omega,wM (nr _) rfl (by simp[ToL,lk]) trivial⟩
  .refine sX ?_;simp only[AU,↓reduceIte];repeat first|simp|refine sR ?_
   have:i=l.length:=by omega
   subst this;refine sT (sH Hb Ht ?_);simp[hE,hok]
abbrev At.av(a:At):AV:=.agg [Sb a.name,I a.lo,I a.hi,.d (strs a.names)]
abbrev NT.av(n:NT):AV:=.agg [Sb n.name,I n.par,B n.abs,.d (atts n.own)]
abbrev ET.av(e:ET):AV:=.agg [Sb e.name,I e.fr,I e.to,I e.ol,I e.oh,I e.il,I e.ih]
theorem any_takeG{α:Type}{p:α->Bool}{xs:List α}{i:Nat}(h:i<xs.length)(h1:∀x∈xs.take i,p x=false)(h2:p xs[i]=true):anyB p xs=true/\xs.findIdx p=i:=by
 refine⟨List.any_eq_true.2 ⟨_,List.getElem_mem h,h2⟩,?_⟩;rw[List.findIdx_eq h];refine⟨h2,fun j hj=>?_⟩;have:=h1 xs[j] (by
  rw[List.mem_take_iff_getElem];exact⟨j,by omega,rfl⟩)
 simpa using this
def stIA(xs:List At)(f:FuncId)(caps:List AV)(nb:Nat)(box:Bxs)(tok:Tks)(nt:Nat)(i:Nat):AS:=⟨tl [(0,.d (atts xs)),(1,.fn (.func f) caps),(7,I xs.length),(8,I i)],lb nb box [],tok,nt⟩
theorem indexFuncA_c(xs:List At)(f:FuncId)(caps:List AV)(p:At->Bool)(hx:xs.length<=1000000)(box:Bxs)(nb:Nat)(tok:Tks)(nt:Nat)(hc:∀c∈caps,OkIn (fun k=>box k≠none) (fun _=>True) c)(hf:∀x∈xs,∀box' nb',Ext box box'->ACalls prog f (x.av::caps) ⟨box',nb',tok,nt⟩ fun v m=>v=B (p x)/\m=⟨box',nb',tok,nt⟩):
  ACalls prog 300 [.d (atts xs),.fn (.func f) caps] ⟨box,nb,tok,nt⟩ fun v m=>v=I (if anyB p xs=true then (xs.findIdx p:Nat) else -1)/\m=⟨box,nb,tok,nt⟩:=by
 refine sI func300 ntmps300 fun Hb Ht=>?_
 repeat first|simp|refine sR ?_
 refine sN ?_;refine sL (stIA xs f caps nb box tok nt) (fun i=>i<=xs.length/\∀x∈xs.take i,p x=false) (fun i=>xs.length-i) 0 ⟨Nat.zero_le _,by simp⟩ (wM (nr _) rfl (by simp[ToL];exact .same (okFn hc Hb [] (by simp) rfl _)) trivial) ?_;rintro i S' ⟨hi,htk⟩ hS;simp only[stIA] at hS;subst hS;have hw:=sW (i:=i) (by omega);repeat first|simp|refine sR ?_|refine sC ?_
 refine⟨fun hlt=>?_,fun hge=>?_⟩
 .have hfx:=hf xs[i] (List.getElem_mem _);have hpx:p xs[i]=true->anyB p xs=true/\(xs.findIdx p=i):=fun he=>any_takeG hlt htk he
  have hmore:p xs[i]=false->∀x∈xs.take (i+1),p x=false:=fun he x hx=>by
   rw[List.take_succ_eq_append_getElem hlt] at hx;rcases List.mem_append.1 hx with hx|hx
   .exact htk x hx
   .simp at hx;rw[hx];exact he
  repeat first|simp[hlt]|refine sR ?_
  generalize xs[i]=x at *;refine Stop.of_b (hfx _ _ ((Ext.refl box).lb Hb [])) ?_;simp;cases he:p x
  .refine sC ?_;simp;repeat first|simp[hw]|refine sR ?_
   refine sE ?_;refine⟨i+1,⟨hlt,?_⟩,by omega,wM (nr _) rfl (by simp[ToL];exact .same (okFn hc Hb [] (by simp) rfl _)) trivial⟩;exact hmore he
  .obtain⟨h1,h2⟩:=hpx he;refine sC ?_;repeat first|simp|refine sR ?_
   refine sT (sH Hb Ht ?_);simp[h1,h2]
 .have hn:anyB p xs=false:=by
   rw[List.take_of_length_le hge] at htk;simpa[anyB] using htk
  refine sX ?_;simp only[AU,↓reduceIte];repeat first|simp|refine sR ?_
  refine sT (sH Hb Ht ?_);simp[hn]
theorem containsFuncA_c(xs:List At)(f:FuncId)(caps:List AV)(p:At->Bool)(hx:xs.length<=1000000)(box:Bxs)(nb:Nat)(tok:Tks)(nt:Nat)(hc:∀c∈caps,OkIn (fun k=>box k≠none) (fun _=>True) c)(hf:∀x∈xs,∀box' nb',Ext box box'->ACalls prog f (x.av::caps) ⟨box',nb',tok,nt⟩ fun v m=>v=B (p x)/\m=⟨box',nb',tok,nt⟩):
  ACalls prog 272 [.d (atts xs),.fn (.func f) caps] ⟨box,nb,tok,nt⟩ fun v m=>v=B (anyB p xs)/\m=⟨box,nb,tok,nt⟩:=by
 obtain⟨A,hany⟩:∃A,anyB p xs=A:=⟨_,rfl⟩
 have hi:=fun b nb' h1 h2=>indexFuncA_c xs f caps p hx b nb' tok nt h1 h2
 rw[hany];simp only[hany] at hi;refine sI func272 ntmps272 fun Hb Ht=>?_
 repeat first|simp|refine sR ?_
 refine Stop.of_b (hi (lb nb box []) _ (fun c h=>(hc c h).mono (fun k hk=>by rw[Hb];exact hk) fun _ h=>h) (fun x hx' box' nb' he=>hf x hx' box' nb' (by rw[Hb] at he;exact he))) ?_;simp;cases A
 .repeat first|simp|refine sR ?_
  refine sT (sH Hb Ht ?_);simp
 .have h0:(0:Int)<=(xs.findIdx p:Nat):=by omega
  repeat first|simp|refine sR ?_
  refine sT (sH Hb Ht ?_);simp[h0]
def stIN(xs:List NT)(f:FuncId)(caps:List AV)(nb:Nat)(box:Bxs)(tok:Tks)(nt:Nat)(i:Nat):AS:=⟨tl [(0,.d (nts xs)),(1,.fn (.func f) caps),(7,I xs.length),(8,I i)],lb nb box [],tok,nt⟩
theorem indexFuncN_c(xs:List NT)(f:FuncId)(caps:List AV)(p:NT->Bool)(hx:xs.length<=1000000)(box:Bxs)(nb:Nat)(tok:Tks)(nt:Nat)(hc:∀c∈caps,OkIn (fun k=>box k≠none) (fun _=>True) c)(hf:∀x∈xs,∀box' nb',Ext box box'->ACalls prog f (x.av::caps) ⟨box',nb',tok,nt⟩ fun v m=>v=B (p x)/\m=⟨box',nb',tok,nt⟩):
  ACalls prog 271 [.d (nts xs),.fn (.func f) caps] ⟨box,nb,tok,nt⟩ fun v m=>v=I (if anyB p xs=true then (xs.findIdx p:Nat) else -1)/\m=⟨box,nb,tok,nt⟩:=by
 refine sI func271 ntmps271 fun Hb Ht=>?_
 repeat first|simp|refine sR ?_
 refine sN ?_;refine sL (stIN xs f caps nb box tok nt) (fun i=>i<=xs.length/\∀x∈xs.take i,p x=false) (fun i=>xs.length-i) 0 ⟨Nat.zero_le _,by simp⟩ (wM (nr _) rfl (by simp[ToL];exact .same (okFn hc Hb [] (by simp) rfl _)) trivial) ?_;rintro i S' ⟨hi,htk⟩ hS;simp only[stIN] at hS;subst hS;have hw:=sW (i:=i) (by omega);repeat first|simp|refine sR ?_|refine sC ?_
 refine⟨fun hlt=>?_,fun hge=>?_⟩
 .have hfx:=hf xs[i] (List.getElem_mem _);have hpx:p xs[i]=true->anyB p xs=true/\(xs.findIdx p=i):=fun he=>any_takeG hlt htk he
  have hmore:p xs[i]=false->∀x∈xs.take (i+1),p x=false:=fun he x hx=>by
   rw[List.take_succ_eq_append_getElem hlt] at hx;rcases List.mem_append.1 hx with hx|hx
   .exact htk x hx
   .simp at hx;rw[hx];exact he
  repeat first|simp[hlt]|refine sR ?_
  generalize xs[i]=x at *;refine Stop.of_b (hfx _ _ ((Ext.refl box).lb Hb [])) ?_;simp;cases he:p x
  .refine sC ?_;simp;repeat first|simp[hw]|refine sR ?_
   refine sE ?_;refine⟨i+1,⟨hlt,?_⟩,by omega,wM (nr _) rfl (by simp[ToL];exact .same (okFn hc Hb [] (by simp) rfl _)) trivial⟩;exact hmore he
  .obtain⟨h1,h2⟩:=hpx he;refine sC ?_;repeat first|simp|refine sR ?_
   refine sT (sH Hb Ht ?_);simp[h1,h2]
 .have hn:anyB p xs=false:=by
   rw[List.take_of_length_le hge] at htk;simpa[anyB] using htk
  refine sX ?_;simp only[AU,↓reduceIte];repeat first|simp|refine sR ?_
  refine sT (sH Hb Ht ?_);simp[hn]
theorem containsFuncN_c(xs:List NT)(f:FuncId)(caps:List AV)(p:NT->Bool)(hx:xs.length<=1000000)(box:Bxs)(nb:Nat)(tok:Tks)(nt:Nat)(hc:∀c∈caps,OkIn (fun k=>box k≠none) (fun _=>True) c)(hf:∀x∈xs,∀box' nb',Ext box box'->ACalls prog f (x.av::caps) ⟨box',nb',tok,nt⟩ fun v m=>v=B (p x)/\m=⟨box',nb',tok,nt⟩):
  ACalls prog 221 [.d (nts xs),.fn (.func f) caps] ⟨box,nb,tok,nt⟩ fun v m=>v=B (anyB p xs)/\m=⟨box,nb,tok,nt⟩:=by
 obtain⟨A,hany⟩:∃A,anyB p xs=A:=⟨_,rfl⟩
 have hi:=fun b nb' h1 h2=>indexFuncN_c xs f caps p hx b nb' tok nt h1 h2
 rw[hany];simp only[hany] at hi;refine sI func221 ntmps221 fun Hb Ht=>?_
 repeat first|simp|refine sR ?_
 refine Stop.of_b (hi (lb nb box []) _ (fun c h=>(hc c h).mono (fun k hk=>by rw[Hb];exact hk) fun _ h=>h) (fun x hx' box' nb' he=>hf x hx' box' nb' (by rw[Hb] at he;exact he))) ?_;simp;cases A
 .repeat first|simp|refine sR ?_
  refine sT (sH Hb Ht ?_);simp
 .have h0:(0:Int)<=(xs.findIdx p:Nat):=by omega
  repeat first|simp|refine sR ?_
  refine sT (sH Hb Ht ?_);simp[h0]
def stIE2(xs:List ET)(f:FuncId)(caps:List AV)(nb:Nat)(box:Bxs)(tok:Tks)(nt:Nat)(i:Nat):AS:=⟨tl [(0,.d (ets xs)),(1,.fn (.func f) caps),(7,I xs.length),(8,I i)],lb nb box [],tok,nt⟩
theorem indexFuncE2_c(xs:List ET)(f:FuncId)(caps:List AV)(p:ET->Bool)(hx:xs.length<=1000000)(box:Bxs)(nb:Nat)(tok:Tks)(nt:Nat)(hc:∀c∈caps,OkIn (fun k=>box k≠none) (fun _=>True) c)(hf:∀x∈xs,∀box' nb',Ext box box'->ACalls prog f (x.av::caps) ⟨box',nb',tok,nt⟩ fun v m=>v=B (p x)/\m=⟨box',nb',tok,nt⟩):
  ACalls prog 275 [.d (ets xs),.fn (.func f) caps] ⟨box,nb,tok,nt⟩ fun v m=>v=I (if anyB p xs=true then (xs.findIdx p:Nat) else -1)/\m=⟨box,nb,tok,nt⟩:=by
 refine sI func275 ntmps275 fun Hb Ht=>?_
 repeat first|simp|refine sR ?_
 refine sN ?_;refine sL (stIE2 xs f caps nb box tok nt) (fun i=>i<=xs.length/\∀x∈xs.take i,p x=false) (fun i=>xs.length-i) 0 ⟨Nat.zero_le _,by simp⟩ (wM (nr _) rfl (by simp[ToL];exact .same (okFn hc Hb [] (by simp) rfl _)) trivial) ?_;rintro i S' ⟨hi,htk⟩ hS;simp only[stIE2] at hS;subst hS;have hw:=sW (i:=i) (by omega);repeat first|simp|refine sR ?_|refine sC ?_
 refine⟨fun hlt=>?_,fun hge=>?_⟩
 .have hfx:=hf xs[i] (List.getElem_mem _);have hpx:p xs[i]=true->anyB p xs=true/\(xs.findIdx p=i):=fun he=>any_takeG hlt htk he
  have hmore:p xs[i]=false->∀x∈xs.take (i+1),p x=false:=fun he x hx=>by
   rw[List.take_succ_eq_append_getElem hlt] at hx;rcases List.mem_append.1 hx with hx|hx
   .exact htk x hx
   .simp at hx;rw[hx];exact he
  repeat first|simp[hlt]|refine sR ?_
  generalize xs[i]=x at *;refine Stop.of_b (hfx _ _ ((Ext.refl box).lb Hb [])) ?_;simp;cases he:p x
  .refine sC ?_;simp;repeat first|simp[hw]|refine sR ?_
   refine sE ?_;refine⟨i+1,⟨hlt,?_⟩,by omega,wM (nr _) rfl (by simp[ToL];exact .same (okFn hc Hb [] (by simp) rfl _)) trivial⟩;exact hmore he
  .obtain⟨h1,h2⟩:=hpx he;refine sC ?_;repeat first|simp|refine sR ?_
   refine sT (sH Hb Ht ?_);simp[h1,h2]
 .have hn:anyB p xs=false:=by
   rw[List.take_of_length_le hge] at htk;simpa[anyB] using htk
  refine sX ?_;simp only[AU,↓reduceIte];repeat first|simp|refine sR ?_
  refine sT (sH Hb Ht ?_);simp[hn]
theorem containsFuncE2_c(xs:List ET)(f:FuncId)(caps:List AV)(p:ET->Bool)(hx:xs.length<=1000000)(box:Bxs)(nb:Nat)(tok:Tks)(nt:Nat)(hc:∀c∈caps,OkIn (fun k=>box k≠none) (fun _=>True) c)(hf:∀x∈xs,∀box' nb',Ext box box'->ACalls prog f (x.av::caps) ⟨box',nb',tok,nt⟩ fun v m=>v=B (p x)/\m=⟨box',nb',tok,nt⟩):
  ACalls prog 226 [.d (ets xs),.fn (.func f) caps] ⟨box,nb,tok,nt⟩ fun v m=>v=B (anyB p xs)/\m=⟨box,nb,tok,nt⟩:=by
 obtain⟨A,hany⟩:∃A,anyB p xs=A:=⟨_,rfl⟩
 have hi:=fun b nb' h1 h2=>indexFuncE2_c xs f caps p hx b nb' tok nt h1 h2
 rw[hany];simp only[hany] at hi;refine sI func226 ntmps226 fun Hb Ht=>?_
 repeat first|simp|refine sR ?_
 refine Stop.of_b (hi (lb nb box []) _ (fun c h=>(hc c h).mono (fun k hk=>by rw[Hb];exact hk) fun _ h=>h) (fun x hx' box' nb' he=>hf x hx' box' nb' (by rw[Hb] at he;exact he))) ?_;simp;cases A
 .repeat first|simp|refine sR ?_
  refine sT (sH Hb Ht ?_);simp
 .have h0:(0:Int)<=(xs.findIdx p:Nat):=by omega
  repeat first|simp|refine sR ?_
  refine sT (sH Hb Ht ?_);simp[h0]
abbrev At.row(a:At):List AV:=[Sb a.name,I a.lo,I a.hi,.d (strs a.names)]
theorem attr1_c(x y:At)(box:Bxs)(nb k:Nat)(tok:Tks)(nt:Nat)(h1:box k=some [x.row]):
  ACalls prog 273 [y.av,.ptr k 0 0] ⟨box,nb,tok,nt⟩ fun v m=>v=B (decide (y.name=x.name))/\m=⟨box,nb,tok,nt⟩:=by
 refine sI func273 ntmps273 fun Hb Ht=>?_
 have k1n:=key_lt Hb h1;rw[<-seq_dec];repeat first|simp[lO k1n,h1]|refine sR ?_
 refine sT (sH Hb Ht ?_);simp
def rngA(x:At):Bool:=if x.names.length=0 then decide (-1000000<=x.lo/\x.lo<=x.hi/\x.hi<=1000000) else decide (x.lo=0/\x.hi=(x.names.length:Int)-1)
def attE(x:At)(before:List At):Int:=if nameB x.name=false then 2 else if anyB (fun y=>decide (y.name=x.name)) before=true then 5 else if nmsE x.names≠0 then nmsE x.names else if rngA x=true then 0 else 6
structure At.Fit (a:At):Prop where
 n:a.name.size<=1000000000000
 l:NmFit a.names
theorem attribute_c(x:At)(before:List At)(hx:x.Fit)(hb:before.length<=1000000):DC 224 [x.av,.d (atts before)] (I (attE x before)):=by
 intro tok nt box nb;have h1:=isName_c x.name (Nat.le_trans hx.n (by decide));have h3:=names_c x.names hx.l;cases e1:nameB x.name
 .rw[e1] at h1;rw[show attE x before=2 by rw[attE,if_pos e1]];refine sI func224 ntmps224 fun Hb Ht=>?_
  repeat first|simp|refine sR ?_
  refine sD (h1 _ _) ?_;repeat first|simp|refine sR ?_
  refine sC ?_;repeat first|simp|refine sR ?_
  refine sT (sH Hb Ht ?_);simp
 .rw[e1] at h1;have hA:attE x before=if anyB (fun y=>decide (y.name=x.name)) before=true then 5 else if nmsE x.names≠0 then nmsE x.names else if rngA x=true then 0 else 6:=by rw[attE,if_neg (by simp[e1])]
  obtain⟨N,hN⟩:∃N,attE x before=N:=⟨_,rfl⟩
  rw[hN] at hA ⊢;obtain⟨p,hp⟩:∃p:At->Bool,(fun y=>decide (y.name=x.name))=p:=⟨_,rfl⟩
  have h2:=fun y box nb k h=>attr1_c x y box nb k tok nt h
  have hpp:∀y:At,decide (y.name=x.name)=p y:=fun y=>by rw[<-hp]
  simp only[hpp] at h2;rw[hp] at hA;have hcap:∀c∈[AV.ptr (nb+2) 0 0],OkIn (fun k=>(lb nb box [(2,[x.row])]) k≠none) (fun _=>True) c:=by
   intro c hc;rw[List.mem_singleton.1 hc];simp[lb_at]
  refine sI func224 ntmps224 fun Hb Ht=>?_
  repeat first|simp|refine sR ?_
  refine sD (h1 _ _) ?_;repeat first|simp|refine sR ?_
  refine sC ?_;repeat first|simp|refine sR ?_
  refine Stop.of_b (containsFuncA_c before 273 [.ptr (nb+2) 0 0] p hb _ _ _ _ hcap (fun y hy box' nb' he=>h2 y box' nb' _ (he _ _ (by simp[lb_at])))) ?_;repeat first|simp|refine sR ?_
  cases e2:anyB p before
  .rw[e2,if_neg (by simp)] at hA;refine sC ?_;repeat first|simp|refine sR ?_
   refine sD (h3 _ _) ?_;repeat first|simp|refine sR ?_
   by_cases e3:nmsE x.names=0
   .rw[if_neg (by simp[e3])] at hA;simp only[e3];refine sC ?_;simp;by_cases c1 : -1000000<=x.lo
    .by_cases c2:x.lo<=x.hi
     .by_cases c3:x.hi<=1000000
      .repeat first|simp[c1,c2,c3]|refine sR ?_
       by_cases z:x.names.length=0
       .have z2:¬0<x.names.length:=by omega
        have hr:rngA x=true:=by rw[rngA,if_pos z];simp only[decide_eq_true_eq,decide_eq_false_iff_not];omega
        rw[hr] at hA;refine sC ?_;simp[z2];repeat first|simp|refine sR ?_
        refine sC ?_;repeat first|simp|refine sR ?_
        refine sT (sH Hb Ht ?_);simp[hA]
       .have z2:0<x.names.length:=by omega
        have hr:rngA x=decide (x.lo=0/\x.hi=(x.names.length:Int)-1):=if_neg z
        rw[hr] at hA;have hln:=hx.l.n;have w:IntKind.i64.wrap ((x.names.length:Int)-1)=(x.names.length:Int)-1:=wrap_in (by omega) (by omega)
        by_cases l0:x.lo=0
        .have b0:(x.lo==0)=true:=by simp[l0]
         by_cases h0:x.hi=(x.names.length:Int)-1
         .have b1:(x.hi==(x.names.length:Int)-1)=true:=by simp[h0]
          refine sC ?_;simp[z2];repeat first|simp[w,b0,b1]|refine sR ?_
          refine sC ?_;repeat first|simp|refine sR ?_
          refine sT (sH Hb Ht ?_);simp[hA,l0,h0]
         .have b1:(x.hi==(x.names.length:Int)-1)=false:=by simp[h0]
          refine sC ?_;simp[z2];repeat first|simp[w,b0,b1]|refine sR ?_
          refine sC ?_;repeat first|simp|refine sR ?_
          refine sT (sH Hb Ht ?_);simp[hA,l0,h0]
        .have b0:(x.lo==0)=false:=by simp[l0]
         refine sC ?_;simp[z2];repeat first|simp[w,b0]|refine sR ?_
         refine sC ?_;repeat first|simp|refine sR ?_
         refine sT (sH Hb Ht ?_);simp[hA,l0]
      .repeat first|simp[c1,c2,c3]|refine sR ?_
       by_cases z:x.names.length=0
       .have z2:¬0<x.names.length:=by omega
        have hr:rngA x=false:=by rw[rngA,if_pos z];simp only[decide_eq_true_eq,decide_eq_false_iff_not];omega
        rw[hr] at hA;refine sC ?_;simp[z2];repeat first|simp|refine sR ?_
        refine sC ?_;repeat first|simp|refine sR ?_
        refine sT (sH Hb Ht ?_);simp[hA]
       .have z2:0<x.names.length:=by omega
        have hr:rngA x=decide (x.lo=0/\x.hi=(x.names.length:Int)-1):=if_neg z
        rw[hr] at hA;have hln:=hx.l.n;have w:IntKind.i64.wrap ((x.names.length:Int)-1)=(x.names.length:Int)-1:=wrap_in (by omega) (by omega)
        by_cases l0:x.lo=0
        .have b0:(x.lo==0)=true:=by simp[l0]
         by_cases h0:x.hi=(x.names.length:Int)-1
         .have b1:(x.hi==(x.names.length:Int)-1)=true:=by simp[h0]
          refine sC ?_;simp[z2];repeat first|simp[w,b0,b1]|refine sR ?_
          refine sC ?_;repeat first|simp|refine sR ?_
          refine sT (sH Hb Ht ?_);simp[hA,l0,h0]
         .have b1:(x.hi==(x.names.length:Int)-1)=false:=by simp[h0]
          refine sC ?_;simp[z2];repeat first|simp[w,b0,b1]|refine sR ?_
          refine sC ?_;repeat first|simp|refine sR ?_
          refine sT (sH Hb Ht ?_);simp[hA,l0,h0]
        .have b0:(x.lo==0)=false:=by simp[l0]
         refine sC ?_;simp[z2];repeat first|simp[w,b0]|refine sR ?_
         refine sC ?_;repeat first|simp|refine sR ?_
         refine sT (sH Hb Ht ?_);simp[hA,l0]
     .repeat first|simp[c1,c2]|refine sR ?_
      by_cases z:x.names.length=0
      .have z2:¬0<x.names.length:=by omega
       have hr:rngA x=false:=by rw[rngA,if_pos z];simp only[decide_eq_true_eq,decide_eq_false_iff_not];omega
       rw[hr] at hA;refine sC ?_;simp[z2];repeat first|simp|refine sR ?_
       refine sC ?_;repeat first|simp|refine sR ?_
       refine sT (sH Hb Ht ?_);simp[hA]
      .have z2:0<x.names.length:=by omega
       have hr:rngA x=decide (x.lo=0/\x.hi=(x.names.length:Int)-1):=if_neg z
       rw[hr] at hA;have hln:=hx.l.n;have w:IntKind.i64.wrap ((x.names.length:Int)-1)=(x.names.length:Int)-1:=wrap_in (by omega) (by omega)
       by_cases l0:x.lo=0
       .have b0:(x.lo==0)=true:=by simp[l0]
        by_cases h0:x.hi=(x.names.length:Int)-1
        .have b1:(x.hi==(x.names.length:Int)-1)=true:=by simp[h0]
         refine sC ?_;simp[z2];repeat first|simp[w,b0,b1]|refine sR ?_
         refine sC ?_;repeat first|simp|refine sR ?_
         refine sT (sH Hb Ht ?_);simp[hA,l0,h0]
        .have b1:(x.hi==(x.names.length:Int)-1)=false:=by simp[h0]
         refine sC ?_;simp[z2];repeat first|simp[w,b0,b1]|refine sR ?_
         refine sC ?_;repeat first|simp|refine sR ?_
         refine sT (sH Hb Ht ?_);simp[hA,l0,h0]
       .have b0:(x.lo==0)=false:=by simp[l0]
        refine sC ?_;simp[z2];repeat first|simp[w,b0]|refine sR ?_
        refine sC ?_;repeat first|simp|refine sR ?_
        refine sT (sH Hb Ht ?_);simp[hA,l0]
    .repeat first|simp[c1]|refine sR ?_
     by_cases z:x.names.length=0
     .have z2:¬0<x.names.length:=by omega
      have hr:rngA x=false:=by rw[rngA,if_pos z];simp only[decide_eq_true_eq,decide_eq_false_iff_not];omega
      rw[hr] at hA;refine sC ?_;simp[z2];repeat first|simp|refine sR ?_
      refine sC ?_;repeat first|simp|refine sR ?_
      refine sT (sH Hb Ht ?_);simp[hA]
     .have z2:0<x.names.length:=by omega
      have hr:rngA x=decide (x.lo=0/\x.hi=(x.names.length:Int)-1):=if_neg z
      rw[hr] at hA;have hln:=hx.l.n;have w:IntKind.i64.wrap ((x.names.length:Int)-1)=(x.names.length:Int)-1:=wrap_in (by omega) (by omega)
      by_cases l0:x.lo=0
      .have b0:(x.lo==0)=true:=by simp[l0]
       by_cases h0:x.hi=(x.names.length:Int)-1
       .have b1:(x.hi==(x.names.length:Int)-1)=true:=by simp[h0]
        refine sC ?_;simp[z2];repeat first|simp[w,b0,b1]|refine sR ?_
        refine sC ?_;repeat first|simp|refine sR ?_
        refine sT (sH Hb Ht ?_);simp[hA,l0,h0]
       .have b1:(x.hi==(x.names.length:Int)-1)=false:=by simp[h0]
        refine sC ?_;simp[z2];repeat first|simp[w,b0,b1]|refine sR ?_
        refine sC ?_;repeat first|simp|refine sR ?_
        refine sT (sH Hb Ht ?_);simp[hA,l0,h0]
      .have b0:(x.lo==0)=false:=by simp[l0]
       refine sC ?_;simp[z2];repeat first|simp[w,b0]|refine sR ?_
       refine sC ?_;repeat first|simp|refine sR ?_
       refine sT (sH Hb Ht ?_);simp[hA,l0]
   .rw[if_pos e3] at hA;have b3:(nmsE x.names != 0)=true:=by simp[e3]
    simp only[b3];refine sC ?_;repeat first|simp|refine sR ?_
    refine sT (sH Hb Ht ?_);simp[hA]
  .rw[e2,if_pos rfl] at hA;refine sC ?_;repeat first|simp|refine sR ?_
   refine sT (sH Hb Ht ?_);simp[hA]
def inZ(n lo hi:Int):Bool:=decide (lo<=n/\n<=hi)
theorem in04_c(n lo hi:Int):DC 183 [I n,I lo,I hi] (B (inZ n lo hi)):=by
 intro tok nt box nb;by_cases h1:lo<=n
 .by_cases h2:n<=hi
  .refine sI func183 ntmps183 fun Hb Ht=>?_
   repeat first|simp[h1,h2]|refine sR ?_
   refine sT (sH Hb Ht ?_);simp[inZ,h1,h2]
  .refine sI func183 ntmps183 fun Hb Ht=>?_
   repeat first|simp[h1,h2]|refine sR ?_
   refine sT (sH Hb Ht ?_);simp[inZ,h1,h2]
 .refine sI func183 ntmps183 fun Hb Ht=>?_
  repeat first|simp[h1]|refine sR ?_
  refine sT (sH Hb Ht ?_);simp[inZ,h1]
def attS(x:At):Int:=if nmsE x.names≠0 then nmsE x.names else if rngA x=true then 0 else 6
theorem attribute04_c(x:At)(hx:x.Fit):DC 238 [x.av] (I (attS x)):=by
 intro tok nt box nb;have h3:=names04_c x.names hx.l;have i1:=in04_c x.lo (-1000000) 1000000;have i2:=in04_c x.hi x.lo 1000000;obtain⟨N,hN⟩:∃N,attS x=N:=⟨_,rfl⟩
 rw[hN];unfold attS at hN;by_cases z:x.names.length=0
 .have z0:nmsE x.names=0:=by
   have:x.names=[]:=List.length_eq_zero_iff.1 z
   rw[this];rfl
  rw[if_neg (by simp[z0])] at hN;have hr:rngA x=decide (-1000000<=x.lo/\x.lo<=x.hi/\x.hi<=1000000):=by rw[rngA,if_pos z]
  have zl:x.names=[]:=List.length_eq_zero_iff.1 z
  cases e1:inZ x.lo (-1000000) 1000000
  .have r1:rngA x=false:=by
    rw[hr];simp only[inZ,decide_eq_false_iff_not] at e1 ⊢;omega
   rw[r1] at hN;rw[e1] at i1;refine sI func238 ntmps238 fun Hb Ht=>?_
   repeat first|simp[z,zl]|refine sR ?_|refine sC ?_
   refine sD (i1 _ _) ?_;repeat first|simp|refine sR ?_
   refine sC ?_;repeat first|simp|refine sR ?_
   refine sT (sH Hb Ht ?_);simp[<-hN]
  .cases e2:inZ x.hi x.lo 1000000
   .have r1:rngA x=false:=by
     rw[hr];simp only[inZ,decide_eq_false_iff_not,decide_eq_true_eq] at e1 e2 ⊢;omega
    rw[r1] at hN;rw[e1] at i1;rw[e2] at i2;refine sI func238 ntmps238 fun Hb Ht=>?_
    repeat first|simp[z,zl]|refine sR ?_|refine sC ?_
    refine sD (i1 _ _) ?_;repeat first|simp|refine sR ?_
    refine sD (i2 _ _) ?_;repeat first|simp|refine sR ?_
    refine sC ?_;repeat first|simp|refine sR ?_
    refine sT (sH Hb Ht ?_);simp[<-hN]
   .have r1:rngA x=true:=by
     rw[hr];simp only[inZ,decide_eq_true_eq] at e1 e2 ⊢;omega
    rw[r1] at hN;rw[e1] at i1;rw[e2] at i2;refine sI func238 ntmps238 fun Hb Ht=>?_
    repeat first|simp[z,zl]|refine sR ?_|refine sC ?_
    refine sD (i1 _ _) ?_;repeat first|simp|refine sR ?_
    refine sD (i2 _ _) ?_;repeat first|simp|refine sR ?_
    refine sC ?_;repeat first|simp|refine sR ?_
    refine sT (sH Hb Ht ?_);simp[<-hN]
 .have zl:¬x.names=[]:=fun h=>z (by rw[h];rfl)
  have hr:rngA x=decide (x.lo=0/\x.hi=(x.names.length:Int)-1):=if_neg z
  rw[hr] at hN;have hln:=hx.l.n;have w:IntKind.i64.wrap ((x.names.length:Int)-1)=(x.names.length:Int)-1:=wrap_in (by omega) (by omega)
  refine sI func238 ntmps238 fun Hb Ht=>?_
  repeat first|simp[z,zl]|refine sR ?_|refine sC ?_
  refine sD (h3 _ _) ?_;repeat first|simp|refine sR ?_
  by_cases e3:nmsE x.names=0
  .rw[if_neg (by simp[e3])] at hN;simp only[e3];refine sC ?_;simp;by_cases l0:x.lo=0
   .have b0:(x.lo != 0)=false:=by simp[l0]
    by_cases h0:x.hi=(x.names.length:Int)-1
    .have b1:(x.hi != (x.names.length:Int)-1)=false:=by simp[h0]
     repeat first|simp[w,b0,b1]|refine sR ?_
     refine sC ?_;repeat first|simp|refine sR ?_
     refine sT (sH Hb Ht ?_);simp[<-hN,l0,h0]
    .have b1:(x.hi != (x.names.length:Int)-1)=true:=by simp[h0]
     repeat first|simp[w,b0,b1]|refine sR ?_
     refine sC ?_;repeat first|simp|refine sR ?_
     refine sT (sH Hb Ht ?_);simp[<-hN,l0,h0]
   .have b0:(x.lo != 0)=true:=by simp[l0]
    repeat first|simp[w,b0]|refine sR ?_
    refine sC ?_;repeat first|simp|refine sR ?_
    refine sT (sH Hb Ht ?_);simp[<-hN,l0]
  .rw[if_pos e3] at hN;have b3:(nmsE x.names != 0)=true:=by simp[e3]
   simp only[b3];refine sC ?_;repeat first|simp|refine sR ?_
   refine sT (sH Hb Ht ?_);simp[<-hN]
instance:Inhabited NT:=⟨⟨eB,0,false,[]⟩⟩
def Ty.nd(t:Ty)(i:Nat):NT:=t.nodes.getD i default
def atsL(t:Ty)(i:Nat):List At:=if h:0<=(t.nd i).par/\(t.nd i).par.toNat<i then atsL t (t.nd i).par.toNat++(t.nd i).own else (t.nd i).own
termination_by i
decreasing_by exact h.2
theorem atsL_up{t:Ty}{i:Nat}(h:0<=(t.nd i).par)(h2:(t.nd i).par.toNat<i):atsL t i=atsL t (t.nd i).par.toNat++(t.nd i).own:=by rw[atsL,dif_pos ⟨h,h2⟩]
theorem atsL_top{t:Ty}{i:Nat}(h:¬0<=(t.nd i).par):atsL t i=(t.nd i).own:=by rw[atsL,dif_neg fun h2=>h h2.1]
theorem atsL_len{t:Ty}{M:Nat}(hM:∀i,(t.nd i).own.length<=M):∀n i,i<n->(atsL t i).length<=(i+1)*M
 | 0,i,hi=>absurd hi (Nat.not_lt_zero _)
 | n+1,i,hi=>by
  have hm:=hM i;by_cases h:0<=(t.nd i).par/\(t.nd i).par.toNat<i
  .have ih:=atsL_len hM n (t.nd i).par.toNat (by omega);rw[atsL_up h.1 h.2,List.length_append];have:((t.nd i).par.toNat+1)*M<=i*M:=Nat.mul_le_mul_right _ (by omega)
   rw[Nat.add_mul,Nat.one_mul];omega
  .rw[atsL,dif_neg h];have:M<=(i+1)*M:=Nat.le_mul_of_pos_left _ (by omega)
   omega
structure Ty.Fit (t:Ty):Prop where
 n:t.nodes.length<=1000
 e:t.edges.length<=1000
 nn:∀x∈t.nodes,x.name.size<=1000000000000
 en:∀x∈t.edges,x.name.size<=1000000000000
 a:∀x∈t.nodes,x.own.length<=1000/\∀y∈x.own,y.Fit
theorem nd_at{t:Ty}{i:Nat}(h:i<t.nodes.length):t.nd i=t.nodes[i]:=by simp[Ty.nd,h]
theorem attrs_c(t:Ty)(ht:t.Fit)(hM:∀i,(t.nd i).own.length<=1000):∀(n i:Nat),i<n->i<t.nodes.length->(∀j,j<=i->(t.nd j).par<j)->∀(tok:Tks) (nt:Nat),∃tok' nt' o,((∀q,tok q=true->q<nt)->TK tok nt tok' nt' [o]) /\
  DCall prog 223 [t.av,I i] tok nt (.osl 4 ((atsL t i).map At.cells) o) tok' nt'
 | 0,i,hi,_,_,_,_=>absurd hi (Nat.not_lt_zero _)
 | n+1,i,hi,hlt,hp,tok,nt=>by
  have hnd:=nd_at hlt;by_cases h0:0<=(t.nd i).par
  .have hpi:=hp i (nr _);obtain⟨tok1,nt1,o1,hk,hc⟩:=attrs_c t ht hM n (t.nd i).par.toNat (by omega) (by omega) (fun j hj=>hp j (by omega)) tok nt;have hL:=atsL_up h0 (by omega);have hl1:=atsL_len hM (i+1) (t.nd i).par.toNat (by omega);have hl2:=hM i;have hb:((t.nd i).par.toNat+1)*1000<=1000*1000:=Nat.mul_le_mul_right _ (by have:=ht.n;omega)
   refine⟨_,_,.tok nt1,fun h=>(hk h).app,?_⟩;rw[hL];rw[Int.toNat_of_nonneg h0] at hc;generalize atsL t (t.nd i).par.toNat=Q at *;rw[hnd] at h0 hc hl2 ⊢;intro box nb;have hc:=hc;refine sI func223 ntmps223 fun Hb Ht=>?_
   have hkk:=hk Ht;repeat first|simp[hlt]|refine sR ?_
   refine sC ?_;simp[h0];repeat first|simp|refine sR ?_
   refine sD (hc) ?_;simp;repeat first|simp[hlt]|refine sR ?_
   refine⟨⟨by omega,hkk.live⟩,?_⟩;refine sN ?_;refine AL.ret ?_;try simp only[AU]
   refine⟨by simp,Fin.own (by simp[resAs,resA];rfl) Hb rfl hkk.app.le ?_⟩;simp
  .have hL:=atsL_top h0;have hl2:=hM i;refine⟨_,_,.tok nt,fun h=>(TK.start h).full.app,?_⟩;rw[hL];rw[hnd] at h0 hl2 ⊢;intro box nb;refine sI func223 ntmps223 fun Hb Ht=>?_
   have hkk:=(TK.start Ht).full;repeat first|simp[hlt]|refine sR ?_
   refine sC ?_;simp[h0];repeat first|simp[hlt]|refine sR ?_
   refine⟨by omega,?_⟩;refine sN ?_;refine AL.ret ?_;try simp only[AU]
   refine⟨by simp,Fin.own (by simp[resAs,resA];rfl) Hb rfl (by simp) ?_⟩;simp
theorem attrsNeg_c(t:Ty)(a:Int)(h:a<0):DC 237 [t.av,I a] (.osl 0 [] .full):=by
 intro tok nt box nb;refine sI func237 ntmps237 fun Hb Ht=>?_
 repeat first|simp[h]|refine sR ?_|refine sC ?_
 refine sT (sH Hb Ht ?_);simp
theorem attrs04_c(t:Ty)(ht:t.Fit)(hM:∀i,(t.nd i).own.length<=1000):∀(n i:Nat),i<n->i<t.nodes.length->(∀j,j<=i->(t.nd j).par<j)->∀(tok:Tks) (nt:Nat),∃tok' nt' o,((∀q,tok q=true->q<nt)->TK tok nt tok' nt' [o]) /\
  DCall prog 237 [t.av,I i] tok nt (.osl 4 ((atsL t i).map At.cells) o) tok' nt'
 | 0,i,hi,_,_,_,_=>absurd hi (Nat.not_lt_zero _)
 | n+1,i,hi,hlt,hp,tok,nt=>by
  have hnd:=nd_at hlt;have hi0:¬(i:Int)<0:=by omega
  by_cases h0:0<=(t.nd i).par
  .have hpi:=hp i (nr _);obtain⟨tok1,nt1,o1,hk,hc⟩:=attrs04_c t ht hM n (t.nd i).par.toNat (by omega) (by omega) (fun j hj=>hp j (by omega)) tok nt;have hL:=atsL_up h0 (by omega);have hl1:=atsL_len hM (i+1) (t.nd i).par.toNat (by omega);have hl2:=hM i;have hb:((t.nd i).par.toNat+1)*1000<=1000*1000:=Nat.mul_le_mul_right _ (by have:=ht.n;omega)
   refine⟨_,_,.tok (nt1+1),fun h=>(hk h).tail.full.app.app,?_⟩;rw[hL];rw[Int.toNat_of_nonneg h0] at hc;generalize atsL t (t.nd i).par.toNat=Q at *;rw[hnd] at h0 hc hl2 ⊢;intro box nb;refine sI func237 ntmps237 fun Hb Ht=>?_
   have hkk:=hk Ht;repeat first|simp[hi0]|refine sR ?_
   refine sC ?_;simp[hi0];repeat first|simp[hlt]|refine sR ?_
   refine sD (hc) ?_;simp;repeat first|simp[hlt]|refine sR ?_
   first|refine⟨by omega,⟨by omega,uS _ _ _⟩,?_⟩|refine⟨⟨by omega,uS _ _ _⟩,?_⟩|refine⟨by omega,uS _ _ _,?_⟩|trace_state
   refine sN ?_;refine AL.ret ?_;try simp only[AU]
   refine⟨by simp,Fin.own (by simp[resAs,resA];rfl) Hb rfl hkk.tail.full.app.app.le ?_⟩;simp
  .have hL:=atsL_top h0;have hl2:=hM i;have hc:=attrsNeg_c t (t.nd i).par (by omega) tok nt;refine⟨_,_,.tok (nt+1),fun h=>(TK.start h).full.app.app,?_⟩;rw[hL];rw[hnd] at h0 hc hl2 ⊢;intro box nb;refine sI func237 ntmps237 fun Hb Ht=>?_
   have hkk:=(TK.start Ht).full;repeat first|simp[hi0]|refine sR ?_
   refine sC ?_;simp[hi0];repeat first|simp[hlt]|refine sR ?_
   refine sD (hc) ?_;simp;repeat first|simp[hlt]|refine sR ?_
   first|refine⟨by omega,⟨by omega,uS _ _ _⟩,?_⟩|refine⟨⟨by omega,uS _ _ _⟩,?_⟩|refine⟨by omega,uS _ _ _,?_⟩|trace_state
   refine sN ?_;refine AL.ret ?_;try simp only[AU]
   refine⟨by simp,Fin.own (by simp[resAs,resA];rfl) Hb rfl hkk.app.app.le ?_⟩;simp
def bndB(lo hi:Int):Bool:=decide (0<=lo/\lo<=40)&&(hi == -1||decide (lo<=hi/\hi<=40))
theorem bounded_c(lo hi:Int):DC 228 [I lo,I hi] (B (bndB lo hi)):=by
 intro tok nt box nb;by_cases h1:0<=lo
 .by_cases h2:lo<=40
  .cases h3:(hi == -1)
   .by_cases h4:lo<=hi
    .by_cases h5:hi<=40
     .refine sI func228 ntmps228 fun Hb Ht=>?_
      repeat first|simp[h1,h2,h3,h4,h5]|refine sR ?_
      refine sT (sH Hb Ht ?_);simp[bndB,h1,h2,h3,h4,h5]
     .refine sI func228 ntmps228 fun Hb Ht=>?_
      repeat first|simp[h1,h2,h3,h4,h5]|refine sR ?_
      refine sT (sH Hb Ht ?_);simp[bndB,h1,h2,h3,h4,h5]
    .refine sI func228 ntmps228 fun Hb Ht=>?_
     repeat first|simp[h1,h2,h3,h4]|refine sR ?_
     refine sT (sH Hb Ht ?_);simp[bndB,h1,h2,h3,h4]
   .refine sI func228 ntmps228 fun Hb Ht=>?_
    repeat first|simp[h1,h2,h3]|refine sR ?_
    refine sT (sH Hb Ht ?_);simp[bndB,h1,h2,h3]
  .refine sI func228 ntmps228 fun Hb Ht=>?_
   repeat first|simp[h1,h2]|refine sR ?_
   refine sT (sH Hb Ht ?_);simp[bndB,h1,h2]
 .refine sI func228 ntmps228 fun Hb Ht=>?_
  repeat first|simp[h1]|refine sR ?_
  refine sT (sH Hb Ht ?_);simp[bndB,h1]
abbrev NT.row(n:NT):List AV:=[Sb n.name,I n.par,B n.abs,.d (atts n.own)]
abbrev ET.row(e:ET):List AV:=[Sb e.name,I e.fr,I e.to,I e.ol,I e.oh,I e.il,I e.ih]
theorem node1_c(x y:NT)(box:Bxs)(nb k:Nat)(tok:Tks)(nt:Nat)(h1:box k=some [x.row]):
  ACalls prog 222 [y.av,.ptr k 0 0] ⟨box,nb,tok,nt⟩ fun v m=>v=B (decide (y.name=x.name))/\m=⟨box,nb,tok,nt⟩:=by
 refine sI func222 ntmps222 fun Hb Ht=>?_
 have k1n:=key_lt Hb h1;rw[<-seq_dec];repeat first|simp[lO k1n,h1]|refine sR ?_
 refine sT (sH Hb Ht ?_);simp
theorem edge2_c(x y:ET)(box:Bxs)(nb k:Nat)(tok:Tks)(nt:Nat)(h1:box k=some [x.row]):
  ACalls prog 227 [y.av,.ptr k 0 0] ⟨box,nb,tok,nt⟩ fun v m=>v=B (decide (y.name=x.name))/\m=⟨box,nb,tok,nt⟩:=by
 refine sI func227 ntmps227 fun Hb Ht=>?_
 have k1n:=key_lt Hb h1;rw[<-seq_dec];repeat first|simp[lO k1n,h1]|refine sR ?_
 refine sT (sH Hb Ht ?_);simp
theorem bound04_c(lo hi:Int):DC 239 [I lo,I hi] (B (bndB lo hi)):=by
 intro tok nt box nb;have i1:=in04_c lo 0 40;have i2:=in04_c hi lo 40;cases e1:inZ lo 0 40
 .rw[e1] at i1;have hb:bndB lo hi=false:=by
   have:decide (0<=lo/\lo<=40)=false:=e1
   simp[bndB,this]
  rw[hb];refine sI func239 ntmps239 fun Hb Ht=>?_
  repeat first|simp|refine sR ?_
  refine sD (i1 _ _) ?_;repeat first|simp|refine sR ?_
  refine sT (sH Hb Ht ?_);simp
 .rw[e1] at i1;have h1:decide (0<=lo/\lo<=40)=true:=e1
  cases h3:(hi == -1)
  .have hb:bndB lo hi=inZ hi lo 40:=by
    simp only[bndB,h1,h3,inZ,Bool.true_and,Bool.false_or]
   rw[hb];refine sI func239 ntmps239 fun Hb Ht=>?_
   repeat first|simp|refine sR ?_
   refine sD (i1 _ _) ?_;simp;repeat first|simp[h3]|refine sR ?_
   refine sD (i2 _ _) ?_;repeat first|simp|refine sR ?_
   refine sT (sH Hb Ht ?_);simp
  .have hb:bndB lo hi=true:=by simp only[bndB,h1,h3,Bool.true_and,Bool.true_or]
   rw[hb];refine sI func239 ntmps239 fun Hb Ht=>?_
   repeat first|simp|refine sR ?_
   refine sD (i1 _ _) ?_;simp;repeat first|simp[h3]|refine sR ?_
   refine sT (sH Hb Ht ?_);simp
def insB(t:Ty)(n:Int):Bool:=decide (0<=n/\n<t.nodes.length)
theorem edge1_c(t:Ty)(n:Int)(box:Bxs)(nb k:Nat)(tok:Tks)(nt:Nat)(h1:box k=some [[.d (nts t.nodes),.d (ets t.edges)]]):
  ACalls prog 225 [I n,.ptr k 0 0] ⟨box,nb,tok,nt⟩ fun v m=>v=B (insB t n)/\m=⟨box,nb,tok,nt⟩:=by
 by_cases h0:0<=n
 .refine sI func225 ntmps225 fun Hb Ht=>?_
  have k1n:=key_lt Hb h1;repeat first|simp[lO k1n,h1,h0]|refine sR ?_
  refine sT (sH Hb Ht ?_);simp[insB,h0]
 .refine sI func225 ntmps225 fun Hb Ht=>?_
  have k1n:=key_lt Hb h1;repeat first|simp[lO k1n,h1,h0]|refine sR ?_
  refine sT (sH Hb Ht ?_);simp[insB,h0]
def atAt(L:List At)(k:Nat):Int:=attE (L.getD k ⟨eB,0,0,[]⟩) (L.take k)
def ownAt(L:List At)(M k:Nat):Int:=if k+M<L.length then 0 else atAt L k
def ownE(L:List At)(M:Nat):Int:=firstE (ownAt L M) L.length
theorem ownAt_zero(L:List At)(M:Nat):∀k,k+M<=L.length->firstE (ownAt L M) k=0
 | 0,_=>rfl
 | k+1,h=>by
  simp only[firstE,ownAt_zero L M k (by omega),↓reduceIte,ownAt];rw[if_pos (by omega)]
theorem atsL_own{t:Ty}{i:Nat}:(t.nd i).own.length<=(atsL t i).length:=by
 rw[atsL];split
 .rw[List.length_append];omega
 .exact nr _
theorem atsL_fit{t:Ty}(ht:t.Fit):∀n i,i<n->∀x∈atsL t i,x.Fit
 | 0,i,hi=>absurd hi (Nat.not_lt_zero _)
 | n+1,i,hi=>by
  have hown:∀x∈(t.nd i).own,x.Fit:=by
   by_cases h:i<t.nodes.length
   .rw[nd_at h];exact(ht.a _ (List.getElem_mem h)).2
   .intro x hx;simp only[Ty.nd,List.getD_eq_getElem?_getD,List.getElem?_eq_none (Nat.le_of_not_lt h),Option.getD_none] at hx;cases hx
  rw[atsL];split
  .rename_i h;intro x hx;rcases List.mem_append.1 hx with hx|hx
   .exact atsL_fit ht n _ (by omega) x hx
   .exact hown x hx
  .exact hown
theorem at_getD{L:List At}{k:Nat}(h:k<L.length):atAt L k=attE L[k] (L.take k):=by simp[atAt,h]
theorem atts_take(L:List At)(k:Nat):atts (L.take k)=.sl 4 (List.take k (L.map At.cells)):=by rw[atts,List.map_take]
theorem atts_at{L:List At}{k:Nat}(h:k<L.length):(L.map At.cells)[k]?=some L[k].cells:=by simp[h]
def nodE(t:Ty)(i:Nat):Int :=
 if nameB (t.nd i).name=false then 2 else if anyB (fun y=>decide (y.name=(t.nd i).name)) (t.nodes.take i)=true then 5
 else if (t.nd i).par < -1∨(i:Int)<=(t.nd i).par then 6 else if 4<(t.nd i).own.length then 3
 else if 8<(atsL t i).length then 3 else ownE (atsL t i) (t.nd i).own.length
def stNo(L:List At)(nb:Nat)(box:Bxs)(tok:Tks)(nt:Nat)(k:Nat):AS:=⟨tl [(7,I k),(6,.d (atts L))],lb nb box [],tok,nt⟩
theorem node_c(t:Ty)(ht:t.Fit)(hM:∀i,(t.nd i).own.length<=1000)(i:Nat)(hi:i<t.nodes.length)(hp:∀j,j<i->(t.nd j).par<j):DC 161 [t.av,I i] (I (nodE t i)):=by
 intro tok nt box nb;have hnd:=nd_at hi;have hmem:=List.getElem_mem hi;have h1:=isName_c (t.nd i).name (by rw[hnd];exact Nat.le_trans (ht.nn _ hmem) (by decide));obtain⟨N,hN⟩:∃N,nodE t i=N:=⟨_,rfl⟩
 rw[hN];unfold nodE at hN;rw[hnd] at h1 hN;cases e1:nameB t.nodes[i].name
 .rw[e1] at h1 hN;rw[if_pos rfl] at hN;refine sI func161 ntmps161 fun Hb Ht=>?_
  repeat first|simp[hi]|refine sR ?_
  refine sD (h1 _ _) ?_;repeat first|simp|refine sR ?_
  refine sC ?_;repeat first|simp|refine sR ?_
  refine sT (sH Hb Ht ?_);simp[<-hN]
 .rw[e1] at h1 hN;rw[if_neg (by simp)] at hN;obtain⟨p,hpp⟩:∃p:NT->Bool,(fun y=>decide (y.name=t.nodes[i].name))=p:=⟨_,rfl⟩
  have h2:=fun y box nb k (hbk:box k=some [(t.nodes[i]'hi).row])=>node1_c (t.nodes[i]'hi) y box nb k tok nt hbk
  have hpy:∀y:NT,decide (y.name=t.nodes[i].name)=p y:=fun y=>by rw[<-hpp]
  simp only[hpy] at h2;rw[hpp] at hN;refine sI func161 ntmps161 fun Hb Ht=>?_
  repeat first|simp[hi]|refine sR ?_
  refine sD (h1 _ _) ?_;repeat first|simp[hi]|refine sR ?_|refine sC ?_
  refine⟨by omega,?_⟩;have hcf:=fun (b:Bxs) nb' h3 h4=>containsFuncN_c (t.nodes.take i) 222 [.ptr (nb+5) 0 0] p (by simp;have:=ht.n;omega) b nb' tok nt h3 h4
  rw[show nts (t.nodes.take i)=.sl 4 (List.take i (t.nodes.map NT.cells)) by rw[nts,List.map_take]] at hcf;refine Stop.of_b (hcf _ _ (fun c hc=>by rw[List.mem_singleton.1 hc];simp[lb_at]) (fun y hy box' nb' he=>h2 y box' nb' _ (he _ _ (by simp[lb_at])))) ?_;simp;cases e2:anyB p (t.nodes.take i)
  .rw[e2,if_neg (by simp)] at hN;refine sC ?_;simp;by_cases e3:t.nodes[i].par < -1
   .rw[if_pos (.inl e3)] at hN;repeat first|simp[e3]|refine sR ?_
    refine sC ?_;repeat first|simp|refine sR ?_
    refine sT (sH Hb Ht ?_);simp[<-hN]
   .by_cases e4:(i:Int)<=t.nodes[i].par
    .rw[if_pos (.inr e4)] at hN;repeat first|simp[e3,e4]|refine sR ?_
     refine sC ?_;repeat first|simp|refine sR ?_
     refine sT (sH Hb Ht ?_);simp[<-hN]
    .rw[if_neg (by omega)] at hN;repeat first|simp[e3,e4]|refine sR ?_
     refine sC ?_;repeat first|simp|refine sR ?_
     by_cases e5:4<t.nodes[i].own.length
     .have e5':(4:Int)<t.nodes[i].own.length:=by omega
      rw[if_pos e5] at hN;refine sC ?_;simp[e5,e5'];repeat first|simp|refine sR ?_
      refine sT (sH Hb Ht ?_);simp[<-hN]
     .have e5':¬(4:Int)<t.nodes[i].own.length:=by omega
      rw[if_neg e5] at hN;obtain⟨tok1,nt1,o1,hk,hc⟩:=attrs_c t ht hM (i+1) i (Nat.lt_succ_self _) hi (fun j hj=>by
       by_cases e:j=i
       .subst e;rw[hnd];omega
       .exact hp j (by omega)) tok nt
      have hal:=atsL_len hM (i+1) i (Nat.lt_succ_self _);have haf:=atsL_fit ht (i+1) i (Nat.lt_succ_self _);have hml:=atsL_own (t:=t) (i:=i);rw[hnd] at hml;have htn:=ht.n;have hal2:(atsL t i).length<=1000000:=Nat.le_trans hal (by have:(i+1)*1000<=1000*1000:=Nat.mul_le_mul_right _ (by omega);omega)
      clear hal;generalize atsL t i=L at *;refine sC ?_;simp[e5,e5'];repeat first|simp|refine sR ?_
      refine sD (hc) ?_;simp;have hkk:=hk Ht;repeat first|simp|refine sR ?_
      by_cases e6:8<L.length
      .have e6':(8:Int)<L.length:=by omega
       rw[if_pos e6] at hN;refine sC ?_;simp[e6,e6'];repeat first|simp|refine sR ?_
       refine sT (sG Hb Ht hkk.old hkk.le ?_);simp[<-hN]
      .have e6':¬(8:Int)<L.length:=by omega
       rw[if_neg e6] at hN;have hw0:IntKind.i64.wrap ((L.length:Int)-(t.nodes[i].own.length:Nat))=((L.length-t.nodes[i].own.length:Nat):Int):=by rw[wrap_in (by omega) (by omega)];omega
       have hz:=ownAt_zero L t.nodes[i].own.length (L.length-t.nodes[i].own.length) (by omega);unfold ownE at hN;obtain⟨f,hf⟩:∃f,ownAt L t.nodes[i].own.length=f:=⟨_,rfl⟩
       have hfk:∀k,(hk:k<L.length)->L.length-t.nodes[i].own.length<=k->f k=attE L[k] (L.take k):=fun k hk hge=>by
        rw[<-hf,ownAt,if_neg (by omega),at_getD hk]
       rw[hf] at hN hz;refine sC ?_;simp[e6,e6'];repeat first|simp[hi,lb_at,hw0]|refine sR ?_
       have hal3:L.length-t.nodes[i].own.length<=L.length:=Nat.sub_le _ _
       generalize L.length-t.nodes[i].own.length=a at *;refine sN ?_;refine sL (stNo L nb box tok1 nt1) (fun k=>a<=k/\k<=L.length/\firstE f k=0) (fun k=>L.length-k) a ⟨nr _,by omega,hz⟩ (wM (by have:=hkk.le;omega) rfl (by simp[ToL,lk,To.data]) trivial) ?_;rintro k S' ⟨hak,hkl,hok⟩ hS;simp only[stNo] at hS;subst hS;have hw:=sW (i:=k) (by omega);repeat first|simp|refine sR ?_|refine sC ?_
       refine⟨fun hlt=>?_,fun hge=>?_⟩
       .have hA:=hfk k hlt hak;have hc2:=attribute_c L[k] (L.take k) (haf _ (List.getElem_mem hlt)) (by simp;omega);rw[atts_take,<-hA] at hc2;have hR:f k≠0->firstE f L.length=f k:=fun h0=>firstE_stop hok h0 L.length hlt
        have hnx:f k=0->firstE f (k+1)=0:=fun h0=>by simp only[firstE,hok,h0,↓reduceIte]
        generalize f k=E at *;repeat first|simp[hlt,atts_at hlt]|refine sR ?_
        try refine⟨by omega,?_⟩
        refine sD (hc2 _ _) ?_;repeat first|simp|refine sR ?_
        by_cases e7:E=0
        .refine sC ?_;simp[e7];repeat first|simp[hw]|refine sR ?_
         refine sE ?_;exact⟨k+1,⟨by omega,hlt,hnx e7⟩,by omega,wM (by have:=hkk.le;omega) rfl (by simp[ToL,lk]) trivial⟩
        .have b7:(E != 0)=true:=by simp[e7]
         refine sC ?_;simp[e7,b7];repeat first|simp|refine sR ?_
         refine sT (sG Hb Ht hkk.old hkk.le ?_);simp[<-hN,hR e7]
       .refine sX ?_;simp only[AU,↓reduceIte];repeat first|simp|refine sR ?_
        have:k=L.length:=by omega
        subst this;refine sT (sG Hb Ht hkk.old hkk.le ?_);simp[<-hN,hok]
  .rw[e2,if_pos rfl] at hN;refine sC ?_;repeat first|simp|refine sR ?_
   refine sT (sH Hb Ht ?_);simp[<-hN]
def anyN(l:List NT)(s:ByteArray):Bool:=anyB (fun y=>decide (y.name=s)) l
theorem anyN_iff{l:List NT}{s:ByteArray}:anyN l s=true↔∃x∈l,x.name=s:=by simp[anyN,anyB]
theorem anyN_more{l:List NT}{i:Nat}{s:ByteArray}(hi:i<l.length)(h:anyN (l.take i) s=false)(hne:l[i].name≠s):anyN (l.take (i+1)) s=false:=by
 rw[<-Bool.not_eq_true,anyN_iff] at h ⊢;rintro⟨x,hx,he⟩;rw[List.take_succ_eq_append_getElem hi,List.mem_append,List.mem_singleton] at hx;rcases hx with hx|hx
 .exact h ⟨x,hx,he⟩
 .exact hne (by rw[<-hx];exact he)
theorem anyN_hit{l:List NT}{k i:Nat}{s:ByteArray}(hk:k<l.length)(hki:k<i)(he:l[k].name=s):anyN (l.take i) s=true :=
 anyN_iff.2 ⟨l[k],by rw[List.mem_take_iff_getElem];exact⟨k,by omega,rfl⟩,he⟩
def anyAt(l:List At)(s:ByteArray):Bool:=anyB (fun y=>decide (y.name=s)) l
theorem anyAt_iff{l:List At}{s:ByteArray}:anyAt l s=true↔∃x∈l,x.name=s:=by simp[anyAt,anyB]
theorem anyAt_more{l:List At}{i:Nat}{s:ByteArray}(hi:i<l.length)(h:anyAt (l.take i) s=false)(hne:l[i].name≠s):anyAt (l.take (i+1)) s=false:=by
 rw[<-Bool.not_eq_true,anyAt_iff] at h ⊢;rintro⟨x,hx,he⟩;rw[List.take_succ_eq_append_getElem hi,List.mem_append,List.mem_singleton] at hx;rcases hx with hx|hx
 .exact h ⟨x,hx,he⟩
 .exact hne (by rw[<-hx];exact he)
theorem anyAt_hit{l:List At}{k i:Nat}{s:ByteArray}(hk:k<l.length)(hki:k<i)(he:l[k].name=s):anyAt (l.take i) s=true :=
 anyAt_iff.2 ⟨l[k],by rw[List.mem_take_iff_getElem];exact⟨k,by omega,rfl⟩,he⟩
theorem attE_attS(x:At)(b:List At):attE x b=if nameB x.name=false then 2 else if anyAt b x.name=true then 5 else attS x:=rfl
def stNr1(t:Ty)(i:Nat)(n:NT)(nb:Nat)(box:Bxs)(tok:Tks)(nt:Nat)(k:Nat):AS:=⟨tl [(6,I k),(5,.ptr (nb+5) 0 0),(2,.ptr (nb+2) 0 0),(1,I i)],lb nb box [(5,[n.row]),(2,[[.d (nts t.nodes),.d (ets t.edges)]])],tok,nt⟩
def stNr2(L:List At)(nb:Nat)(box:Bxs)(tok:Tks)(nt:Nat)(k:Nat):AS:=⟨tl [(8,I k),(7,.d (atts L))],lb nb box [],tok,nt⟩
def stNr3(L:List At)(k:Nat)(nb:Nat)(box:Bxs)(tok:Tks)(nt:Nat)(j:Nat):AS:=⟨tl [(9,I j),(8,I k),(7,.d (atts L))],lb nb box [],tok,nt⟩
theorem node04_c(t:Ty)(ht:t.Fit)(hM:∀i,(t.nd i).own.length<=1000)(i:Nat)(hi:i<t.nodes.length)(hp:∀j,j<i->(t.nd j).par<j):DC 176 [t.av,I i] (I (nodE t i)):=by
 intro tok nt box nb;have hnd:=nd_at hi;have hmem:=List.getElem_mem hi;have htn:=ht.n;have h1:=isName01_c (t.nd i).name (by rw[hnd];exact Nat.le_trans (ht.nn _ hmem) (by decide));obtain⟨N,hN⟩:∃N,nodE t i=N:=⟨_,rfl⟩
 rw[hN];unfold nodE at hN
 change (if nameB (t.nd i).name=false then (2:Int) else if anyN (t.nodes.take i) (t.nd i).name=true then 5 else _)=N at hN
 rw[hnd] at h1 hN;have hin:=in04_c t.nodes[i].par (-1) ((i:Int)-1);have hwi:IntKind.i64.wrap ((i:Int)-1)=(i:Int)-1:=by rw[wrap_in (by omega) (by omega)]
 cases e1:nameB t.nodes[i].name
 .rw[e1] at h1 hN;rw[if_pos rfl] at hN;refine sI func176 ntmps176 fun Hb Ht=>?_
  repeat first|simp[hi]|refine sR ?_
  refine sD (h1 _ _) ?_;repeat first|simp|refine sR ?_
  refine sC ?_;repeat first|simp|refine sR ?_
  refine sT (sH Hb Ht ?_);simp[<-hN]
 .rw[e1] at h1 hN;rw[if_neg (by simp)] at hN;refine sI func176 ntmps176 fun Hb Ht=>?_
  repeat first|simp[hi]|refine sR ?_
  refine sD (h1 _ _) ?_;repeat first|simp|refine sR ?_
  refine sC ?_;repeat first|simp|refine sR ?_
  refine sN ?_;refine sL (stNr1 t i t.nodes[i] nb box tok nt) (fun k=>k<=i/\anyN (t.nodes.take k) t.nodes[i].name=false) (fun k=>i-k) 0 ⟨Nat.zero_le _,rfl⟩ wkA ?_;rintro k S' ⟨hk,hm⟩ hS;simp only[stNr1] at hS;subst hS;have hwk:=sW (i:=k) (by omega);repeat first|simp|refine sR ?_|refine sC ?_
  refine⟨fun hlk=>?_,fun hge=>?_⟩
  .have hkl:k<t.nodes.length:=by omega
   by_cases e2:t.nodes[k].name=t.nodes[i].name
   .have b2:(t.nodes[k].name.toList==t.nodes[i].name.toList)=true:=by rw[seq_dec];simp[e2]
    rw[if_pos (anyN_hit hkl hlk e2)] at hN;repeat first|simp[hi,hkl,b2]|refine sR ?_
    refine sC ?_;simp[b2];repeat first|simp|refine sR ?_
    refine sT (sH Hb Ht ?_);simp[<-hN]
   .have b2:(t.nodes[k].name.toList==t.nodes[i].name.toList)=false:=by rw[seq_dec];simp[e2]
    repeat first|simp[hi,hkl,b2]|refine sR ?_
    refine sC ?_;simp[b2];repeat first|simp[hwk]|refine sR ?_
    refine sE ?_;exact⟨k+1,⟨hlk,anyN_more hkl hm e2⟩,by omega,wkA⟩
  .refine sX ?_;simp only[AU,↓reduceIte];have:k=i:=by omega
   subst this;rw[hm,if_neg (by simp)] at hN;by_cases e3:t.nodes[k].par < -1∨(k:Int)<=t.nodes[k].par
   .rw[if_pos e3] at hN;have b3:inZ t.nodes[k].par (-1) ((k:Int)-1)=false:=by simp only[inZ,decide_eq_false_iff_not];omega
    rw[b3] at hin;repeat first|simp[hi,hwi]|refine sR ?_
    refine sD (hin _ _) ?_;repeat first|simp|refine sR ?_
    refine sC ?_;repeat first|simp|refine sR ?_
    refine sT (sH Hb Ht ?_);simp[<-hN]
   .rw[if_neg e3] at hN;have b3:inZ t.nodes[k].par (-1) ((k:Int)-1)=true:=by simp only[inZ,decide_eq_true_eq];omega
    rw[b3] at hin;obtain⟨tok1,nt1,o1,hk,hc⟩:=attrs04_c t ht hM (k+1) k (Nat.lt_succ_self _) hi (fun j hj=>by
     by_cases e:j=k
     .subst e;rw[hnd];omega
     .exact hp j (by omega)) tok nt
    have hal:=atsL_len hM (k+1) k (Nat.lt_succ_self _);have haf:=atsL_fit ht (k+1) k (Nat.lt_succ_self _);have hml:=atsL_own (t:=t) (i:=k);rw[hnd] at hml;have hal2:(atsL t k).length<=1000000:=Nat.le_trans hal (by have:(k+1)*1000<=1000*1000:=Nat.mul_le_mul_right _ (by omega);omega)
    clear hal;generalize atsL t k=L at *;have hw0:IntKind.i64.wrap ((L.length:Int)-(t.nodes[k].own.length:Nat))=((L.length-t.nodes[k].own.length:Nat):Int):=by rw[wrap_in (by omega) (by omega)];omega
    have hz:=ownAt_zero L t.nodes[k].own.length (L.length-t.nodes[k].own.length) (by omega);unfold ownE at hN;obtain⟨f,hf⟩:∃f,ownAt L t.nodes[k].own.length=f:=⟨_,rfl⟩
    have hfk:∀j,(hk:j<L.length)->L.length-t.nodes[k].own.length<=j->f j=attE L[j] (L.take j):=fun j hk hge=>by
     rw[<-hf,ownAt,if_neg (by omega),at_getD hk]
    rw[hf] at hN hz;repeat first|simp[hi,hwi]|refine sR ?_
    refine sD (hin _ _) ?_;repeat first|simp[hi]|refine sR ?_|refine sC ?_
    refine sD (hc) ?_;simp;have hkk:=hk Ht;by_cases e5:4<t.nodes[k].own.length
    .have e5':(4:Int)<t.nodes[k].own.length:=by omega
     rw[if_pos e5] at hN;repeat first|simp[hi,e5,e5']|refine sR ?_
     refine sC ?_;simp[e5,e5'];repeat first|simp|refine sR ?_
     refine sT (sG Hb Ht hkk.old hkk.le ?_);simp[<-hN]
    .have e5':¬(4:Int)<t.nodes[k].own.length:=by omega
     rw[if_neg e5] at hN;by_cases e6:8<L.length
     .have e6':(8:Int)<L.length:=by omega
      rw[if_pos e6] at hN;repeat first|simp[hi,e5,e5',e6,e6']|refine sR ?_
      refine sC ?_;simp[e6,e6'];repeat first|simp|refine sR ?_
      refine sT (sG Hb Ht hkk.old hkk.le ?_);simp[<-hN]
     .have e6':¬(8:Int)<L.length:=by omega
      rw[if_neg e6] at hN;repeat first|simp[hi,e5,e5',e6,e6']|refine sR ?_
      refine sC ?_;simp[e6,e6'];repeat first|simp[hi,hw0]|refine sR ?_
      have hal3:L.length-t.nodes[k].own.length<=L.length:=Nat.sub_le _ _
      generalize L.length-t.nodes[k].own.length=a at *;refine sN ?_;refine sL (stNr2 L nb box tok1 nt1) (fun k=>a<=k/\k<=L.length/\firstE f k=0) (fun k=>L.length-k) a ⟨nr _,by omega,hz⟩ (wM (by have:=hkk.le;omega) rfl (by simp[ToL,lk,To.data]) trivial) ?_;rintro k S' ⟨hak,hkl,hok⟩ hS;simp only[stNr2] at hS;subst hS;have hw:=sW (i:=k) (by omega);repeat first|simp|refine sR ?_|refine sC ?_
      refine⟨fun hlt=>?_,fun hge=>?_⟩
      .have hA:=hfk k hlt hak;have hR:f k≠0->firstE f L.length=f k:=fun h0=>firstE_stop hok h0 L.length hlt
       have hnx:f k=0->firstE f (k+1)=0:=fun h0=>by simp only[firstE,hok,h0,↓reduceIte]
       generalize f k=E at *;rw[attE_attS] at hA;have hfx:=haf _ (List.getElem_mem hlt);have hn:=isName01_c L[k].name (Nat.le_trans hfx.n (by decide));have hc2:=attribute04_c L[k] hfx;repeat first|simp[hlt,atts_at hlt]|refine sR ?_
       refine sD (hn _ _) ?_;simp;cases f1:nameB L[k].name
       .rw[f1,if_pos rfl] at hA;repeat first|simp|refine sR ?_
        refine sC ?_;repeat first|simp|refine sR ?_
        refine sT (sG Hb Ht hkk.old hkk.le ?_);simp[<-hN,hR (by omega),hA]
       .rw[f1,if_neg (by simp)] at hA;repeat first|simp|refine sR ?_
        refine sC ?_;repeat first|simp|refine sR ?_
        refine sN ?_;refine sL (stNr3 L k nb box tok1 nt1) (fun j=>j<=k/\anyAt (L.take j) L[k].name=false) (fun j=>k-j) 0 ⟨Nat.zero_le _,rfl⟩ (wM (by have:=hkk.le;omega) rfl (by simp[ToL,lk]) trivial) ?_;rintro j S' ⟨hj,hm2⟩ hS;simp only[stNr3] at hS;subst hS;have hwj:=sW (i:=j) (by omega);repeat first|simp|refine sR ?_|refine sC ?_
        refine⟨fun hlj=>?_,fun hgj=>?_⟩
        .have hjl:j<L.length:=by omega
         by_cases f2:L[j].name=L[k].name
         .have b2:(L[j].name.toList==L[k].name.toList)=true:=by rw[seq_dec];simp[f2]
          rw[if_pos (anyAt_hit hjl hlj f2)] at hA;repeat first|simp[hlt,hjl,b2]|refine sR ?_
          refine sC ?_;simp[b2];repeat first|simp|refine sR ?_
          refine sT (sG Hb Ht hkk.old hkk.le ?_);simp[<-hN,hR (by omega),hA]
         .have b2:(L[j].name.toList==L[k].name.toList)=false:=by rw[seq_dec];simp[f2]
          repeat first|simp[hlt,hjl,b2]|refine sR ?_
          refine sC ?_;simp[b2];repeat first|simp[hwj]|refine sR ?_
          refine sE ?_;exact⟨j+1,⟨hlj,anyAt_more hjl hm2 f2⟩,by omega,wM (by have:=hkk.le;omega) rfl (by simp[ToL,lk]) trivial⟩
        .refine sX ?_;simp only[AU,↓reduceIte];have:j=k:=by omega
         subst this;rw[hm2,if_neg (by simp)] at hA;rw[<-hA] at hc2;repeat first|simp[hlt,atts_at hlt]|refine sR ?_
         refine sD (hc2 _ _) ?_;repeat first|simp|refine sR ?_
         by_cases e7:E=0
         .refine sC ?_;simp[e7];repeat first|simp[hw]|refine sR ?_
          refine sE ?_;exact⟨j+1,⟨by omega,hlt,hnx e7⟩,by omega,wM (by have:=hkk.le;omega) rfl (by simp[ToL,lk]) trivial⟩
         .have b7:(E != 0)=true:=by simp[e7]
          refine sC ?_;simp[e7,b7];repeat first|simp|refine sR ?_
          refine sT (sG Hb Ht hkk.old hkk.le ?_);simp[<-hN,hR e7]
      .refine sX ?_;simp only[AU,↓reduceIte];repeat first|simp|refine sR ?_
       have:k=L.length:=by omega
       subst this;refine sT (sG Hb Ht hkk.old hkk.le ?_);simp[<-hN,hok]
instance:Inhabited ET:=⟨⟨eB,0,0,0,0,0,0⟩⟩
def Ty.ed(t:Ty)(i:Nat):ET:=t.edges.getD i default
theorem ed_at{t:Ty}{i:Nat}(h:i<t.edges.length):t.ed i=t.edges[i]:=by simp[Ty.ed,h]
def anyE(l:List ET)(s:ByteArray):Bool:=anyB (fun y=>decide (y.name=s)) l
theorem anyE_iff{l:List ET}{s:ByteArray}:anyE l s=true↔∃x∈l,x.name=s:=by simp[anyE,anyB]
theorem anyE_more{l:List ET}{i:Nat}{s:ByteArray}(hi:i<l.length)(h:anyE (l.take i) s=false)(hne:l[i].name≠s):anyE (l.take (i+1)) s=false:=by
 rw[<-Bool.not_eq_true,anyE_iff] at h ⊢;rintro⟨x,hx,he⟩;rw[List.take_succ_eq_append_getElem hi,List.mem_append,List.mem_singleton] at hx;rcases hx with hx|hx
 .exact h ⟨x,hx,he⟩
 .exact hne (by rw[<-hx];exact he)
theorem anyE_hit{l:List ET}{k i:Nat}{s:ByteArray}(hk:k<l.length)(hki:k<i)(he:l[k].name=s):anyE (l.take i) s=true :=
 anyE_iff.2 ⟨l[k],by rw[List.mem_take_iff_getElem];exact⟨k,by omega,rfl⟩,he⟩
def edR(t:Ty)(x:ET):Int:=if insB t x.fr=false then 6 else if insB t x.to=false then 6 else if bndB x.ol x.oh=false then 6 else if bndB x.il x.ih=false then 6 else 0
def edgE(t:Ty)(i:Nat):Int :=
 if nameB (t.ed i).name=false then 2 else if anyE (t.edges.take i) (t.ed i).name=true then 5 else edR t (t.ed i)
set_option maxRecDepth 100000 in
theorem edge_c(t:Ty)(ht:t.Fit)(i:Nat)(hi:i<t.edges.length):DC 162 [t.av,I i] (I (edgE t i)):=by
 intro tok nt box nb;have hnd:=ed_at hi;have hmem:=List.getElem_mem hi;have hte:=ht.e;have h1:=isName_c (t.ed i).name (by rw[hnd];exact Nat.le_trans (ht.en _ hmem) (by decide));obtain⟨N,hN⟩:∃N,edgE t i=N:=⟨_,rfl⟩
 rw[hN];unfold edgE at hN;rw[hnd] at h1 hN;cases e1:nameB t.edges[i].name
 .rw[e1] at h1 hN;rw[if_pos rfl] at hN;refine sI func162 ntmps162 fun Hb Ht=>?_
  repeat first|simp[hi]|refine sR ?_
  refine sD (h1 _ _) ?_;repeat first|simp|refine sR ?_
  refine sC ?_;repeat first|simp|refine sR ?_
  refine sT (sH Hb Ht ?_);simp[<-hN]
 .rw[e1] at h1 hN;rw[if_neg (by simp)] at hN;unfold anyE at hN;obtain⟨p,hpp⟩:∃p:ET->Bool,(fun y=>decide (y.name=t.edges[i].name))=p:=⟨_,rfl⟩
  have h2:=fun y box nb k (hbk:box k=some [(t.edges[i]'hi).row])=>edge2_c (t.edges[i]'hi) y box nb k tok nt hbk
  have hpy:∀y:ET,decide (y.name=t.edges[i].name)=p y:=fun y=>by rw[<-hpp]
  simp only[hpy] at h2;rw[hpp] at hN;refine sI func162 ntmps162 fun Hb Ht=>?_
  repeat first|simp[hi]|refine sR ?_
  refine sD (h1 _ _) ?_;repeat first|simp[hi]|refine sR ?_|refine sC ?_
  try refine⟨by omega,?_⟩
  have hcf:=fun (b:Bxs) nb' h3 h4=>containsFuncE2_c (t.edges.take i) 227 [.ptr (nb+5) 0 0] p (by simp;have:=ht.e;omega) b nb' tok nt h3 h4
  rw[show ets (t.edges.take i)=.sl 7 (List.take i (t.edges.map ET.cells)) by rw[ets,List.map_take]] at hcf;refine Stop.of_b (hcf _ _ (fun c hc=>by rw[List.mem_singleton.1 hc];simp[lb_at]) (fun y hy box' nb' he=>h2 y box' nb' _ (he _ _ (by simp[lb_at])))) ?_;simp;cases e2:anyB p (t.edges.take i)
  .rw[e2,if_neg (by simp)] at hN;unfold edR at hN;have b1:=bounded_c t.edges[i].ol t.edges[i].oh;have b2:=bounded_c t.edges[i].il t.edges[i].ih;refine sC ?_;repeat first|simp|refine sR ?_
   refine Stop.of_b (edge1_c t t.edges[i].fr _ _ (nb+2) _ _ (by simp[lb_at])) ?_;simp;cases g1:insB t t.edges[i].fr
   .rw[g1,if_pos rfl] at hN;repeat first|simp|refine sR ?_
    refine sC ?_;repeat first|simp|refine sR ?_
    refine sC ?_;repeat first|simp|refine sR ?_
    refine sT (sH Hb Ht ?_);simp[<-hN]
   .rw[g1,if_neg (by simp)] at hN;repeat first|simp|refine sR ?_
    refine Stop.of_b (edge1_c t t.edges[i].to _ _ (nb+2) _ _ (by simp[lb_at])) ?_;simp;cases g2:insB t t.edges[i].to
    .rw[g2,if_pos rfl] at hN;repeat first|simp|refine sR ?_
     refine sC ?_;repeat first|simp|refine sR ?_
     refine sC ?_;repeat first|simp|refine sR ?_
     refine sT (sH Hb Ht ?_);simp[<-hN]
    .rw[g2,if_neg (by simp)] at hN;repeat first|simp|refine sR ?_
     refine sC ?_;repeat first|simp|refine sR ?_
     refine sD (b1 _ _) ?_;simp;cases g3:bndB t.edges[i].ol t.edges[i].oh
     .rw[g3,if_pos rfl] at hN;repeat first|simp|refine sR ?_
      refine sC ?_;repeat first|simp|refine sR ?_
      refine sT (sH Hb Ht ?_);simp[<-hN]
     .rw[g3,if_neg (by simp)] at hN;repeat first|simp|refine sR ?_
      refine sD (b2 _ _) ?_;simp;cases g4:bndB t.edges[i].il t.edges[i].ih
      .rw[g4,if_pos rfl] at hN;repeat first|simp|refine sR ?_
       refine sC ?_;repeat first|simp|refine sR ?_
       refine sT (sH Hb Ht ?_);simp[<-hN]
      .rw[g4,if_neg (by simp)] at hN;repeat first|simp|refine sR ?_
       refine sC ?_;repeat first|simp|refine sR ?_
       refine sT (sH Hb Ht ?_);simp[<-hN]
  .rw[e2,if_pos rfl] at hN;refine sC ?_;repeat first|simp|refine sR ?_
   refine sT (sH Hb Ht ?_);simp[<-hN]
theorem xx:True:=trivial
def stEr(t:Ty)(i:Nat)(x:ET)(nb:Nat)(box:Bxs)(tok:Tks)(nt:Nat)(k:Nat):AS:=⟨tl [(6,I k),(5,.ptr (nb+5) 0 0),(2,.ptr (nb+2) 0 0),(1,I i)],lb nb box [(5,[x.row]),(2,[[.d (nts t.nodes),.d (ets t.edges)]])],tok,nt⟩
theorem edge04_c(t:Ty)(ht:t.Fit)(i:Nat)(hi:i<t.edges.length):DC 177 [t.av,I i] (I (edgE t i)):=by
 intro tok nt box nb;have hnd:=ed_at hi;have hmem:=List.getElem_mem hi;have hte:=ht.e;have htn:=ht.n;have h1:=isName01_c (t.ed i).name (by rw[hnd];exact Nat.le_trans (ht.en _ hmem) (by decide));obtain⟨N,hN⟩:∃N,edgE t i=N:=⟨_,rfl⟩
 rw[hN];unfold edgE at hN;rw[hnd] at h1 hN;have i1:=in04_c t.edges[i].fr 0 ((t.nodes.length:Int)-1);have i2:=in04_c t.edges[i].to 0 ((t.nodes.length:Int)-1);have b1:=bound04_c t.edges[i].ol t.edges[i].oh;have b2:=bound04_c t.edges[i].il t.edges[i].ih;have hins:∀n:Int,inZ n 0 ((t.nodes.length:Int)-1)=insB t n:=fun n=>by simp only[inZ,insB];congr 1;simp only[eq_iff_iff];omega
 rw[hins] at i1 i2;have hw0:IntKind.i64.wrap ((t.nodes.length:Int)-1)=(t.nodes.length:Int)-1:=by rw[wrap_in (by omega) (by omega)]
 cases e1:nameB t.edges[i].name
 .rw[e1] at h1 hN;rw[if_pos rfl] at hN;refine sI func177 ntmps177 fun Hb Ht=>?_
  repeat first|simp[hi]|refine sR ?_
  refine sD (h1 _ _) ?_;repeat first|simp|refine sR ?_
  refine sC ?_;repeat first|simp|refine sR ?_
  refine sT (sH Hb Ht ?_);simp[<-hN]
 .rw[e1] at h1 hN;rw[if_neg (by simp)] at hN;refine sI func177 ntmps177 fun Hb Ht=>?_
  repeat first|simp[hi]|refine sR ?_
  refine sD (h1 _ _) ?_;repeat first|simp|refine sR ?_
  refine sC ?_;repeat first|simp|refine sR ?_
  refine sN ?_;refine sL (stEr t i t.edges[i] nb box tok nt) (fun k=>k<=i/\anyE (t.edges.take k) t.edges[i].name=false) (fun k=>i-k) 0 ⟨Nat.zero_le _,rfl⟩ wkA ?_;rintro k S' ⟨hk,hm⟩ hS;simp only[stEr] at hS;subst hS;have hwk:=sW (i:=k) (by omega);repeat first|simp|refine sR ?_|refine sC ?_
  refine⟨fun hlk=>?_,fun hge=>?_⟩
  .have hkl:k<t.edges.length:=by omega
   by_cases e2:t.edges[k].name=t.edges[i].name
   .have b2:(t.edges[k].name.toList==t.edges[i].name.toList)=true:=by rw[seq_dec];simp[e2]
    rw[if_pos (anyE_hit hkl hlk e2)] at hN;repeat first|simp[hi,hkl,b2]|refine sR ?_
    refine sC ?_;simp[b2];repeat first|simp|refine sR ?_
    refine sT (sH Hb Ht ?_);simp[<-hN]
   .have b2:(t.edges[k].name.toList==t.edges[i].name.toList)=false:=by rw[seq_dec];simp[e2]
    repeat first|simp[hi,hkl,b2]|refine sR ?_
    refine sC ?_;simp[b2];repeat first|simp[hwk]|refine sR ?_
    refine sE ?_;exact⟨k+1,⟨hlk,anyE_more hkl hm e2⟩,by omega,wkA⟩
  .refine sX ?_;simp only[AU,↓reduceIte];have:k=i:=by omega
   subst this;rw[hm,if_neg (by simp)] at hN;unfold edR at hN;repeat first|simp[hi,hw0]|refine sR ?_
   refine sD (i1 _ _) ?_;simp;cases g1:insB t t.edges[k].fr
   .rw[g1,if_pos rfl] at hN;repeat first|simp|refine sR ?_
    refine sC ?_;repeat first|simp|refine sR ?_
    refine sT (sH Hb Ht ?_);simp[<-hN]
   .rw[g1,if_neg (by simp)] at hN;repeat first|simp|refine sR ?_
    refine sD (i2 _ _) ?_;simp;cases g2:insB t t.edges[k].to
    .rw[g2,if_pos rfl] at hN;repeat first|simp|refine sR ?_
     refine sC ?_;repeat first|simp|refine sR ?_
     refine sT (sH Hb Ht ?_);simp[<-hN]
    .rw[g2,if_neg (by simp)] at hN;repeat first|simp|refine sR ?_
     refine sD (b1 _ _) ?_;simp;cases g3:bndB t.edges[k].ol t.edges[k].oh
     .rw[g3,if_pos rfl] at hN;repeat first|simp|refine sR ?_
      refine sC ?_;repeat first|simp|refine sR ?_
      refine sT (sH Hb Ht ?_);simp[<-hN]
     .rw[g3,if_neg (by simp)] at hN;repeat first|simp|refine sR ?_
      refine sD (b2 _ _) ?_;simp;cases g4:bndB t.edges[k].il t.edges[k].ih
      .rw[g4,if_pos rfl] at hN;repeat first|simp|refine sR ?_
       refine sC ?_;repeat first|simp|refine sR ?_
       refine sT (sH Hb Ht ?_);simp[<-hN]
      .rw[g4,if_neg (by simp)] at hN;repeat first|simp|refine sR ?_
       refine sC ?_;repeat first|simp|refine sR ?_
       refine sT (sH Hb Ht ?_);simp[<-hN]
end Go.AM
