import Derived.Test.YtchfmhhbiealcaaGreatDoorPIC8
set_option linter.unusedSimpArgs false
set_option linter.unusedVariables false
namespace Go.AM
open Go Go.Proofs
open Go.Proofs.Tryz
def aOJ(xs:List Int)(v:Int)(nb:Nat)(box:Bxs)(tok:Tks)(nt:Nat)(i:Nat):AS:=⟨tl [(0,.d (ints xs)),(1,I v),(5,I i)],lb nb box [],tok,nt⟩
theorem aKv(xs:List Int)(v:Int)(hx:xs.length<=1000000):DC 220 [.d (ints xs),I v] (B (decide (v∈xs))):=by
 intro tok nt box nb;refine sI func220 ntmps220 fun Hb Ht=>?_
 refine sR ?_;simp;refine sR ?_;simp;apply sN;refine sL (aOJ xs v nb box tok nt) (fun i=>i<=xs.length/\v∉xs.take i) (fun i=>xs.length-i) 0 ⟨ai _,by simp⟩ (wM (nr0 _) rfl (by simp[ToL]) trivial) ?_;rintro i S ⟨hi,htk⟩ hS;simp only[aOJ] at hS;subst hS;have hw:=sW (i:=i) (by omega);refine sR ?_;simp;apply sC;simp;refine⟨fun hlt=>?_,fun hge=>?_⟩
 .refine sR ?_;simp[hlt];apply sC;simp;refine⟨fun he=>?_,fun hne=>?_⟩
  .refine sR ?_;simp;have i5:v∈xs:=by rw[<-he];exact aa _
   refine sT (sH ?_);simp[i5]
  .refine sR ?_;simp[hw];apply sE;refine⟨i+1,⟨hlt,?_⟩,by omega,wM (nr0 _) rfl (by simp[ToL]) trivial⟩;rw[ah hlt];simp only[ap,a7,not_or];exact⟨htk,fun e=>hne e.symm⟩
 .apply sX;simp only[AU,↓reduceIte];refine sR ?_;simp;have hn:v∉xs:=by rwa [ak hge] at htk
  refine sT (sH ?_);simp[hn]
def aL2(xs:List Int)(v:Int)(nb:Nat)(box:Bxs)(tok:Tks)(nt:Nat)(i:Nat):AS:=⟨tl [(0,.d (ints xs)),(1,I v),(5,I i)],lb nb box [],tok,nt⟩
theorem uH(xs:List Int)(v:Int)(hx:xs.length<=1000000):DC 268 [.d (ints xs),I v] (B (decide (v∈xs))):=by
 intro tok nt box nb;refine sI func268 ntmps268 fun Hb Ht=>?_
 refine sR ?_;simp;refine sR ?_;simp;apply sN;refine sL (aL2 xs v nb box tok nt) (fun i=>i<=xs.length/\v∉xs.take i) (fun i=>xs.length-i) 0 ⟨ai _,by simp⟩ (wM (nr0 _) rfl (by simp[ToL]) trivial) ?_;rintro i S ⟨hi,htk⟩ hS;simp only[aL2] at hS;subst hS;have hw:=sW (i:=i) (by omega);refine sR ?_;simp;apply sC;simp;refine⟨fun hlt=>?_,fun hge=>?_⟩
 .refine sR ?_;simp[hlt];apply sC;simp;refine⟨fun he=>?_,fun hne=>?_⟩
  .refine sR ?_;simp;have i5:v∈xs:=by rw[<-he];exact aa _
   refine sT (sH ?_);simp[i5]
  .refine sR ?_;simp[hw];apply sE;refine⟨i+1,⟨hlt,?_⟩,by omega,wM (nr0 _) rfl (by simp[ToL]) trivial⟩;rw[ah hlt];simp only[ap,a7,not_or];exact⟨htk,fun e=>hne e.symm⟩
 .apply sX;simp only[AU,↓reduceIte];refine sR ?_;simp;have hn:v∉xs:=by rwa [ak hge] at htk
  refine sT (sH ?_);simp[hn]
def aPk(xs:List Int)(v:Int)(nb:Nat)(box:Bxs)(tok:Tks)(nt:Nat)(i:Nat):AS:=⟨tl [(0,.d (ints xs)),(1,I v),(5,I i)],lb nb box [],tok,nt⟩
theorem aAr(xs:List Int)(v:Int)(hx:xs.length<=1000000):DC 155 [.d (ints xs),I v] (I (aQ xs v)):=by
 intro tok nt box nb;refine sI func155 ntmps155 fun Hb Ht=>?_
 refine sR ?_;simp;refine sR ?_;simp;apply sN;refine sL (aPk xs v nb box tok nt) (fun i=>i<=xs.length/\v∉xs.take i) (fun i=>xs.length-i) 0 ⟨ai _,by simp⟩ (wM (nr0 _) rfl (by simp[ToL]) trivial) ?_;rintro i S ⟨hi,htk⟩ hS;simp only[aPk] at hS;subst hS;have hw:=sW (i:=i) (by omega);refine sR ?_;simp;apply sC;simp;refine⟨fun hlt=>?_,fun hge=>?_⟩
 .have px:xs=xs.take i++xs[i]::xs.drop (i+1):=by simp
  refine sR ?_;simp[hlt];apply sC;simp;refine⟨fun he=>?_,fun hne=>?_⟩
  .refine sR ?_;simp;have i5:v∈xs:=by rw[<-he];exact aa _
   have yd:xs.idxOf v=i:=by
    unfold List.idxOf;rw[fw hlt];refine⟨by simp[he],fun j hj=>?_⟩;have:xs[j]≠v:=fun e=>htk (by rw[<-e,cm];exact⟨j,by omega,rfl⟩)
    simpa using this
   refine sT (sH ?_);simp[aQ,i5,yd]
  .refine sR ?_;simp[hw];apply sE;refine⟨i+1,⟨hlt,?_⟩,by omega,wM (nr0 _) rfl (by simp[ToL]) trivial⟩;rw[ah hlt];simp only[ap,a7,not_or];exact⟨htk,fun e=>hne e.symm⟩
 .apply sX;simp only[AU,↓reduceIte];refine sR ?_;simp;have hn:v∉xs:=by rwa [ak hge] at htk
  refine sT (sH ?_);simp[aQ,hn]
def aNx(l:List Int)(n:Int)(nb:Nat)(box:Bxs)(tok:Tks)(nt:Nat)(i:Nat):AS:=⟨tl [(0,.d (ints l)),(1,I n),(5,I i)],lb nb box [],tok,nt⟩
theorem aFh(l:List Int)(n:Int)(hl:l.length<=1000000):DC 219 [.d (ints l),I n] (I (jR l n)):=by
 intro tok nt box nb;refine sI func219 ntmps219 fun Hb Ht=>?_
 repeat first|simp|refine sR ?_
 apply sN;refine sL (aNx l n nb box tok nt) (fun i=>i<=l.length/\aA (iZ l n) i=0) (fun i=>l.length-i) 0 ⟨ai _,rfl⟩ (wM (nr0 _) rfl (by simp[ToL]) trivial) ?_;rintro i S ⟨hi,gt⟩ hS;simp only[aNx] at hS;subst hS;have hw:=sW (i:=i) (by omega);have hR:i<l.length->iZ l n i≠0->jR l n=iZ l n i:=fun hlt h0=>aK gt h0 l.length hlt
 repeat first|simp|refine sR ?_|apply sC
 refine⟨fun hlt=>?_,fun hge=>?_⟩
 .have hg:l.getD i 0=l[i]:=by simp[hlt]
  have hR:=hR hlt;have hA:iZ l n i=if l[i]<0∨n<=l[i] then 6 else if 0<i/\l[i]<=l.getD (i-1) 0 then 12 else 0:=by rw[iZ,hg]
  repeat first|simp[hlt]|refine sR ?_
  by_cases g8:l[i]<0
  .repeat first|simp[g8,hlt]|refine sR ?_
   apply sC;repeat first|simp|refine sR ?_
   rw[hA,af (.inl g8)] at hR;have hR:=hR (by decide);refine sT (sH ?_);simp[hR]
  .repeat first|simp[g8,hlt]|refine sR ?_
   by_cases hbig:n<=l[i]
   .simp only[hbig];apply sC;repeat first|simp|refine sR ?_
    rw[hA,af (.inr hbig)] at hR;have hR:=hR (by decide);refine sT (sH ?_);simp[hR]
   .simp only[hbig];rw[ac (by omega)] at hA;apply sC;simp;by_cases h0:0<i
    .have qz:IntKind.i64.wrap (↑i-1)=((i-1:Nat):Int):=by rw[aL (by omega) (by omega)];omega
     have qj:i-1<l.length:=by omega
     have hg':l.getD (i-1) 0=l[i-1]:=by simp[qj]
     rw[hg'] at hA;repeat first|simp[hlt,h0,qz,qj]|refine sR ?_
     by_cases g9:l[i]<=l[i-1]
     .rw[af ⟨h0,g9⟩] at hA;rw[hA] at hR;have hR:=hR (by decide);simp only[g9];apply sC;repeat first|simp|refine sR ?_
      refine sT (sH ?_);simp[hR]
     .rw[ac (by omega)] at hA;simp only[g9];apply sC;simp;repeat first|simp[hw]|refine sR ?_
      apply sE;exact⟨i+1,⟨hlt,by simp only[aA,gt,hA,↓reduceIte]⟩,by omega,wM (nr0 _) rfl (by simp[ToL]) trivial⟩
    .rw[ac (by omega)] at hA;repeat first|simp[hlt,h0]|refine sR ?_
     apply sC;simp;repeat first|simp[hw]|refine sR ?_
     apply sE;exact⟨i+1,⟨hlt,by simp only[aA,gt,hA,↓reduceIte]⟩,by omega,wM (nr0 _) rfl (by simp[ToL]) trivial⟩
 .apply sX;simp only[AU,↓reduceIte];repeat first|simp|refine sR ?_
  have:i=l.length:=by omega
  subst this;refine sT (sH ?_);simp[jR,gt]
def aOG(g:Gr)(p:Mo)(nb:Nat)(box:Bxs)(tok:Tks)(nt:Nat)(i:Nat):AS :=
 ⟨tl [(7,I i),(3,.ptr (nb+3) 0 0),(2,.ptr (nb+2) 0 0)],lb nb box [(3,[[.d (ints p.nodes),.d (ints p.edges)]]),(2,[[.d (ints g.nodes),.d (AM.edges g.edges)]])],tok,nt⟩
theorem aGn(g:Gr)(p:Mo)(hg:g.Fit)(hv:vG g=0)(hp:p.Fit):DC 163 [g.av,p.av] (I (eR g p)):=by
 intro tok nt box nb;have h1:=aFh p.nodes g.nodes.length hp.n;have h2:=aFh p.edges g.edges.length hp.e;refine sI func163 ntmps163 fun Hb Ht=>?_
 repeat first|simp|refine sR ?_
 refine sD (h1 _ _) ?_;repeat first|simp|refine sR ?_
 by_cases e1:jR p.nodes g.nodes.length=0
 .simp only[e1];apply sC;repeat first|simp|refine sR ?_
  refine sD (h2 _ _) ?_;repeat first|simp|refine sR ?_
  by_cases e2:jR p.edges g.edges.length=0
  .simp only[e2];apply sC;repeat first|simp|refine sR ?_
   apply sN;have re:=uG e2;refine sL (aOG g p nb box tok nt) (fun i=>i<=p.edges.length/\aA (gC g p) i=0) (fun i=>p.edges.length-i) 0 ⟨ai _,rfl⟩ wkA ?_;rintro i S ⟨hi,gt⟩ hS;simp only[aOG] at hS;subst hS;have s8:=hp.e;have hw:=sW (i:=i) (by omega);have hR:i<p.edges.length->gC g p i≠0->eR g p=gC g p i:=fun hlt h0=>by
    have:=aK gt h0 p.edges.length hlt
    simp[eR,e1,e2,this]
   repeat first|simp|refine sR ?_|apply sC
   refine⟨fun hlt=>?_,fun hge=>?_⟩
   .have hR:=hR hlt;obtain⟨r1,r2⟩:=re _ (aa hlt);have r3:p.edges[i].toNat<g.edges.length:=by omega
    have hD:gC g p i=if g.edges[p.edges[i].toNat].fr∈p.nodes/\g.edges[p.edges[i].toNat].to∈p.nodes then 0 else 14:=by
     have q1:p.edges.getD i 0=p.edges[i]:=by simp[hlt]
     have q2:g.edges.getD p.edges[i].toNat default=g.edges[p.edges[i].toNat]:=by simp[r3]
     rw[gC,q1,q2]
    have hh:=fun v=>aKv p.nodes v hp.n
    apply sN;refine AL.region2 cC (nr0 _) (by kernel_rfl) (rF.of (by simp)) ?_;simp[hlt,r1,r2,r3];generalize g.edges[p.edges[i].toNat]=x at *;repeat first|simp|refine sR ?_
    refine sD (hh _ _ _) ?_;simp;by_cases h1:x.fr∈p.nodes
    .simp only[h1];repeat first|simp|refine sR ?_
     refine sD (hh _ _ _) ?_;simp;by_cases h2:x.to∈p.nodes
     .rw[af ⟨h1,h2⟩] at hD;simp only[h2];repeat first|simp[hw]|refine sR ?_|apply sC
      apply sE;exact⟨i+1,⟨hlt,by simp only[aA,gt,hD,↓reduceIte]⟩,by omega,wkA⟩
     .rw[ac (fun h=>h2 h.2)] at hD;rw[hD] at hR;have hR:=hR (by decide);simp only[h2];repeat first|simp|refine sR ?_
      apply sC;repeat first|simp|refine sR ?_
      refine sT (sH ?_);simp[hR]
    .rw[ac (fun h=>h1 h.1)] at hD;rw[hD] at hR;have hR:=hR (by decide);simp only[h1];repeat first|simp|refine sR ?_
     apply sC;repeat first|simp|refine sR ?_
     refine sT (sH ?_);simp[hR]
   .apply sX;simp only[AU,↓reduceIte];repeat first|simp|refine sR ?_
    have:i=p.edges.length:=by omega
    subst this;refine sT (sH ?_);simp[eR,e1,e2,gt]
  .have b2:(jR p.edges g.edges.length != 0)=true:=by simp[e2]
   simp only[b2];apply sC;repeat first|simp|refine sR ?_
   refine sT (sH ?_);simp[eR,e1,e2]
 .have b1:(jR p.nodes g.nodes.length != 0)=true:=by simp[e1]
  simp only[b1];apply sC;repeat first|simp|refine sR ?_
  refine sT (sH ?_);simp[eR,e1]
theorem nJ(g:Gr)(p:Mo)(hg:g.Fit)(hp:p.Fit):DC 104 [g.av,p.av] (I (cQ g p)):=by
 intro tok nt box nb;have h1:=dS g hg;have h2:=fun h=>aGn g p hg h hp
 refine sI func104 ntmps104 fun Hb Ht=>?_
 repeat first|simp|refine sR ?_
 refine sD (h1 _ _) ?_;repeat first|simp|refine sR ?_
 by_cases e1:vG g=0
 .simp only[e1];apply sC;repeat first|simp|refine sR ?_
  refine sD (h2 e1 _ _) ?_;repeat first|simp|refine sR ?_
  refine sT (sH ?_);simp[cQ,e1]
 .have b1:(vG g != 0)=true:=by simp[e1]
  simp only[b1];apply sC;repeat first|simp|refine sR ?_
  refine sT (sH ?_);simp[cQ,e1]
def iH(g:Gr)(p:Mo)(i:Nat):List Int:=(p.nodes.take i).map fun k=>g.nodes.getD k.toNat 0
def jZ(g:Gr)(p:Mo)(i:Nat):List E:=(p.edges.take i).map (qQ g p)
def aE9(g:Gr)(p:Mo)(nb:Nat)(box:Bxs)(x:Acc):AS :=
 ⟨tl [(9,I x.i),(8,.ptr (nb+8) 0 0),(5,.ptr (nb+5) 0 0),(4,.ptr (nb+4) 0 0),(3,.ptr (nb+3) 0 0),(2,.ptr (nb+2) 0 0)],
  lb nb box [(8,[[.osl 1 (rI (iH g p x.i)) x.own,.osl 0 [] .full]]),(3,[[.d (ints p.nodes),.d (ints p.edges)]]),(2,[[.d (ints g.nodes),.d (AM.edges g.edges)]]),(5,[[dL,dL]]),(4,[[dL,dL]])],x.tok,x.nt⟩
def aLu(g:Gr)(p:Mo)(kp:Own)(nb:Nat)(box:Bxs)(x:Acc):AS :=
 ⟨tl [(10,I x.i),(8,.ptr (nb+8) 0 0),(5,.ptr (nb+5) 0 0),(4,.ptr (nb+4) 0 0),(3,.ptr (nb+3) 0 0),(2,.ptr (nb+2) 0 0)],
  lb nb box [(8,[[.d (ints (iH g p p.nodes.length)),.osl 3 (rE (jZ g p x.i)) x.own]]),(3,[[.d (ints p.nodes),.d (ints p.edges)]]),(2,[[.d (ints g.nodes),.d (AM.edges g.edges)]]),(5,[[dL,dL]]),(4,[[dL,dL]])],x.tok,x.nt⟩
theorem kZ(g:Gr)(p:Mo):iH g p 0=[]:=by simp[iH]
theorem kR(g:Gr)(p:Mo):jZ g p 0=[]:=by simp[jZ]
theorem kW(g:Gr)(p:Mo){i:Nat}(h:i<p.nodes.length):iH g p (i+1)=iH g p i++[g.nodes.getD p.nodes[i].toNat 0]:=by simp only[iH,List.take_add_one,ab h,Option.toList,cw,de,dw]
theorem kQ(g:Gr)(p:Mo){i:Nat}(h:i<p.edges.length):jZ g p (i+1)=jZ g p i++[qQ g p p.edges[i]]:=by simp only[jZ,List.take_add_one,ab h,Option.toList,cw,de,dw]
theorem nN(g:Gr)(p:Mo)(i:Nat):(iH g p i).length<=i:=by simp[iH];omega
theorem nI(g:Gr)(p:Mo)(i:Nat):(jZ g p i).length<=i:=by simp[jZ];omega
theorem aAE(g:Gr)(p:Mo):exG g p=⟨iH g p p.nodes.length,jZ g p p.edges.length⟩:=by simp[exG,iH,jZ]
theorem aCj(g:Gr)(p:Mo)(hg:g.Fit)(hp:p.Fit)(h:VP g p):DC 98 [g.av,p.av] (.tup [(exG g p).av,p.av,I 0]):=by
 intro tok nt box nb;have h1:=nJ g p hg hp;rw[h.v] at h1;refine sI func98 ntmps98 fun Hb Ht=>?_
 repeat first|simp|refine sR ?_
 refine sD (h1 _ _) ?_;repeat first|simp|refine sR ?_
 apply sC;repeat first|simp|refine sR ?_
 apply sN;have v6:=hp.n;have s8:=hp.e;refine sL (aE9 g p nb box) (fun x=>x.i<=p.nodes.length/\TK tok nt x.tok x.nt [x.own]) (fun x=>p.nodes.length-x.i) ⟨0,.full,tok,nt⟩ ⟨ai _,(TK.start Ht).full⟩ (wM (nr0 _) rfl (by simp[ToL,lk]) (by simp[aE,lk,kZ])) ?_;rintro⟨i,own,tok',nt'⟩ S ⟨hi,htk⟩ hS;simp only[aE9] at hS hi htk;subst hS;have hw:=sW (i:=i) (by omega);repeat first|simp|refine sR ?_|apply sC
 refine⟨fun hlt=>?_,fun hge=>?_⟩
 .obtain⟨r1,r2⟩:=h.n _ (aa hlt);have r3:p.nodes[i].toNat<g.nodes.length:=by omega
  refine sR ?_;simp[hlt,r1,r2,r3];refine⟨⟨by have:=nN g p i;omega,htk.live⟩,?_⟩;repeat first|simp[hw]|refine sR ?_
  apply sE;exact⟨⟨i+1,_,_,_⟩,⟨hlt,htk.app⟩,by simp only;omega,wM htk.app.le rfl (by simp[ToL,lk]) (by simp[aE,lk,kW g p hlt,r3])⟩
 .apply sX;simp only[AU,↓reduceIte];have:i=p.nodes.length:=by omega
  subst this;repeat first|simp|refine sR ?_
  apply sN;refine sL (aLu g p own nb box) (fun x=>x.i<=p.edges.length/\TK tok nt x.tok x.nt [x.own]) (fun x=>p.edges.length-x.i) ⟨0,.full,tok',nt'⟩ ⟨ai _,htk.tail.full⟩ (wM htk.le rfl (by simp[ToL,lk]) (by simp[aE,lk,kR])) ?_;rintro⟨i,ie,ib,io⟩ S ⟨hi,gw⟩ hS;simp only[aLu] at hS hi gw;subst hS;have hw:=sW (i:=i) (by omega);have hh:=fun v=>aAr p.nodes v hp.n
  repeat first|simp|refine sR ?_|apply sC
  refine⟨fun hlt=>?_,fun hge=>?_⟩
  .obtain⟨r1,r2⟩:=h.e _ (aa hlt);have r3:p.edges[i].toNat<g.edges.length:=by omega
   have hE:qQ g p p.edges[i]=⟨g.edges[p.edges[i].toNat].ty,aQ p.nodes g.edges[p.edges[i].toNat].fr,aQ p.nodes g.edges[p.edges[i].toNat].to⟩:=by
    have q2:g.edges.getD p.edges[i].toNat default=g.edges[p.edges[i].toNat]:=by simp[r3]
    rw[qQ,q2]
   have kc:=kQ g p hlt;rw[hE] at kc;apply sN;refine AL.region2 cC (nr0 _) (by kernel_rfl) (rF.of (by simp)) ?_;simp[hlt,r1,r2,r3];generalize g.edges[p.edges[i].toNat]=x at *;refine sR ?_;simp;refine sD (hh _ _ _) ?_;simp;refine sD (hh _ _ _) ?_;simp;refine⟨⟨by have:=nI g p i;omega,gw.live⟩,?_⟩;repeat first|simp[hw]|refine sR ?_
   apply sE;exact⟨⟨i+1,_,_,_⟩,⟨hlt,gw.app⟩,by simp only;omega,wM gw.app.le rfl (by simp[ToL,lk]) (by simp[aE,lk,kc])⟩
  .apply sX;simp only[AU,↓reduceIte];have:i=p.edges.length:=by omega
   subst this;repeat first|simp|refine sR ?_
   refine⟨by omega,by omega,?_⟩;have ig:=gw.full.app.full.app;refine sT (sG Hb Ht ig.old ig.le ?_);simp[aAE]
theorem aKX(p:Mo)(n:Int)(h1:p.nodes.length<=281474976710656)(h2:p.edges.length<=281474976710656):DC 160 [p.av,I n] (B (qD p n)):=by
 intro tok nt box nb;have hw:IntKind.i64.wrap (↑p.nodes.length+↑p.edges.length)=(p.nodes.length:Int)+p.edges.length:=aL (by omega) (by omega)
 refine sI func160 ntmps160 fun Hb Ht=>?_
 repeat first|simp[hw]|refine sR ?_
 refine sT (sH ?_);simp[qD]
theorem aJL(n:Int):DC 229 [I n] (B false):=by
 intro tok nt box nb;refine sI func229 ntmps229 fun Hb Ht=>?_
 repeat first|simp|refine sR ?_
 refine sT (sH ?_);simp
theorem aGP(n:Int):DC 177 [I n] (B false):=by
 intro tok nt box nb;refine sI func177 ntmps177 fun Hb Ht=>?_
 repeat first|simp|refine sR ?_
 refine sT (sH ?_);simp
theorem aMD(m n:Int):DC 176 [I m,I n] (B (decide (m<n))):=by
 intro tok nt box nb;have h:=aJL;refine sI func176 ntmps176 fun Hb Ht=>?_
 repeat first|simp|refine sR ?_
 refine sD (h _ _ _) ?_;repeat first|simp|refine sR ?_
 refine sT (sH ?_);simp
def aIZ(l:List Int)(v:Int):Nat:=l.findIdx fun x=>decide (v<=x)
theorem aEI{l:List Int}{v:Int}{i:Nat}(hi:i<=l.length)(h1:∀t,t<i->l.getD t 0<v)(h2:∀t,i<=t->t<l.length->v<=l.getD t 0):aIZ l v=i:=by
 unfold aIZ;have gd:∀t (h:t<l.length),l.getD t 0=l[t]:=fun t h=>by simp[h]
 by_cases h:i<l.length
 .rw[fw h];refine⟨?_,fun j hj=>?_⟩
  .have:=h2 i (nr0 _) h
   rw[gd i h] at this;simpa using this
  .have:=h1 j hj
   rw[gd j (by omega)] at this;simpa using this
 .have:i=l.length:=by omega
  subst this;rw[List.findIdx_eq_length];intro x hx;obtain⟨t,ht,rfl⟩:=bi hx;have:=h1 t ht
  rw[gd t ht] at this;simpa using this
theorem kS{l:List Int}{v:Int}(hs:∀j i,i<j->j<l.length->l.getD i 0<l.getD j 0)(hm:v∈l):(aIZ l v:Int)=aQ l v:=by
 obtain⟨i1,i2,i3⟩:=fC hm;obtain⟨k,hk⟩:∃k:Nat,aQ l v=k:=⟨(aQ l v).toNat,by omega⟩
 rw[hk] at i1 i2 i3 ⊢;rw[bv] at i3;rw[aEI (i:=k) (by omega) (fun t ht=>by rw[<-i3];exact hs k t ht (by omega)) fun t h1 h2=>by
  rw[<-i3];by_cases e:t=k
  .subst e;omega
  .have:=hs t k (by omega) h2;omega]
structure aRM where
 i:Nat
 j:Nat
def aPz(l:List Int)(v:Int)(nb:Nat)(box:Bxs)(tok:Tks)(nt:Nat)(a:aRM):AS:=⟨tl [(8,I a.j),(7,I a.i),(6,I l.length),(5,B false),(4,I 0),(0,.d (ints l)),(1,I v)],lb nb box [],tok,nt⟩
theorem vB(l:List Int)(v:Int)(hl:l.length<=1000000)(hs:∀j i,i<j->j<l.length->l.getD i 0<l.getD j 0):DC 116 [.d (ints l),I v] (.tup [I (aIZ l v),B (decide (v∈l))]):=by
 intro tok nt box nb;refine sI func116 ntmps116 fun Hb Ht=>?_
 repeat first|simp|refine sR ?_
 apply sN;refine sL (aPz l v nb box tok nt) (fun a=>a.i<=a.j/\a.j<=l.length/\(∀t,t<a.i->l.getD t 0<v)/\∀t,a.j<=t->t<l.length->v<=l.getD t 0) (fun a=>a.j-a.i) ⟨0,l.length⟩ ⟨ai _,nr0 _,fun t ht=>absurd ht (b9 _),fun t h1 h2=>absurd h2 (by simp only at h1;omega)⟩ (wM (nr0 _) rfl (by simp[ToL,lk]) trivial) ?_;rintro⟨i,j⟩ S ⟨pg,hj,h1,h2⟩ hS;simp only[aPz] at hS pg hj h1 h2;subst hS;repeat first|simp|refine sR ?_|apply sC
 refine⟨fun hlt=>?_,fun hge=>?_⟩
 .obtain⟨q,hq⟩:∃q,i+j=q:=⟨_,rfl⟩
  obtain⟨h,hh⟩:∃h,q / 2=h:=⟨_,rfl⟩
  have w1:IntKind.i64.wrap (↑i+↑j)=(q:Int):=by rw[aL (by omega) (by omega)];omega
  have w2:IntKind.u64.wrap (q:Int)=q:=u64_in (by omega) (by omega)
  have w3:(q:Int).fdiv (2 ^ min 1 IntKind.u64.bits)=(h:Int):=by
   have e:(2:Int) ^ min 1 IntKind.u64.bits=2:=by decide
   rw[e,Int.fdiv_eq_ediv_of_nonneg _ (by omega)];omega
  have w4:IntKind.i64.wrap (h:Int)=h:=aL (by omega) (by omega)
  have w5:IntKind.i64.wrap ((h:Int)+1)=((h+1:Nat):Int):=by rw[aL (by omega) (by omega)];rfl
  have BR:h<l.length:=by omega
  have Bg:l.getD h 0=l[h]:=by simp[BR]
  have yj:=aMD l[h] v;repeat first|simp[w1,w2,w3,w4,BR]|refine sR ?_
  refine sD (yj _ _) ?_;simp;by_cases hv:l[h]<v
  .simp only[hv];apply sC;simp;repeat first|simp[w5]|refine sR ?_
   apply sE;refine⟨⟨h+1,j⟩,⟨by simp only;omega,hj,fun t ht=>?_,h2⟩,by simp only;omega,wM (nr0 _) rfl (by simp[ToL,lk]) trivial⟩;simp only at ht;rw[<-List.getD_eq_getElem?_getD];by_cases e:t=h
   .rw[e,Bg];exact hv
   .have:=hs h t (by omega) BR
    rw[Bg] at this;omega
  .simp only[hv];apply sC;repeat first|simp|refine sR ?_
   apply sE;refine⟨⟨i,h⟩,⟨by simp only;omega,by simp only;omega,h1,fun t ht z7=>?_⟩,by simp only;omega,wM (nr0 _) rfl (by simp[ToL,lk]) trivial⟩;simp only at ht;rw[<-List.getD_eq_getElem?_getD];by_cases e:t=h
   .rw[e,Bg];omega
   .have:=hs t h (by omega) z7
    rw[Bg] at this;omega
 .apply sX;simp only[AU,↓reduceIte];have BS:i=j:=by omega
  subst BS;have yk:aIZ l v=i:=aEI hj h1 h2
  have i5:i<l.length->l.getD i 0=v->v∈l:=fun h3 h4=>by rw[<-h4];exact aO h3
  have i6:v∈l->i<l.length/\l.getD i 0=v:=fun hm=>by
   obtain⟨t,ht,e⟩:=eK hm;have a1:¬t<i:=fun h3=>by have:=h1 t h3;omega
   have a2:¬i<t:=fun h3=>by
    have:=hs t i h3 ht
    have:=h2 i (nr0 _) (by omega)
    omega
   have:t=i:=by omega
   subst this;exact⟨ht,e⟩
  by_cases h3:i<l.length
  .have hg:l.getD i 0=l[i]:=by simp[h3]
   rw[hg] at i5 i6;by_cases h4:l[i]=v
   .have hm:=i5 h3 h4;have hb:(l[i]==v)=true:=by simp[h4]
    repeat first|simp[h3,hb]|refine sR ?_
    refine sT (sH ?_);simp[yk,hm]
   .have hm:v∉l:=fun h=>h4 (i6 h).2
    have hb:(l[i]==v)=false:=by simp[h4]
    repeat first|simp[h3,hb]|refine sR ?_
    refine sD (aGP _ _ _) ?_;repeat first|simp|refine sR ?_
    refine sT (sH ?_);simp[yk,hm]
  .have hm:v∉l:=fun h=>h3 (i6 h).1
   repeat first|simp[h3]|refine sR ?_
   refine sT (sH ?_);simp[yk,hm]
def aOV(l:List Int)(n:Int)(nb:Nat)(box:Bxs)(tok:Tks)(nt:Nat)(i:Nat):AS:=⟨tl [(9,I i),(8,I l.length),(7,.d (ints l)),(4,I 0),(0,.d (ints l)),(1,I n)],lb nb box [],tok,nt⟩
theorem aHm(l:List Int)(n:Int)(hl:l.length<=1000000):DC 227 [.d (ints l),I n] (I (jR l n)):=by
 intro tok nt box nb;refine sI func227 ntmps227 fun Hb Ht=>?_
 repeat first|simp|refine sR ?_
 apply sN;refine sL (aOV l n nb box tok nt) (fun i=>i<=l.length/\aA (iZ l n) i=0) (fun i=>l.length-i) 0 ⟨ai _,rfl⟩ (wM (nr0 _) rfl (by simp[ToL,lk]) trivial) ?_;rintro i S ⟨hi,gt⟩ hS;simp only[aOV] at hS;subst hS;have hw:=sW (i:=i) (by omega);have hR:i<l.length->iZ l n i≠0->jR l n=iZ l n i:=fun hlt h0=>aK gt h0 l.length hlt
 repeat first|simp|refine sR ?_|apply sC
 refine⟨fun hlt=>?_,fun hge=>?_⟩
 .have hg:l.getD i 0=l[i]:=by simp[hlt]
  have hR:=hR hlt;have hA:iZ l n i=if l[i]<0∨n<=l[i] then 6 else if 0<i/\l[i]<=l.getD (i-1) 0 then 12 else 0:=by rw[iZ,hg]
  by_cases g8:l[i]<0
  .repeat first|simp[g8,hlt]|refine sR ?_
   apply sC;repeat first|simp|refine sR ?_
   rw[hA,af (.inl g8)] at hR;have hR:=hR (by decide);refine sT (sH ?_);simp[hR]
  .by_cases hbig:n<=l[i]
   .repeat first|simp[g8,hlt,hbig]|refine sR ?_
    apply sC;repeat first|simp|refine sR ?_
    rw[hA,af (.inr hbig)] at hR;have hR:=hR (by decide);refine sT (sH ?_);simp[hR]
   .rw[ac (by omega)] at hA;repeat (first|simp[g8,hlt,hbig]|refine sR ?_)
    apply sC
    repeat (first|simp[g8,hlt,hbig]|refine sR ?_)
    by_cases h0:0<i
    .have qz:IntKind.i64.wrap (↑i-1)=((i-1:Nat):Int):=by rw[aL (by omega) (by omega)];omega
     have qj:i-1<l.length:=by omega
     have hg':l.getD (i-1) 0=l[i-1]:=by simp[qj]
     rw[hg'] at hA;repeat first|simp[hlt,h0,qz,qj]|refine sR ?_
     by_cases g9:l[i]<=l[i-1]
     .rw[af ⟨h0,g9⟩] at hA;rw[hA] at hR;have hR:=hR (by decide);simp only[g9];apply sC;repeat first|simp|refine sR ?_
      refine sT (sH ?_);simp[hR]
     .rw[ac (by omega)] at hA;simp only[g9];apply sC;simp;repeat first|simp[hw]|refine sR ?_
      apply sE;exact⟨i+1,⟨hlt,by simp only[aA,gt,hA,↓reduceIte]⟩,by omega,wM (nr0 _) rfl (by simp[ToL,lk]) trivial⟩
    .rw[ac (by omega)] at hA;repeat first|simp[hlt,h0]|refine sR ?_
     apply sC;simp;repeat first|simp[hw]|refine sR ?_
     apply sE;exact⟨i+1,⟨hlt,by simp only[aA,gt,hA,↓reduceIte]⟩,by omega,wM (nr0 _) rfl (by simp[ToL,lk]) trivial⟩
 .apply sX;simp only[AU,↓reduceIte];repeat first|simp|refine sR ?_
  have:i=l.length:=by omega
  subst this;refine sT (sH ?_);simp[jR,gt]
theorem aOl(l:List Int)(v:Int)(hl:l.length<=1000000)(hs:∀j i,i<j->j<l.length->l.getD i 0<l.getD j 0):DC 228 [.d (ints l),I v] (B (decide (v∈l))):=by
 intro tok nt box nb;have h:=vB l v hl hs;refine sI func228 ntmps228 fun Hb Ht=>?_
 repeat first|simp|refine sR ?_
 refine sD (h _ _) ?_;repeat first|simp|refine sR ?_
 refine sT (sH ?_);simp
def aOo(g:Gr)(p:Mo)(nb:Nat)(box:Bxs)(tok:Tks)(nt:Nat)(i:Nat):AS :=
 ⟨tl [(30,I i),(29,I p.edges.length),(28,.d (ints p.edges)),(3,.ptr (nb+3) 0 0),(2,.ptr (nb+2) 0 0)],lb nb box [(3,[[.d (ints p.nodes),.d (ints p.edges)]]),(2,[[.d (ints g.nodes),.d (AM.edges g.edges)]])],tok,nt⟩
theorem aMc(g:Gr)(p:Mo)(hg:g.Fit)(hv:vG g=0)(hp:p.Fit):DC 175 [g.av,p.av] (I (eR g p)):=by
 intro tok nt box nb;have h1:=aHm p.nodes g.nodes.length hp.n;have h2:=aHm p.edges g.edges.length hp.e;refine sI func175 ntmps175 fun Hb Ht=>?_
 repeat first|simp|refine sR ?_
 refine sD (h1 _ _) ?_;repeat first|simp|refine sR ?_
 by_cases e1:jR p.nodes g.nodes.length=0
 .simp only[e1];apply sC;repeat first|simp|refine sR ?_
  refine sD (h2 _ _) ?_;repeat first|simp|refine sR ?_
  by_cases e2:jR p.edges g.edges.length=0
  .simp only[e2];apply sC;repeat first|simp|refine sR ?_
   apply sN;have re:=uG e2;refine sL (aOo g p nb box tok nt) (fun i=>i<=p.edges.length/\aA (gC g p) i=0) (fun i=>p.edges.length-i) 0 ⟨ai _,rfl⟩ wkA ?_;rintro i S ⟨hi,gt⟩ hS;simp only[aOo] at hS;subst hS;have s8:=hp.e;have hw:=sW (i:=i) (by omega);have hR:i<p.edges.length->gC g p i≠0->eR g p=gC g p i:=fun hlt h0=>by
    have:=aK gt h0 p.edges.length hlt
    simp[eR,e1,e2,this]
   repeat first|simp|refine sR ?_|apply sC
   refine⟨fun hlt=>?_,fun hge=>?_⟩
   .have hR:=hR hlt;obtain⟨r1,r2⟩:=re _ (aa hlt);have r3:p.edges[i].toNat<g.edges.length:=by omega
    have hD:gC g p i=if g.edges[p.edges[i].toNat].fr∈p.nodes/\g.edges[p.edges[i].toNat].to∈p.nodes then 0 else 14:=by
     have q1:p.edges.getD i 0=p.edges[i]:=by simp[hlt]
     have q2:g.edges.getD p.edges[i].toNat default=g.edges[p.edges[i].toNat]:=by simp[r3]
     rw[gC,q1,q2]
    have hh:=fun v=>aOl p.nodes v hp.n (aAJ e1)
    repeat first|simp[hlt,r1,r2,r3]|refine sR ?_
    refine sD (hh _ _ _) ?_;simp;by_cases h1:g.edges[p.edges[i].toNat].fr∈p.nodes
    .simp only[h1];repeat first|simp[hlt,r1,r2,r3]|refine sR ?_
     refine sD (hh _ _ _) ?_;simp;by_cases h2:g.edges[p.edges[i].toNat].to∈p.nodes
     .rw[af ⟨h1,h2⟩] at hD;simp only[h2];repeat first|simp[hw]|refine sR ?_|apply sC
      apply sE;exact⟨i+1,⟨hlt,by simp only[aA,gt,hD,↓reduceIte]⟩,by omega,wkA⟩
     .rw[ac (fun h=>h2 h.2)] at hD;rw[hD] at hR;have hR:=hR (by decide);simp only[h2];repeat first|simp|refine sR ?_
      apply sC;repeat first|simp|refine sR ?_
      refine sT (sH ?_);simp[hR]
    .rw[ac (fun h=>h1 h.1)] at hD;rw[hD] at hR;have hR:=hR (by decide);simp only[h1];repeat first|simp|refine sR ?_
     apply sC;repeat first|simp|refine sR ?_
     refine sT (sH ?_);simp[hR]
   .apply sX;simp only[AU,↓reduceIte];repeat first|simp|refine sR ?_
    have:i=p.edges.length:=by omega
    subst this;refine sT (sH ?_);simp[eR,e1,e2,gt]
  .have b2:(jR p.edges g.edges.length != 0)=true:=by simp[e2]
   simp only[b2];apply sC;repeat first|simp|refine sR ?_
   refine sT (sH ?_);simp[eR,e1,e2]
 .have b1:(jR p.nodes g.nodes.length != 0)=true:=by simp[e1]
  simp only[b1];apply sC;repeat first|simp|refine sR ?_
  refine sT (sH ?_);simp[eR,e1]
theorem pV(g:Gr)(p:Mo)(hg:g.Fit)(hp:p.Fit):DC 115 [g.av,p.av] (I (cQ g p)):=by
 intro tok nt box nb;have h1:=bT g hg;have h2:=fun h=>aMc g p hg h hp
 refine sI func115 ntmps115 fun Hb Ht=>?_
 repeat first|simp|refine sR ?_
 refine sD (h1 _ _) ?_;repeat first|simp|refine sR ?_
 by_cases e1:vG g=0
 .simp only[e1];apply sC;repeat first|simp|refine sR ?_
  refine sD (h2 e1 _ _) ?_;repeat first|simp|refine sR ?_
  refine sT (sH ?_);simp[cQ,e1]
 .have b1:(vG g != 0)=true:=by simp[e1]
  simp only[b1];apply sC;repeat first|simp|refine sR ?_
  refine sT (sH ?_);simp[cQ,e1]
def aFk(g:Gr)(p:Mo)(nb:Nat)(box:Bxs)(x:Acc):AS :=
 ⟨tl [(25,I x.i),(24,I p.nodes.length),(23,.d (ints p.nodes)),(8,.ptr (nb+8) 0 0),(5,.ptr (nb+5) 0 0),(4,.ptr (nb+4) 0 0),(3,.ptr (nb+3) 0 0),(2,.ptr (nb+2) 0 0)],
  lb nb box [(8,[[.osl 1 (rI (iH g p x.i)) x.own,.osl 0 [] .full]]),(3,[[.d (ints p.nodes),.d (ints p.edges)]]),(2,[[.d (ints g.nodes),.d (AM.edges g.edges)]]),(5,[[dL,dL]]),(4,[[dL,dL]])],x.tok,x.nt⟩
def aLY(g:Gr)(p:Mo)(kp:Own)(nb:Nat)(box:Bxs)(x:Acc):AS :=
 ⟨tl [(43,I x.i),(42,I p.edges.length),(41,.d (ints p.edges)),(8,.ptr (nb+8) 0 0),(5,.ptr (nb+5) 0 0),(4,.ptr (nb+4) 0 0),(3,.ptr (nb+3) 0 0),(2,.ptr (nb+2) 0 0)],
  lb nb box [(8,[[.d (ints (iH g p p.nodes.length)),.osl 3 (rE (jZ g p x.i)) x.own]]),(3,[[.d (ints p.nodes),.d (ints p.edges)]]),(2,[[.d (ints g.nodes),.d (AM.edges g.edges)]]),(5,[[dL,dL]]),(4,[[dL,dL]])],x.tok,x.nt⟩
theorem aEf(g:Gr)(p:Mo)(hg:g.Fit)(hp:p.Fit)(h:VP g p):DC 69 [g.av,p.av] (.tup [(exG g p).av,p.av,I 0]):=by
 intro tok nt box nb;have h1:=pV g p hg hp;rw[h.v] at h1;refine sI func69 ntmps69 fun Hb Ht=>?_
 repeat first|simp|refine sR ?_
 refine sD (h1 _ _) ?_;repeat first|simp|refine sR ?_
 apply sC;repeat first|simp|refine sR ?_
 apply sN;have v6:=hp.n;have s8:=hp.e;refine sL (aFk g p nb box) (fun x=>x.i<=p.nodes.length/\TK tok nt x.tok x.nt [x.own]) (fun x=>p.nodes.length-x.i) ⟨0,.full,tok,nt⟩ ⟨ai _,(TK.start Ht).full⟩ (wM (nr0 _) rfl (by simp[ToL,lk]) (by simp[aE,lk,kZ])) ?_;rintro⟨i,own,tok',nt'⟩ S ⟨hi,htk⟩ hS;simp only[aFk] at hS hi htk;subst hS;have hw:=sW (i:=i) (by omega);repeat first|simp|refine sR ?_|apply sC
 refine⟨fun hlt=>?_,fun hge=>?_⟩
 .obtain⟨r1,r2⟩:=h.n _ (aa hlt);have r3:p.nodes[i].toNat<g.nodes.length:=by omega
  repeat first|simp[hlt,r1,r2,r3]|refine sR ?_
  refine⟨⟨by have:=nN g p i;omega,htk.live⟩,?_⟩;repeat first|simp[hw]|refine sR ?_
  apply sE;exact⟨⟨i+1,_,_,_⟩,⟨hlt,htk.app⟩,by simp only;omega,wM htk.app.le rfl (by simp[ToL,lk]) (by simp[aE,lk,kW g p hlt,r3])⟩
 .apply sX;simp only[AU,↓reduceIte];have:i=p.nodes.length:=by omega
  subst this;repeat first|simp|refine sR ?_
  apply sN;refine sL (aLY g p own nb box) (fun x=>x.i<=p.edges.length/\TK tok nt x.tok x.nt [x.own]) (fun x=>p.edges.length-x.i) ⟨0,.full,tok',nt'⟩ ⟨ai _,htk.tail.full⟩ (wM htk.le rfl (by simp[ToL,lk]) (by simp[aE,lk,kR])) ?_;rintro⟨i,ie,ib,io⟩ S ⟨hi,gw⟩ hS;simp only[aLY] at hS hi gw;subst hS;have hw:=sW (i:=i) (by omega);have hh:=fun v=>vB p.nodes v hp.n h.sn
  repeat first|simp|refine sR ?_|apply sC
  refine⟨fun hlt=>?_,fun hge=>?_⟩
  .obtain⟨r1,r2⟩:=h.e _ (aa hlt);have r3:p.edges[i].toNat<g.edges.length:=by omega
   have hE:qQ g p p.edges[i]=⟨g.edges[p.edges[i].toNat].ty,aQ p.nodes g.edges[p.edges[i].toNat].fr,aQ p.nodes g.edges[p.edges[i].toNat].to⟩:=by
    have q2:g.edges.getD p.edges[i].toNat default=g.edges[p.edges[i].toNat]:=by simp[r3]
    rw[qQ,q2]
   have kc:=kQ g p hlt;rw[hE] at kc;have hcc:=h.c _ (aa hlt);have q3:g.edges.getD p.edges[i].toNat default=g.edges[p.edges[i].toNat]:=by simp[r3]
   rw[q3] at hcc;have A3:=hh g.edges[p.edges[i].toNat].fr;have uj:=hh g.edges[p.edges[i].toNat].to;rw[kS h.sn hcc.1] at A3;rw[kS h.sn hcc.2] at uj;refine sR ?_;simp[hlt];refine sR ?_;simp[r1,r2,r3];generalize g.edges[p.edges[i].toNat]=x at *;repeat first|simp|refine sR ?_
   refine sD (A3 _ _) ?_;repeat first|simp|refine sR ?_
   refine sD (uj _ _) ?_;repeat first|simp|refine sR ?_
   refine⟨⟨by have:=nI g p i;omega,gw.live⟩,?_⟩;repeat first|simp[hw]|refine sR ?_
   apply sE;exact⟨⟨i+1,_,_,_⟩,⟨hlt,gw.app⟩,by simp only;omega,wM gw.app.le rfl (by simp[ToL,lk]) (by simp[aE,lk,kc])⟩
  .apply sX;simp only[AU,↓reduceIte];have:i=p.edges.length:=by omega
   subst this;have c1:=gG p.nodes hp.n;have c2:=gG p.edges hp.e;repeat first|simp|refine sR ?_
   refine sD (c1 _ _) ?_;repeat first|simp|refine sR ?_
   refine sD (c2 _ _) ?_;simp;have ig:=gw.full.app.full.app;repeat first|simp|refine sR ?_
   refine sT (sG Hb Ht ig.old ig.le ?_);simp[aAE]
structure At where
 name:ByteArray
 lo:Int
 hi:Int
 names:List ByteArray
structure NT where
 name:ByteArray
 par:Int
 abs:Bool
 own:List At
structure ET where
 name:ByteArray
 fr:Int
 to:Int
 ol:Int
 oh:Int
 il:Int
 ih:Int
structure Ty where
 nodes:List NT
 edges:List ET
abbrev At.cells(a:At):List D:=[.raw (.string a.name),.raw (.int .i64 a.lo),.raw (.int .i64 a.hi),lA a.names]
abbrev qL(l:List At):D:=.sl 4 (l.map At.cells)
abbrev NT.cells(n:NT):List D:=[.raw (.string n.name),.raw (.int .i64 n.par),.raw (.bool n.abs),qL n.own]
abbrev ET.cells(e:ET):List D:=[.raw (.string e.name),.raw (.int .i64 e.fr),.raw (.int .i64 e.to),.raw (.int .i64 e.ol),.raw (.int .i64 e.oh),.raw (.int .i64 e.il),.raw (.int .i64 e.ih)]
abbrev nts(l:List NT):D:=.sl 4 (l.map NT.cells)
abbrev ets(l:List ET):D:=.sl 7 (l.map ET.cells)
abbrev Ty.av(t:Ty):AV:=.agg [.d (nts t.nodes),.d (ets t.edges)]
instance:Inhabited ByteArray:=⟨⟨#[]⟩⟩
abbrev eB:ByteArray:=⟨#[]⟩
def iF(l:List ByteArray)(i:Nat):Int:=if cM (l.getD i eB)=false then 2 else if nW (l.take i) (l.getD i eB)=true then 5 else 0
def mP(l:List ByteArray):Int:=if 20<l.length then 3 else aA (iF l) l.length
structure aGR (l:List ByteArray):Prop where
 n:l.length<=1000000
 s:∀x∈l,x.size<=1000000000000
theorem aGw(l:List ByteArray)(i:Nat):lA (l.take i)=.sl 1 (List.take i (l.map fun s=>[D.raw (.string s)])):=by rw[lA,List.map_take]
theorem aFS{l:List ByteArray}{i:Nat}{v:ByteArray}(hi:i<l.length)(h:nW (l.take i) v=false)(hne:v≠l[i]):nW (l.take (i+1)) v=false:=by
 rw[<-Bool.not_eq_true,qY] at h ⊢;rw[ah hi,ap,a7];exact fun h2=>h2.elim h hne
theorem aIv{l:List ByteArray}{k i:Nat}(hk:k<l.length)(yf:k<i):nW (l.take i) l[k]=true:=qY.2 (by rw[cm];exact⟨k,by omega,rfl⟩)
def aLB(l:List ByteArray)(nb:Nat)(box:Bxs)(tok:Tks)(nt:Nat)(i:Nat):AS:=⟨tl [(3,I i),(0,.d (lA l))],lb nb box [],tok,nt⟩
def aLx(l:List ByteArray)(i:Nat)(nb:Nat)(box:Bxs)(tok:Tks)(nt:Nat)(k:Nat):AS:=⟨tl [(4,I k),(3,I i),(0,.d (lA l))],lb nb box [],tok,nt⟩
def aOu(l:List ByteArray)(nb:Nat)(box:Bxs)(tok:Tks)(nt:Nat)(i:Nat):AS:=⟨tl [(10,I i),(9,I l.length),(8,.d (lA l)),(0,.d (lA l))],lb nb box [],tok,nt⟩
theorem aKk(l:List ByteArray)(hl:aGR l):DC 282 [.d (lA l)] (I (mP l)):=by
 intro tok nt box nb;have lu:=hl.n;by_cases A4:20<l.length
 .have rl:(20:Int)<l.length:=by omega
  rw[show mP l=3 from af A4];refine sI func282 ntmps282 fun Hb Ht=>?_
  repeat first|simp[rl]|refine sR ?_
  apply sC;repeat first|simp|refine sR ?_
  refine sT (sH ?_);simp
 .have rl:¬(20:Int)<l.length:=by omega
  have hE:mP l=aA (iF l) l.length:=ac A4
  refine sI func282 ntmps282 fun Hb Ht=>?_
  repeat first|simp[rl]|refine sR ?_
  apply sC;repeat first|simp|refine sR ?_
  apply sN;refine sL (aOu l nb box tok nt) (fun i=>i<=l.length/\aA (iF l) i=0) (fun i=>l.length-i) 0 ⟨ai _,rfl⟩ (wM (nr0 _) rfl (by simp[ToL,lk]) trivial) ?_;rintro i S' ⟨hi,gt⟩ hS;simp only[aOu] at hS;subst hS;have hw:=sW (i:=i) (by omega);have hR:i<l.length->iF l i≠0->aA (iF l) l.length=iF l i:=fun hlt h0=>aK gt h0 l.length hlt
  repeat first|simp|refine sR ?_|apply sC
  refine⟨fun hlt=>?_,fun hge=>?_⟩
  .have hg:l.getD i eB=l[i]:=by simp[hlt]
   have hA:iF l i=if cM l[i]=false then 2 else if nW (l.take i) l[i]=true then 5 else 0:=by rw[iF,hg]
   have hn:=mG l[i] (bz (hl.s _ (aa hlt)) (by decide));have hc:=tB (l.take i) l[i] (by simp;omega);have hR:=hR hlt;repeat first|simp[hlt,aEK hlt]|refine sR ?_
   refine sD (hn _ _) ?_;simp;cases e1:cM l[i]
   .rw[e1,af rfl] at hA;rw[hA] at hR;have hR:=hR (by decide);repeat first|simp|refine sR ?_
    apply sC;repeat first|simp|refine sR ?_
    refine sT (sH ?_);simp[hE,hR]
   .rw[e1,ac (by simp)] at hA;repeat first|simp|refine sR ?_
    apply sC;repeat first|simp|refine sR ?_
    refine⟨by omega,?_⟩;rw[aGw] at hc;refine sD (hc _ _) ?_;simp;cases e2:nW (l.take i) l[i]
    .rw[e2,ac (by simp)] at hA;repeat first|simp[hw]|refine sR ?_|apply sC
     apply sE;exact⟨i+1,⟨hlt,by simp only[aA,gt,hA,↓reduceIte]⟩,by omega,wM (nr0 _) rfl (by simp[ToL,lk]) trivial⟩
    .rw[e2,af rfl] at hA;rw[hA] at hR;have hR:=hR (by decide);repeat first|simp|refine sR ?_
     apply sC;repeat first|simp|refine sR ?_
     refine sT (sH ?_);simp[hE,hR]
  .apply sX;simp only[AU,↓reduceIte];repeat first|simp|refine sR ?_
   have:i=l.length:=by omega
   subst this;refine sT (sH ?_);simp[hE,gt]
theorem aGu(l:List ByteArray)(hl:aGR l):DC 253 [.d (lA l)] (I (mP l)):=by
 intro tok nt box nb;have lu:=hl.n;by_cases A4:20<l.length
 .have rl:(20:Int)<l.length:=by omega
  rw[show mP l=3 from af A4];refine sI func253 ntmps253 fun Hb Ht=>?_
  repeat first|simp[rl]|refine sR ?_
  apply sC;repeat first|simp|refine sR ?_
  refine sT (sH ?_);simp
 .have rl:¬(20:Int)<l.length:=by omega
  have hE:mP l=aA (iF l) l.length:=ac A4
  refine sI func253 ntmps253 fun Hb Ht=>?_
  repeat first|simp[rl]|refine sR ?_
  apply sC;repeat first|simp|refine sR ?_
  apply sN;refine sL (aLB l nb box tok nt) (fun i=>i<=l.length/\aA (iF l) i=0) (fun i=>l.length-i) 0 ⟨ai _,rfl⟩ (wM (nr0 _) rfl (by simp[ToL,lk]) trivial) ?_;rintro i S' ⟨hi,gt⟩ hS;simp only[aLB] at hS;subst hS;have hw:=sW (i:=i) (by omega);have hR:i<l.length->iF l i≠0->aA (iF l) l.length=iF l i:=fun hlt h0=>aK gt h0 l.length hlt
  repeat first|simp|refine sR ?_|apply sC
  refine⟨fun hlt=>?_,fun hge=>?_⟩
  .have hg:l.getD i eB=l[i]:=by simp[hlt]
   have hA:iF l i=if cM l[i]=false then 2 else if nW (l.take i) l[i]=true then 5 else 0:=by rw[iF,hg]
   have hn:=iT l[i] (bz (hl.s _ (aa hlt)) (by decide));have hR:=hR hlt;repeat first|simp[hlt,aEK hlt]|refine sR ?_
   refine sD (hn _ _) ?_;simp;cases e1:cM l[i]
   .rw[e1,af rfl] at hA;rw[hA] at hR;have hR:=hR (by decide);repeat first|simp|refine sR ?_
    apply sC;repeat first|simp|refine sR ?_
    refine sT (sH ?_);simp[hE,hR]
   .rw[e1,ac (by simp)] at hA;repeat first|simp|refine sR ?_
    apply sC;repeat first|simp|refine sR ?_
    apply sN;refine sL (aLx l i nb box tok nt) (fun k=>k<=i/\nW (l.take k) l[i]=false) (fun k=>i-k) 0 ⟨ai _,rfl⟩ (wM (nr0 _) rfl (by simp[ToL,lk]) trivial) ?_;rintro k S' ⟨hk,hm⟩ hS;simp only[aLx] at hS;subst hS;have nc:=sW (i:=k) (by omega);repeat first|simp|refine sR ?_|apply sC
    refine⟨fun ku=>?_,fun hge=>?_⟩
    .have ky:k<l.length:=by omega
     by_cases e2:l[k]=l[i]
     .have b2:(l[k].toList==l[i].toList)=true:=by rw[cV];simp[e2]
      have qa:=aIv ky ku;rw[e2] at qa;rw[af qa] at hA;rw[hA] at hR;have hR:=hR (by decide);repeat first|simp[hlt,ky,b2]|refine sR ?_
      apply sC;repeat first|simp|refine sR ?_
      refine sT (sH ?_);simp[hE,hR]
     .have b2:(l[k].toList==l[i].toList)=false:=by rw[cV];simp[e2]
      repeat first|simp[hlt,ky,b2]|refine sR ?_
      apply sC;simp;repeat first|simp[nc]|refine sR ?_
      apply sE;exact⟨k+1,⟨ku,aFS ky hm fun h=>e2 h.symm⟩,by omega,wM (nr0 _) rfl (by simp[ToL,lk]) trivial⟩
    .apply sX;simp only[AU,↓reduceIte];have:k=i:=by omega
     subst this;rw[ac (by simp[hm])] at hA;repeat first|simp[hw]|refine sR ?_
     apply sE;exact⟨k+1,⟨hlt,by simp only[aA,gt,hA,↓reduceIte]⟩,by omega,wM (nr0 _) rfl (by simp[ToL,lk]) trivial⟩
  .apply sX;simp only[AU,↓reduceIte];repeat first|simp|refine sR ?_
   have:i=l.length:=by omega
   subst this;refine sT (sH ?_);simp[hE,gt]
abbrev At.av(a:At):AV:=.agg [Sb a.name,I a.lo,I a.hi,.d (lA a.names)]
abbrev NT.av(n:NT):AV:=.agg [Sb n.name,I n.par,B n.abs,.d (qL n.own)]
abbrev ET.av(e:ET):AV:=.agg [Sb e.name,I e.fr,I e.to,I e.ol,I e.oh,I e.il,I e.ih]
theorem jU{α:Type}{p:α->Bool}{xs:List α}{i:Nat}(h:i<xs.length)(h1:∀x∈xs.take i,p x=false)(h2:p xs[i]=true):bA p xs=true/\xs.findIdx p=i:=by
 refine⟨dv.2 ⟨_,aa h,h2⟩,?_⟩;rw[fw h];refine⟨h2,fun j hj=>?_⟩;have:=h1 xs[j] (by
  rw[cm];exact⟨j,by omega,rfl⟩)
 simpa using this
def aNO(xs:List At)(f:FuncId)(caps:List AV)(nb:Nat)(box:Bxs)(tok:Tks)(nt:Nat)(i:Nat):AS:=⟨tl [(0,.d (qL xs)),(1,.fn (.func f) caps),(7,I xs.length),(8,I i)],lb nb box [],tok,nt⟩
theorem aAC(xs:List At)(f:FuncId)(caps:List AV)(p:At->Bool)(hx:xs.length<=1000000)(box:Bxs)(nb:Nat)(tok:Tks)(nt:Nat)(hc:∀c∈caps,bD (fun k=>box k≠none) (fun _=>True) c)(hf:∀x∈xs,∀box' nb',Ext box box'->aC prog f (x.av::caps) ⟨box',nb',tok,nt⟩ fun v m=>v=B (p x)/\m=⟨box',nb',tok,nt⟩):
  aC prog 313 [.d (qL xs),.fn (.func f) caps] ⟨box,nb,tok,nt⟩ fun v m=>v=I (if bA p xs=true then (xs.findIdx p:Nat) else -1)/\m=⟨box,nb,tok,nt⟩:=by
 refine sI func313 ntmps313 fun Hb Ht=>?_
 repeat first|simp|refine sR ?_
 apply sN;refine sL (aNO xs f caps nb box tok nt) (fun i=>i<=xs.length/\∀x∈xs.take i,p x=false) (fun i=>xs.length-i) 0 ⟨ai _,by simp⟩ (wM (nr0 _) rfl (by simp[ToL];exact .same (kV hc Hb [] (by simp) rfl _)) trivial) ?_;rintro i S' ⟨hi,htk⟩ hS;simp only[aNO] at hS;subst hS;have hw:=sW (i:=i) (by omega);repeat first|simp|refine sR ?_|apply sC
 refine⟨fun hlt=>?_,fun hge=>?_⟩
 .have qu:=hf xs[i] (aa _);have v7:p xs[i]=true->bA p xs=true/\(xs.findIdx p=i):=fun he=>jU hlt htk he
  have lm:p xs[i]=false->∀x∈xs.take (i+1),p x=false:=fun he x hx=>by
   rw[ah hlt] at hx;rcases ap.1 hx with hx|hx
   .exact htk x hx
   .simp at hx;rw[hx];exact he
  repeat first|simp[hlt]|refine sR ?_
  generalize xs[i]=x at *;refine aT.of_b (qu _ _ ((Ext.refl box).lb Hb [])) ?_;simp;cases he:p x
  .apply sC;simp;repeat first|simp[hw]|refine sR ?_
   apply sE;refine⟨i+1,⟨hlt,?_⟩,by omega,wM (nr0 _) rfl (by simp[ToL];exact .same (kV hc Hb [] (by simp) rfl _)) trivial⟩;exact lm he
  .obtain⟨h1,h2⟩:=v7 he;apply sC;repeat first|simp|refine sR ?_
   refine sT (sH ?_);simp[h1,h2]
 .have hn:bA p xs=false:=by
   rw[ak hge] at htk;simpa[bA] using htk
  apply sX;simp only[AU,↓reduceIte];repeat first|simp|refine sR ?_
  refine sT (sH ?_);simp[hn]
theorem tQ(xs:List At)(f:FuncId)(caps:List AV)(p:At->Bool)(hx:xs.length<=1000000)(box:Bxs)(nb:Nat)(tok:Tks)(nt:Nat)(hc:∀c∈caps,bD (fun k=>box k≠none) (fun _=>True) c)(hf:∀x∈xs,∀box' nb',Ext box box'->aC prog f (x.av::caps) ⟨box',nb',tok,nt⟩ fun v m=>v=B (p x)/\m=⟨box',nb',tok,nt⟩):
  aC prog 280 [.d (qL xs),.fn (.func f) caps] ⟨box,nb,tok,nt⟩ fun v m=>v=B (bA p xs)/\m=⟨box,nb,tok,nt⟩:=by
 obtain⟨A,jr⟩:∃A,bA p xs=A:=⟨_,rfl⟩
 have hi:=fun b nb' h1 h2=>aAC xs f caps p hx b nb' tok nt h1 h2
 rw[jr];simp only[jr] at hi;refine sI func280 ntmps280 fun Hb Ht=>?_
 repeat first|simp|refine sR ?_
 refine aT.of_b (hi (lb nb box []) _ (fun c h=>(hc c h).mono (fun k hk=>by rw[Hb];exact hk) fun _ h=>h) (fun x qf box' nb' he=>hf x qf box' nb' (by rw[Hb] at he;exact he))) ?_;simp;cases A
 .repeat first|simp|refine sR ?_
  refine sT (sH ?_);simp
 .have h0:(0:Int)<=(xs.findIdx p:Nat):=by omega
  repeat first|simp|refine sR ?_
  refine sT (sH ?_);simp[h0]
def aOD(xs:List NT)(f:FuncId)(caps:List AV)(nb:Nat)(box:Bxs)(tok:Tks)(nt:Nat)(i:Nat):AS:=⟨tl [(0,.d (nts xs)),(1,.fn (.func f) caps),(7,I xs.length),(8,I i)],lb nb box [],tok,nt⟩
theorem aBv(xs:List NT)(f:FuncId)(caps:List AV)(p:NT->Bool)(hx:xs.length<=1000000)(box:Bxs)(nb:Nat)(tok:Tks)(nt:Nat)(hc:∀c∈caps,bD (fun k=>box k≠none) (fun _=>True) c)(hf:∀x∈xs,∀box' nb',Ext box box'->aC prog f (x.av::caps) ⟨box',nb',tok,nt⟩ fun v m=>v=B (p x)/\m=⟨box',nb',tok,nt⟩):
  aC prog 279 [.d (nts xs),.fn (.func f) caps] ⟨box,nb,tok,nt⟩ fun v m=>v=I (if bA p xs=true then (xs.findIdx p:Nat) else -1)/\m=⟨box,nb,tok,nt⟩:=by
 refine sI func279 ntmps279 fun Hb Ht=>?_
 repeat first|simp|refine sR ?_
 apply sN;refine sL (aOD xs f caps nb box tok nt) (fun i=>i<=xs.length/\∀x∈xs.take i,p x=false) (fun i=>xs.length-i) 0 ⟨ai _,by simp⟩ (wM (nr0 _) rfl (by simp[ToL];exact .same (kV hc Hb [] (by simp) rfl _)) trivial) ?_;rintro i S' ⟨hi,htk⟩ hS;simp only[aOD] at hS;subst hS;have hw:=sW (i:=i) (by omega);repeat first|simp|refine sR ?_|apply sC
 refine⟨fun hlt=>?_,fun hge=>?_⟩
 .have qu:=hf xs[i] (aa _);have v7:p xs[i]=true->bA p xs=true/\(xs.findIdx p=i):=fun he=>jU hlt htk he
  have lm:p xs[i]=false->∀x∈xs.take (i+1),p x=false:=fun he x hx=>by
   rw[ah hlt] at hx;rcases ap.1 hx with hx|hx
   .exact htk x hx
   .simp at hx;rw[hx];exact he
  repeat first|simp[hlt]|refine sR ?_
  generalize xs[i]=x at *;refine aT.of_b (qu _ _ ((Ext.refl box).lb Hb [])) ?_;simp;cases he:p x
  .apply sC;simp;repeat first|simp[hw]|refine sR ?_
   apply sE;refine⟨i+1,⟨hlt,?_⟩,by omega,wM (nr0 _) rfl (by simp[ToL];exact .same (kV hc Hb [] (by simp) rfl _)) trivial⟩;exact lm he
  .obtain⟨h1,h2⟩:=v7 he;apply sC;repeat first|simp|refine sR ?_
   refine sT (sH ?_);simp[h1,h2]
 .have hn:bA p xs=false:=by
   rw[ak hge] at htk;simpa[bA] using htk
  apply sX;simp only[AU,↓reduceIte];repeat first|simp|refine sR ?_
  refine sT (sH ?_);simp[hn]
theorem lI(xs:List NT)(f:FuncId)(caps:List AV)(p:NT->Bool)(hx:xs.length<=1000000)(box:Bxs)(nb:Nat)(tok:Tks)(nt:Nat)(hc:∀c∈caps,bD (fun k=>box k≠none) (fun _=>True) c)(hf:∀x∈xs,∀box' nb',Ext box box'->aC prog f (x.av::caps) ⟨box',nb',tok,nt⟩ fun v m=>v=B (p x)/\m=⟨box',nb',tok,nt⟩):
  aC prog 235 [.d (nts xs),.fn (.func f) caps] ⟨box,nb,tok,nt⟩ fun v m=>v=B (bA p xs)/\m=⟨box,nb,tok,nt⟩:=by
 obtain⟨A,jr⟩:∃A,bA p xs=A:=⟨_,rfl⟩
 have hi:=fun b nb' h1 h2=>aBv xs f caps p hx b nb' tok nt h1 h2
 rw[jr];simp only[jr] at hi;refine sI func235 ntmps235 fun Hb Ht=>?_
 repeat first|simp|refine sR ?_
 refine aT.of_b (hi (lb nb box []) _ (fun c h=>(hc c h).mono (fun k hk=>by rw[Hb];exact hk) fun _ h=>h) (fun x qf box' nb' he=>hf x qf box' nb' (by rw[Hb] at he;exact he))) ?_;simp;cases A
 .repeat first|simp|refine sR ?_
  refine sT (sH ?_);simp
 .have h0:(0:Int)<=(xs.findIdx p:Nat):=by omega
  repeat first|simp|refine sR ?_
  refine sT (sH ?_);simp[h0]
def aL6(xs:List ET)(f:FuncId)(caps:List AV)(nb:Nat)(box:Bxs)(tok:Tks)(nt:Nat)(i:Nat):AS:=⟨tl [(0,.d (ets xs)),(1,.fn (.func f) caps),(7,I xs.length),(8,I i)],lb nb box [],tok,nt⟩
theorem xW(xs:List ET)(f:FuncId)(caps:List AV)(p:ET->Bool)(hx:xs.length<=1000000)(box:Bxs)(nb:Nat)(tok:Tks)(nt:Nat)(hc:∀c∈caps,bD (fun k=>box k≠none) (fun _=>True) c)(hf:∀x∈xs,∀box' nb',Ext box box'->aC prog f (x.av::caps) ⟨box',nb',tok,nt⟩ fun v m=>v=B (p x)/\m=⟨box',nb',tok,nt⟩):
  aC prog 283 [.d (ets xs),.fn (.func f) caps] ⟨box,nb,tok,nt⟩ fun v m=>v=I (if bA p xs=true then (xs.findIdx p:Nat) else -1)/\m=⟨box,nb,tok,nt⟩:=by
 refine sI func283 ntmps283 fun Hb Ht=>?_
 repeat first|simp|refine sR ?_
 apply sN;refine sL (aL6 xs f caps nb box tok nt) (fun i=>i<=xs.length/\∀x∈xs.take i,p x=false) (fun i=>xs.length-i) 0 ⟨ai _,by simp⟩ (wM (nr0 _) rfl (by simp[ToL];exact .same (kV hc Hb [] (by simp) rfl _)) trivial) ?_;rintro i S' ⟨hi,htk⟩ hS;simp only[aL6] at hS;subst hS;have hw:=sW (i:=i) (by omega);repeat first|simp|refine sR ?_|apply sC
 refine⟨fun hlt=>?_,fun hge=>?_⟩
 .have qu:=hf xs[i] (aa _);have v7:p xs[i]=true->bA p xs=true/\(xs.findIdx p=i):=fun he=>jU hlt htk he
  have lm:p xs[i]=false->∀x∈xs.take (i+1),p x=false:=fun he x hx=>by
   rw[ah hlt] at hx;rcases ap.1 hx with hx|hx
   .exact htk x hx
   .simp at hx;rw[hx];exact he
  repeat first|simp[hlt]|refine sR ?_
  generalize xs[i]=x at *;refine aT.of_b (qu _ _ ((Ext.refl box).lb Hb [])) ?_;simp;cases he:p x
  .apply sC;simp;repeat first|simp[hw]|refine sR ?_
   apply sE;refine⟨i+1,⟨hlt,?_⟩,by omega,wM (nr0 _) rfl (by simp[ToL];exact .same (kV hc Hb [] (by simp) rfl _)) trivial⟩;exact lm he
  .obtain⟨h1,h2⟩:=v7 he;apply sC;repeat first|simp|refine sR ?_
   refine sT (sH ?_);simp[h1,h2]
 .have hn:bA p xs=false:=by
   rw[ak hge] at htk;simpa[bA] using htk
  apply sX;simp only[AU,↓reduceIte];repeat first|simp|refine sR ?_
  refine sT (sH ?_);simp[hn]
theorem rP(xs:List ET)(f:FuncId)(caps:List AV)(p:ET->Bool)(hx:xs.length<=1000000)(box:Bxs)(nb:Nat)(tok:Tks)(nt:Nat)(hc:∀c∈caps,bD (fun k=>box k≠none) (fun _=>True) c)(hf:∀x∈xs,∀box' nb',Ext box box'->aC prog f (x.av::caps) ⟨box',nb',tok,nt⟩ fun v m=>v=B (p x)/\m=⟨box',nb',tok,nt⟩):
  aC prog 240 [.d (ets xs),.fn (.func f) caps] ⟨box,nb,tok,nt⟩ fun v m=>v=B (bA p xs)/\m=⟨box,nb,tok,nt⟩:=by
 obtain⟨A,jr⟩:∃A,bA p xs=A:=⟨_,rfl⟩
 have hi:=fun b nb' h1 h2=>xW xs f caps p hx b nb' tok nt h1 h2
 rw[jr];simp only[jr] at hi;refine sI func240 ntmps240 fun Hb Ht=>?_
 repeat first|simp|refine sR ?_
 refine aT.of_b (hi (lb nb box []) _ (fun c h=>(hc c h).mono (fun k hk=>by rw[Hb];exact hk) fun _ h=>h) (fun x qf box' nb' he=>hf x qf box' nb' (by rw[Hb] at he;exact he))) ?_;simp;cases A
 .repeat first|simp|refine sR ?_
  refine sT (sH ?_);simp
 .have h0:(0:Int)<=(xs.findIdx p:Nat):=by omega
  repeat first|simp|refine sR ?_
  refine sT (sH ?_);simp[h0]
abbrev At.row(a:At):List AV:=[Sb a.name,I a.lo,I a.hi,.d (lA a.names)]
theorem aKP(x y:At)(box:Bxs)(nb k:Nat)(tok:Tks)(nt:Nat)(h1:box k=some [x.row]):
  aC prog 281 [y.av,.ptr k 0 0] ⟨box,nb,tok,nt⟩ fun v m=>v=B (decide (y.name=x.name))/\m=⟨box,nb,tok,nt⟩:=by
 refine sI func281 ntmps281 fun Hb Ht=>?_
 have k1n:=bH Hb h1;rw[<-cV];repeat first|simp[lO k1n,h1]|refine sR ?_
 refine sT (sH ?_);simp
def jP(x:At):Bool:=if x.names.length=0 then decide (-1000000<=x.lo/\x.lo<=x.hi/\x.hi<=1000000) else decide (x.lo=0/\x.hi=(x.names.length:Int)-1)
def vP(x:At)(before:List At):Int:=if cM x.name=false then 2 else if bA (fun y=>decide (y.name=x.name)) before=true then 5 else if mP x.names≠0 then mP x.names else if jP x=true then 0 else 6
structure At.Fit (a:At):Prop where
 n:a.name.size<=1000000000000
 l:aGR a.names
theorem aCu(x:At)(before:List At)(hx:x.Fit)(hb:before.length<=1000000):DC 238 [x.av,.d (qL before)] (I (vP x before)):=by
 intro tok nt box nb;have h1:=mG x.name (bz hx.n (by decide));have h3:=aKk x.names hx.l;cases e1:cM x.name
 .rw[e1] at h1;rw[show vP x before=2 by rw[vP,af e1]];refine sI func238 ntmps238 fun Hb Ht=>?_
  repeat first|simp|refine sR ?_
  refine sD (h1 _ _) ?_;repeat first|simp|refine sR ?_
  apply sC;repeat first|simp|refine sR ?_
  refine sT (sH ?_);simp
 .rw[e1] at h1;have hA:vP x before=if bA (fun y=>decide (y.name=x.name)) before=true then 5 else if mP x.names≠0 then mP x.names else if jP x=true then 0 else 6:=by rw[vP,ac (by simp[e1])]
  obtain⟨N,hN⟩:∃N,vP x before=N:=⟨_,rfl⟩
  rw[hN] at hA ⊢;obtain⟨p,hp⟩:∃p:At->Bool,(fun y=>decide (y.name=x.name))=p:=⟨_,rfl⟩
  have h2:=fun y box nb k h=>aKP x y box nb k tok nt h
  have oy:∀y:At,decide (y.name=x.name)=p y:=fun y=>by rw[<-hp]
  simp only[oy] at h2;rw[hp] at hA;have iq:∀c∈[AV.ptr (nb+2) 0 0],bD (fun k=>(lb nb box [(2,[x.row])]) k≠none) (fun _=>True) c:=by
   intro c hc;rw[a7.1 hc];simp[aN]
  refine sI func238 ntmps238 fun Hb Ht=>?_
  repeat first|simp|refine sR ?_
  refine sD (h1 _ _) ?_;repeat first|simp|refine sR ?_
  apply sC;repeat first|simp|refine sR ?_
  refine aT.of_b (tQ before 281 [.ptr (nb+2) 0 0] p hb _ _ _ _ iq (fun y hy box' nb' he=>h2 y box' nb' _ (he _ _ (by simp[aN])))) ?_;repeat first|simp|refine sR ?_
  cases e2:bA p before
  .rw[e2,ac (by simp)] at hA;apply sC;repeat first|simp|refine sR ?_
   refine sD (h3 _ _) ?_;repeat first|simp|refine sR ?_
   by_cases e3:mP x.names=0
   .rw[ac (by simp[e3])] at hA;simp only[e3];apply sC;simp;by_cases c1 : -1000000<=x.lo
    .by_cases c2:x.lo<=x.hi
     .by_cases c3:x.hi<=1000000
      .repeat first|simp[c1,c2,c3]|refine sR ?_
       by_cases z:x.names.length=0
       .have z2:¬0<x.names.length:=by omega
        have hr:jP x=true:=by rw[jP,af z];simp only[au,bo];omega
        rw[hr] at hA;apply sC;simp[z2];repeat first|simp|refine sR ?_
        apply sC;repeat first|simp|refine sR ?_
        refine sT (sH ?_);simp[hA]
       .have z2:0<x.names.length:=by omega
        have hr:jP x=decide (x.lo=0/\x.hi=(x.names.length:Int)-1):=ac z
        rw[hr] at hA;have lu:=hx.l.n;have w:IntKind.i64.wrap ((x.names.length:Int)-1)=(x.names.length:Int)-1:=aL (by omega) (by omega)
        by_cases l0:x.lo=0
        .have b0:(x.lo==0)=true:=by simp[l0]
         by_cases h0:x.hi=(x.names.length:Int)-1
         .have b1:(x.hi==(x.names.length:Int)-1)=true:=by simp[h0]
          apply sC;simp[z2];repeat first|simp[w,b0,b1]|refine sR ?_
          apply sC;repeat first|simp|refine sR ?_
          refine sT (sH ?_);simp[hA,l0,h0]
         .have b1:(x.hi==(x.names.length:Int)-1)=false:=by simp[h0]
          apply sC;simp[z2];repeat first|simp[w,b0,b1]|refine sR ?_
          apply sC;repeat first|simp|refine sR ?_
          refine sT (sH ?_);simp[hA,l0,h0]
        .have b0:(x.lo==0)=false:=by simp[l0]
         apply sC;simp[z2];repeat first|simp[w,b0]|refine sR ?_
         apply sC;repeat first|simp|refine sR ?_
         refine sT (sH ?_);simp[hA,l0]
      .repeat first|simp[c1,c2,c3]|refine sR ?_
       by_cases z:x.names.length=0
       .have z2:¬0<x.names.length:=by omega
        have hr:jP x=false:=by rw[jP,af z];simp only[au,bo];omega
        rw[hr] at hA;apply sC;simp[z2];repeat first|simp|refine sR ?_
        apply sC;repeat first|simp|refine sR ?_
        refine sT (sH ?_);simp[hA]
       .have z2:0<x.names.length:=by omega
        have hr:jP x=decide (x.lo=0/\x.hi=(x.names.length:Int)-1):=ac z
        rw[hr] at hA;have lu:=hx.l.n;have w:IntKind.i64.wrap ((x.names.length:Int)-1)=(x.names.length:Int)-1:=aL (by omega) (by omega)
        by_cases l0:x.lo=0
        .have b0:(x.lo==0)=true:=by simp[l0]
         by_cases h0:x.hi=(x.names.length:Int)-1
         .have b1:(x.hi==(x.names.length:Int)-1)=true:=by simp[h0]
          apply sC;simp[z2];repeat first|simp[w,b0,b1]|refine sR ?_
          apply sC;repeat first|simp|refine sR ?_
          refine sT (sH ?_);simp[hA,l0,h0]
         .have b1:(x.hi==(x.names.length:Int)-1)=false:=by simp[h0]
          apply sC;simp[z2];repeat first|simp[w,b0,b1]|refine sR ?_
          apply sC;repeat first|simp|refine sR ?_
          refine sT (sH ?_);simp[hA,l0,h0]
        .have b0:(x.lo==0)=false:=by simp[l0]
         apply sC;simp[z2];repeat first|simp[w,b0]|refine sR ?_
         apply sC;repeat first|simp|refine sR ?_
         refine sT (sH ?_);simp[hA,l0]
     .repeat first|simp[c1,c2]|refine sR ?_
      by_cases z:x.names.length=0
      .have z2:¬0<x.names.length:=by omega
       have hr:jP x=false:=by rw[jP,af z];simp only[au,bo];omega
       rw[hr] at hA;apply sC;simp[z2];repeat first|simp|refine sR ?_
       apply sC;repeat first|simp|refine sR ?_
       refine sT (sH ?_);simp[hA]
      .have z2:0<x.names.length:=by omega
       have hr:jP x=decide (x.lo=0/\x.hi=(x.names.length:Int)-1):=ac z
       rw[hr] at hA;have lu:=hx.l.n;have w:IntKind.i64.wrap ((x.names.length:Int)-1)=(x.names.length:Int)-1:=aL (by omega) (by omega)
       by_cases l0:x.lo=0
       .have b0:(x.lo==0)=true:=by simp[l0]
        by_cases h0:x.hi=(x.names.length:Int)-1
        .have b1:(x.hi==(x.names.length:Int)-1)=true:=by simp[h0]
         apply sC;simp[z2];repeat first|simp[w,b0,b1]|refine sR ?_
         apply sC;repeat first|simp|refine sR ?_
         refine sT (sH ?_);simp[hA,l0,h0]
        .have b1:(x.hi==(x.names.length:Int)-1)=false:=by simp[h0]
         apply sC;simp[z2];repeat first|simp[w,b0,b1]|refine sR ?_
         apply sC;repeat first|simp|refine sR ?_
         refine sT (sH ?_);simp[hA,l0,h0]
       .have b0:(x.lo==0)=false:=by simp[l0]
        apply sC;simp[z2];repeat first|simp[w,b0]|refine sR ?_
        apply sC;repeat first|simp|refine sR ?_
        refine sT (sH ?_);simp[hA,l0]
    .repeat first|simp[c1]|refine sR ?_
     by_cases z:x.names.length=0
     .have z2:¬0<x.names.length:=by omega
      have hr:jP x=false:=by rw[jP,af z];simp only[au,bo];omega
      rw[hr] at hA;apply sC;simp[z2];repeat first|simp|refine sR ?_
      apply sC;repeat first|simp|refine sR ?_
      refine sT (sH ?_);simp[hA]
     .have z2:0<x.names.length:=by omega
      have hr:jP x=decide (x.lo=0/\x.hi=(x.names.length:Int)-1):=ac z
      rw[hr] at hA;have lu:=hx.l.n;have w:IntKind.i64.wrap ((x.names.length:Int)-1)=(x.names.length:Int)-1:=aL (by omega) (by omega)
      by_cases l0:x.lo=0
      .have b0:(x.lo==0)=true:=by simp[l0]
       by_cases h0:x.hi=(x.names.length:Int)-1
       .have b1:(x.hi==(x.names.length:Int)-1)=true:=by simp[h0]
        apply sC;simp[z2];repeat first|simp[w,b0,b1]|refine sR ?_
        apply sC;repeat first|simp|refine sR ?_
        refine sT (sH ?_);simp[hA,l0,h0]
       .have b1:(x.hi==(x.names.length:Int)-1)=false:=by simp[h0]
        apply sC;simp[z2];repeat first|simp[w,b0,b1]|refine sR ?_
        apply sC;repeat first|simp|refine sR ?_
        refine sT (sH ?_);simp[hA,l0,h0]
      .have b0:(x.lo==0)=false:=by simp[l0]
       apply sC;simp[z2];repeat first|simp[w,b0]|refine sR ?_
       apply sC;repeat first|simp|refine sR ?_
       refine sT (sH ?_);simp[hA,l0]
   .rw[af e3] at hA;have b3:(mP x.names != 0)=true:=by simp[e3]
    simp only[b3];apply sC;repeat first|simp|refine sR ?_
    refine sT (sH ?_);simp[hA]
  .rw[e2,af rfl] at hA;apply sC;repeat first|simp|refine sR ?_
   refine sT (sH ?_);simp[hA]
def inZ(n lo hi:Int):Bool:=decide (lo<=n/\n<=hi)
theorem jT(n lo hi:Int):DC 158 [I n,I lo,I hi] (B (inZ n lo hi)):=by
 intro tok nt box nb;by_cases h1:lo<=n
 .by_cases h2:n<=hi
  .refine sI func158 ntmps158 fun Hb Ht=>?_
   repeat first|simp[h1,h2]|refine sR ?_
   refine sT (sH ?_);simp[inZ,h1,h2]
  .refine sI func158 ntmps158 fun Hb Ht=>?_
   repeat first|simp[h1,h2]|refine sR ?_
   refine sT (sH ?_);simp[inZ,h1,h2]
 .refine sI func158 ntmps158 fun Hb Ht=>?_
  repeat first|simp[h1]|refine sR ?_
  refine sT (sH ?_);simp[inZ,h1]
def aJq(x:At):Int:=if mP x.names≠0 then mP x.names else if jP x=true then 0 else 6
theorem xU(x:At)(hx:x.Fit):DC 196 [x.av] (I (aJq x)):=by
 intro tok nt box nb;have h3:=aGu x.names hx.l;have i1:=jT x.lo (-1000000) 1000000;have i2:=jT x.hi x.lo 1000000;obtain⟨N,hN⟩:∃N,aJq x=N:=⟨_,rfl⟩
 rw[hN];unfold aJq at hN;by_cases z:x.names.length=0
 .have z0:mP x.names=0:=by
   have:x.names=[]:=dh.1 z
   rw[this];rfl
  rw[ac (by simp[z0])] at hN;have hr:jP x=decide (-1000000<=x.lo/\x.lo<=x.hi/\x.hi<=1000000):=by rw[jP,af z]
  have zl:x.names=[]:=dh.1 z
  cases e1:inZ x.lo (-1000000) 1000000
  .have r1:jP x=false:=by
    rw[hr];simp only[inZ,bo] at e1 ⊢;omega
   rw[r1] at hN;rw[e1] at i1;refine sI func196 ntmps196 fun Hb Ht=>?_
   repeat first|simp[z,zl]|refine sR ?_|apply sC
   refine sD (i1 _ _) ?_;repeat first|simp|refine sR ?_
   apply sC;repeat first|simp|refine sR ?_
   refine sT (sH ?_);simp[<-hN]
  .cases e2:inZ x.hi x.lo 1000000
   .have r1:jP x=false:=by
     rw[hr];simp only[inZ,bo,au] at e1 e2 ⊢;omega
    rw[r1] at hN;rw[e1] at i1;rw[e2] at i2;refine sI func196 ntmps196 fun Hb Ht=>?_
    repeat first|simp[z,zl]|refine sR ?_|apply sC
    refine sD (i1 _ _) ?_;repeat first|simp|refine sR ?_
    refine sD (i2 _ _) ?_;repeat first|simp|refine sR ?_
    apply sC;repeat first|simp|refine sR ?_
    refine sT (sH ?_);simp[<-hN]
   .have r1:jP x=true:=by
     rw[hr];simp only[inZ,au] at e1 e2 ⊢;omega
    rw[r1] at hN;rw[e1] at i1;rw[e2] at i2;refine sI func196 ntmps196 fun Hb Ht=>?_
    repeat first|simp[z,zl]|refine sR ?_|apply sC
    refine sD (i1 _ _) ?_;repeat first|simp|refine sR ?_
    refine sD (i2 _ _) ?_;repeat first|simp|refine sR ?_
    apply sC;repeat first|simp|refine sR ?_
    refine sT (sH ?_);simp[<-hN]
 .have zl:¬x.names=[]:=fun h=>z (by rw[h];rfl)
  have hr:jP x=decide (x.lo=0/\x.hi=(x.names.length:Int)-1):=ac z
  rw[hr] at hN;have lu:=hx.l.n;have w:IntKind.i64.wrap ((x.names.length:Int)-1)=(x.names.length:Int)-1:=aL (by omega) (by omega)
  refine sI func196 ntmps196 fun Hb Ht=>?_
  repeat first|simp[z,zl]|refine sR ?_|apply sC
  refine sD (h3 _ _) ?_;repeat first|simp|refine sR ?_
  by_cases e3:mP x.names=0
  .rw[ac (by simp[e3])] at hN;simp only[e3];apply sC;simp;by_cases l0:x.lo=0
   .have b0:(x.lo != 0)=false:=by simp[l0]
    by_cases h0:x.hi=(x.names.length:Int)-1
    .have b1:(x.hi != (x.names.length:Int)-1)=false:=by simp[h0]
     repeat first|simp[w,b0,b1]|refine sR ?_
     apply sC;repeat first|simp|refine sR ?_
     refine sT (sH ?_);simp[<-hN,l0,h0]
    .have b1:(x.hi != (x.names.length:Int)-1)=true:=by simp[h0]
     repeat first|simp[w,b0,b1]|refine sR ?_
     apply sC;repeat first|simp|refine sR ?_
     refine sT (sH ?_);simp[<-hN,l0,h0]
   .have b0:(x.lo != 0)=true:=by simp[l0]
    repeat first|simp[w,b0]|refine sR ?_
    apply sC;repeat first|simp|refine sR ?_
    refine sT (sH ?_);simp[<-hN,l0]
  .rw[af e3] at hN;have b3:(mP x.names != 0)=true:=by simp[e3]
   simp only[b3];apply sC;repeat first|simp|refine sR ?_
   refine sT (sH ?_);simp[<-hN]
instance:Inhabited NT:=⟨⟨eB,0,false,[]⟩⟩
def Ty.nd(t:Ty)(i:Nat):NT:=t.nodes.getD i default
def iY(t:Ty)(i:Nat):List At:=if h:0<=(t.nd i).par/\(t.nd i).par.toNat<i then iY t (t.nd i).par.toNat++(t.nd i).own else (t.nd i).own
termination_by i
decreasing_by exact h.2
theorem aBr{t:Ty}{i:Nat}(h:0<=(t.nd i).par)(h2:(t.nd i).par.toNat<i):iY t i=iY t (t.nd i).par.toNat++(t.nd i).own:=by rw[iY,dif_pos ⟨h,h2⟩]
theorem aCk{t:Ty}{i:Nat}(h:¬0<=(t.nd i).par):iY t i=(t.nd i).own:=by rw[iY,dif_neg fun h2=>h h2.1]
theorem mM{t:Ty}{M:Nat}(hM:∀i,(t.nd i).own.length<=M):∀n i,i<n->(iY t i).length<=(i+1)*M
 | 0,i,hi=>absurd hi (b9 _)
 | n+1,i,hi=>by
  have hm:=hM i;by_cases h:0<=(t.nd i).par/\(t.nd i).par.toNat<i
  .have ih:=mM hM n (t.nd i).par.toNat (by omega);rw[aBr h.1 h.2,am];have:((t.nd i).par.toNat+1)*M<=i*M:=bk _ (by omega)
   rw[cb,Nat.one_mul];omega
  .rw[iY,dif_neg h];have:M<=(i+1)*M:=Nat.le_mul_of_pos_left _ (by omega)
   omega
structure Ty.Fit (t:Ty):Prop where
 n:t.nodes.length<=1000
 e:t.edges.length<=1000
 nn:∀x∈t.nodes,x.name.size<=1000000000000
 en:∀x∈t.edges,x.name.size<=1000000000000
 a:∀x∈t.nodes,x.own.length<=1000/\∀y∈x.own,y.Fit
theorem iJ{t:Ty}{i:Nat}(h:i<t.nodes.length):t.nd i=t.nodes[i]:=by simp[Ty.nd,h]
theorem aFj(t:Ty)(ht:t.Fit)(hM:∀i,(t.nd i).own.length<=1000):∀(n i:Nat),i<n->i<t.nodes.length->(∀j,j<=i->(t.nd j).par<j)->∀(tok:Tks) (nt:Nat),∃tok' nt' o,((∀q,tok q=true->q<nt)->TK tok nt tok' nt' [o]) /\
  cZ prog 237 [t.av,I i] tok nt (.osl 4 ((iY t i).map At.cells) o) tok' nt'
 | 0,i,hi,_,_,_,_=>absurd hi (b9 _)
 | n+1,i,hi,hlt,hp,tok,nt=>by
  have hnd:=iJ hlt;by_cases h0:0<=(t.nd i).par
  .have yl:=hp i (nr0 _);obtain⟨iy,kv,o1,hk,hc⟩:=aFj t ht hM n (t.nd i).par.toNat (by omega) (by omega) (fun j hj=>hp j (by omega)) tok nt;have hL:=aBr h0 (by omega);have ma:=mM hM (i+1) (t.nd i).par.toNat (by omega);have hl2:=hM i;have hb:((t.nd i).par.toNat+1)*1000<=1000*1000:=bk _ (by have:=ht.n;omega)
   refine⟨_,_,.tok kv,fun h=>(hk h).app,?_⟩;rw[hL];rw[fh h0] at hc;generalize iY t (t.nd i).par.toNat=Q at *;rw[hnd] at h0 hc hl2 ⊢;intro box nb;have hc:=hc;refine sI func237 ntmps237 fun Hb Ht=>?_
   have i4:=hk Ht;repeat first|simp[hlt]|refine sR ?_
   apply sC;simp[h0];repeat first|simp|refine sR ?_
   refine sD (hc) ?_;simp;repeat first|simp[hlt]|refine sR ?_
   refine⟨⟨by omega,i4.live⟩,?_⟩;apply sN;refine AL.ret ?_;try simp only[AU]
   refine⟨by simp,Fin.own (by simp[aV,bQ];rfl) Hb rfl i4.app.le ?_⟩;simp
  .have hL:=aCk h0;have hl2:=hM i;refine⟨_,_,.tok nt,fun h=>(TK.start h).full.app,?_⟩;rw[hL];rw[hnd] at h0 hl2 ⊢;intro box nb;refine sI func237 ntmps237 fun Hb Ht=>?_
   have i4:=(TK.start Ht).full;repeat first|simp[hlt]|refine sR ?_
   apply sC;simp[h0];repeat first|simp[hlt]|refine sR ?_
   refine⟨by omega,?_⟩;apply sN;refine AL.ret ?_;try simp only[AU]
   refine⟨by simp,Fin.own (by simp[aV,bQ];rfl) Hb rfl (by simp) ?_⟩;simp
theorem aDL(t:Ty)(a:Int)(h:a<0):DC 195 [t.av,I a] (.osl 0 [] .full):=by
 intro tok nt box nb;refine sI func195 ntmps195 fun Hb Ht=>?_
 repeat first|simp[h]|refine sR ?_|apply sC
 refine sT (sH ?_);simp
theorem zC(t:Ty)(ht:t.Fit)(hM:∀i,(t.nd i).own.length<=1000):∀(n i:Nat),i<n->i<t.nodes.length->(∀j,j<=i->(t.nd j).par<j)->∀(tok:Tks) (nt:Nat),∃tok' nt' o,((∀q,tok q=true->q<nt)->TK tok nt tok' nt' [o]) /\
  cZ prog 195 [t.av,I i] tok nt (.osl 4 ((iY t i).map At.cells) o) tok' nt'
 | 0,i,hi,_,_,_,_=>absurd hi (b9 _)
 | n+1,i,hi,hlt,hp,tok,nt=>by
  have hnd:=iJ hlt;have q9:¬(i:Int)<0:=by omega
  by_cases h0:0<=(t.nd i).par
  .have yl:=hp i (nr0 _);obtain⟨iy,kv,o1,hk,hc⟩:=zC t ht hM n (t.nd i).par.toNat (by omega) (by omega) (fun j hj=>hp j (by omega)) tok nt;have hL:=aBr h0 (by omega);have ma:=mM hM (i+1) (t.nd i).par.toNat (by omega);have hl2:=hM i;have hb:((t.nd i).par.toNat+1)*1000<=1000*1000:=bk _ (by have:=ht.n;omega)
   refine⟨_,_,.tok (kv+1),fun h=>(hk h).tail.full.app.app,?_⟩;rw[hL];rw[fh h0] at hc;generalize iY t (t.nd i).par.toNat=Q at *;rw[hnd] at h0 hc hl2 ⊢;intro box nb;refine sI func195 ntmps195 fun Hb Ht=>?_
   have i4:=hk Ht;repeat first|simp[q9]|refine sR ?_
   apply sC;simp[q9];repeat first|simp[hlt]|refine sR ?_
   refine sD (hc) ?_;simp;repeat first|simp[hlt]|refine sR ?_
   first|refine⟨by omega,⟨by omega,uS _ _ _⟩,?_⟩|refine⟨⟨by omega,uS _ _ _⟩,?_⟩|refine⟨by omega,uS _ _ _,?_⟩|trace_state
   apply sN;refine AL.ret ?_;try simp only[AU]
   refine⟨by simp,Fin.own (by simp[aV,bQ];rfl) Hb rfl i4.tail.full.app.app.le ?_⟩;simp
  .have hL:=aCk h0;have hl2:=hM i;have hc:=aDL t (t.nd i).par (by omega) tok nt;refine⟨_,_,.tok (nt+1),fun h=>(TK.start h).full.app.app,?_⟩;rw[hL];rw[hnd] at h0 hc hl2 ⊢;intro box nb;refine sI func195 ntmps195 fun Hb Ht=>?_
   have i4:=(TK.start Ht).full;repeat first|simp[q9]|refine sR ?_
   apply sC;simp[q9];repeat first|simp[hlt]|refine sR ?_
   refine sD (hc) ?_;simp;repeat first|simp[hlt]|refine sR ?_
   first|refine⟨by omega,⟨by omega,uS _ _ _⟩,?_⟩|refine⟨⟨by omega,uS _ _ _⟩,?_⟩|refine⟨by omega,uS _ _ _,?_⟩|trace_state
   apply sN;refine AL.ret ?_;try simp only[AU]
   refine⟨by simp,Fin.own (by simp[aV,bQ];rfl) Hb rfl i4.app.app.le ?_⟩;simp
def kN(lo hi:Int):Bool:=decide (0<=lo/\lo<=40)&&(hi == -1||decide (lo<=hi/\hi<=40))
theorem yT(lo hi:Int):DC 242 [I lo,I hi] (B (kN lo hi)):=by
 intro tok nt box nb;by_cases h1:0<=lo
 .by_cases h2:lo<=40
  .cases h3:(hi == -1)
   .by_cases h4:lo<=hi
    .by_cases h5:hi<=40
     .refine sI func242 ntmps242 fun Hb Ht=>?_
      repeat first|simp[h1,h2,h3,h4,h5]|refine sR ?_
      refine sT (sH ?_);simp[kN,h1,h2,h3,h4,h5]
     .refine sI func242 ntmps242 fun Hb Ht=>?_
      repeat first|simp[h1,h2,h3,h4,h5]|refine sR ?_
      refine sT (sH ?_);simp[kN,h1,h2,h3,h4,h5]
    .refine sI func242 ntmps242 fun Hb Ht=>?_
     repeat first|simp[h1,h2,h3,h4]|refine sR ?_
     refine sT (sH ?_);simp[kN,h1,h2,h3,h4]
   .refine sI func242 ntmps242 fun Hb Ht=>?_
    repeat first|simp[h1,h2,h3]|refine sR ?_
    refine sT (sH ?_);simp[kN,h1,h2,h3]
  .refine sI func242 ntmps242 fun Hb Ht=>?_
   repeat first|simp[h1,h2]|refine sR ?_
   refine sT (sH ?_);simp[kN,h1,h2]
 .refine sI func242 ntmps242 fun Hb Ht=>?_
  repeat first|simp[h1]|refine sR ?_
  refine sT (sH ?_);simp[kN,h1]
abbrev NT.row(n:NT):List AV:=[Sb n.name,I n.par,B n.abs,.d (qL n.own)]
abbrev ET.row(e:ET):List AV:=[Sb e.name,I e.fr,I e.to,I e.ol,I e.oh,I e.il,I e.ih]
theorem aK0(x y:NT)(box:Bxs)(nb k:Nat)(tok:Tks)(nt:Nat)(h1:box k=some [x.row]):
  aC prog 236 [y.av,.ptr k 0 0] ⟨box,nb,tok,nt⟩ fun v m=>v=B (decide (y.name=x.name))/\m=⟨box,nb,tok,nt⟩:=by
 refine sI func236 ntmps236 fun Hb Ht=>?_
 have k1n:=bH Hb h1;rw[<-cV];repeat first|simp[lO k1n,h1]|refine sR ?_
 refine sT (sH ?_);simp
theorem aKW(x y:ET)(box:Bxs)(nb k:Nat)(tok:Tks)(nt:Nat)(h1:box k=some [x.row]):
  aC prog 241 [y.av,.ptr k 0 0] ⟨box,nb,tok,nt⟩ fun v m=>v=B (decide (y.name=x.name))/\m=⟨box,nb,tok,nt⟩:=by
 refine sI func241 ntmps241 fun Hb Ht=>?_
 have k1n:=bH Hb h1;rw[<-cV];repeat first|simp[lO k1n,h1]|refine sR ?_
 refine sT (sH ?_);simp
theorem aAm(lo hi:Int):DC 197 [I lo,I hi] (B (kN lo hi)):=by
 intro tok nt box nb;have i1:=jT lo 0 40;have i2:=jT hi lo 40;cases e1:inZ lo 0 40
 .rw[e1] at i1;have hb:kN lo hi=false:=by
   have:decide (0<=lo/\lo<=40)=false:=e1
   simp[kN,this]
  rw[hb];refine sI func197 ntmps197 fun Hb Ht=>?_
  repeat first|simp|refine sR ?_
  refine sD (i1 _ _) ?_;repeat first|simp|refine sR ?_
  refine sT (sH ?_);simp
 .rw[e1] at i1;have h1:decide (0<=lo/\lo<=40)=true:=e1
  cases h3:(hi == -1)
  .have hb:kN lo hi=inZ hi lo 40:=by
    simp only[kN,h1,h3,inZ,cq,Bool.false_or]
   rw[hb];refine sI func197 ntmps197 fun Hb Ht=>?_
   repeat first|simp|refine sR ?_
   refine sD (i1 _ _) ?_;simp;repeat first|simp[h3]|refine sR ?_
   refine sD (i2 _ _) ?_;repeat first|simp|refine sR ?_
   refine sT (sH ?_);simp
  .have hb:kN lo hi=true:=by simp only[kN,h1,h3,cq,Bool.true_or]
   rw[hb];refine sI func197 ntmps197 fun Hb Ht=>?_
   repeat first|simp|refine sR ?_
   refine sD (i1 _ _) ?_;simp;repeat first|simp[h3]|refine sR ?_
   refine sT (sH ?_);simp
def fT(t:Ty)(n:Int):Bool:=decide (0<=n/\n<t.nodes.length)
theorem aEQ(t:Ty)(n:Int)(box:Bxs)(nb k:Nat)(tok:Tks)(nt:Nat)(h1:box k=some [[.d (nts t.nodes),.d (ets t.edges)]]):
  aC prog 239 [I n,.ptr k 0 0] ⟨box,nb,tok,nt⟩ fun v m=>v=B (fT t n)/\m=⟨box,nb,tok,nt⟩:=by
 by_cases h0:0<=n
 .refine sI func239 ntmps239 fun Hb Ht=>?_
  have k1n:=bH Hb h1;repeat first|simp[lO k1n,h1,h0]|refine sR ?_
  refine sT (sH ?_);simp[fT,h0]
 .refine sI func239 ntmps239 fun Hb Ht=>?_
  have k1n:=bH Hb h1;repeat first|simp[lO k1n,h1,h0]|refine sR ?_
  refine sT (sH ?_);simp[fT,h0]
def aMp(L:List At)(k:Nat):Int:=vP (L.getD k ⟨eB,0,0,[]⟩) (L.take k)
def wP(L:List At)(M k:Nat):Int:=if k+M<L.length then 0 else aMp L k
def aM0(L:List At)(M:Nat):Int:=aA (wP L M) L.length
theorem pJ(L:List At)(M:Nat):∀k,k+M<=L.length->aA (wP L M) k=0
 | 0,_=>rfl
 | k+1,h=>by
  simp only[aA,pJ L M k (by omega),↓reduceIte,wP];rw[af (by omega)]
theorem aC4{t:Ty}{i:Nat}:(t.nd i).own.length<=(iY t i).length:=by
 rw[iY];split
 .rw[am];omega
 .exact nr0 _
theorem xP{t:Ty}(ht:t.Fit):∀n i,i<n->∀x∈iY t i,x.Fit
 | 0,i,hi=>absurd hi (b9 _)
 | n+1,i,hi=>by
  have hown:∀x∈(t.nd i).own,x.Fit:=by
   by_cases h:i<t.nodes.length
   .rw[iJ h];exact(ht.a _ (aa h)).2
   .intro x hx;simp only[Ty.nd,ao,dx (Nat.le_of_not_lt h),Option.getD_none] at hx;cases hx
  rw[iY];split
  .rename_i h;intro x hx;rcases ap.1 hx with hx|hx
   .exact xP ht n _ (by omega) x hx
   .exact hown x hx
  .exact hown
theorem aFg{L:List At}{k:Nat}(h:k<L.length):aMp L k=vP L[k] (L.take k):=by simp[aMp,h]
theorem aGA(L:List At)(k:Nat):qL (L.take k)=.sl 4 (List.take k (L.map At.cells)):=by rw[qL,List.map_take]
theorem aAH{L:List At}{k:Nat}(h:k<L.length):(L.map At.cells)[k]?=some L[k].cells:=by simp[h]
def fH(t:Ty)(i:Nat):Int :=
 if cM (t.nd i).name=false then 2 else if bA (fun y=>decide (y.name=(t.nd i).name)) (t.nodes.take i)=true then 5
 else if (t.nd i).par < -1∨(i:Int)<=(t.nd i).par then 6 else if 4<(t.nd i).own.length then 3
 else if 8<(iY t i).length then 3 else aM0 (iY t i) (t.nd i).own.length
def aPj(L:List At)(nb:Nat)(box:Bxs)(tok:Tks)(nt:Nat)(k:Nat):AS:=⟨tl [(7,I k),(6,.d (qL L))],lb nb box [],tok,nt⟩
theorem aMl(t:Ty)(ht:t.Fit)(hM:∀i,(t.nd i).own.length<=1000)(i:Nat)(hi:i<t.nodes.length)(hp:∀j,j<i->(t.nd j).par<j):DC 182 [t.av,I i] (I (fH t i)):=by
 intro tok nt box nb;have hnd:=iJ hi;have i5:=aa hi;have h1:=mG (t.nd i).name (by rw[hnd];exact bz (ht.nn _ i5) (by decide));obtain⟨N,hN⟩:∃N,fH t i=N:=⟨_,rfl⟩
 rw[hN];unfold fH at hN;rw[hnd] at h1 hN;cases e1:cM t.nodes[i].name
 .rw[e1] at h1 hN;rw[af rfl] at hN;refine sI func182 ntmps182 fun Hb Ht=>?_
  repeat first|simp[hi]|refine sR ?_
  refine sD (h1 _ _) ?_;repeat first|simp|refine sR ?_
  apply sC;repeat first|simp|refine sR ?_
  refine sT (sH ?_);simp[<-hN]
 .rw[e1] at h1 hN;rw[ac (by simp)] at hN;obtain⟨p,oy⟩:∃p:NT->Bool,(fun y=>decide (y.name=t.nodes[i].name))=p:=⟨_,rfl⟩
  have h2:=fun y box nb k (n5:box k=some [(t.nodes[i]'hi).row])=>aK0 (t.nodes[i]'hi) y box nb k tok nt n5
  have so:∀y:NT,decide (y.name=t.nodes[i].name)=p y:=fun y=>by rw[<-oy]
  simp only[so] at h2;rw[oy] at hN;refine sI func182 ntmps182 fun Hb Ht=>?_
  repeat first|simp[hi]|refine sR ?_
  refine sD (h1 _ _) ?_;repeat first|simp[hi]|refine sR ?_|apply sC
  refine⟨by omega,?_⟩;have my:=fun (b:Bxs) nb' h3 h4=>lI (t.nodes.take i) 236 [.ptr (nb+5) 0 0] p (by simp;have:=ht.n;omega) b nb' tok nt h3 h4
  rw[show nts (t.nodes.take i)=.sl 4 (List.take i (t.nodes.map NT.cells)) by rw[nts,List.map_take]] at my;refine aT.of_b (my _ _ (fun c hc=>by rw[a7.1 hc];simp[aN]) (fun y hy box' nb' he=>h2 y box' nb' _ (he _ _ (by simp[aN])))) ?_;simp;cases e2:bA p (t.nodes.take i)
  .rw[e2,ac (by simp)] at hN;apply sC;simp;by_cases e3:t.nodes[i].par < -1
   .rw[af (.inl e3)] at hN;repeat first|simp[e3]|refine sR ?_
    apply sC;repeat first|simp|refine sR ?_
    refine sT (sH ?_);simp[<-hN]
   .by_cases e4:(i:Int)<=t.nodes[i].par
    .rw[af (.inr e4)] at hN;repeat first|simp[e3,e4]|refine sR ?_
     apply sC;repeat first|simp|refine sR ?_
     refine sT (sH ?_);simp[<-hN]
    .rw[ac (by omega)] at hN;repeat first|simp[e3,e4]|refine sR ?_
     apply sC;repeat first|simp|refine sR ?_
     by_cases e5:4<t.nodes[i].own.length
     .have v8:(4:Int)<t.nodes[i].own.length:=by omega
      rw[af e5] at hN;apply sC;simp[e5,v8];repeat first|simp|refine sR ?_
      refine sT (sH ?_);simp[<-hN]
     .have v8:¬(4:Int)<t.nodes[i].own.length:=by omega
      rw[ac e5] at hN;obtain⟨iy,kv,o1,hk,hc⟩:=aFj t ht hM (i+1) i (d5 _) hi (fun j hj=>by
       by_cases e:j=i
       .subst e;rw[hnd];omega
       .exact hp j (by omega)) tok nt
      have hal:=mM hM (i+1) i (d5 _);have Aq:=xP ht (i+1) i (d5 _);have ph:=aC4 (t:=t) (i:=i);rw[hnd] at ph;have qb:=ht.n;have BT:(iY t i).length<=1000000:=bz hal (by have:(i+1)*1000<=1000*1000:=bk _ (by omega);omega)
      clear hal;generalize iY t i=L at *;apply sC;simp[e5,v8];repeat first|simp|refine sR ?_
      refine sD (hc) ?_;simp;have i4:=hk Ht;repeat first|simp|refine sR ?_
      by_cases e6:8<L.length
      .have wa:(8:Int)<L.length:=by omega
       rw[af e6] at hN;apply sC;simp[e6,wa];repeat first|simp|refine sR ?_
       refine sT (sG Hb Ht i4.old i4.le ?_);simp[<-hN]
      .have wa:¬(8:Int)<L.length:=by omega
       rw[ac e6] at hN;have pp:IntKind.i64.wrap ((L.length:Int)-(t.nodes[i].own.length:Nat))=((L.length-t.nodes[i].own.length:Nat):Int):=by rw[aL (by omega) (by omega)];omega
       have hz:=pJ L t.nodes[i].own.length (L.length-t.nodes[i].own.length) (by omega);unfold aM0 at hN;obtain⟨f,hf⟩:∃f,wP L t.nodes[i].own.length=f:=⟨_,rfl⟩
       have BU:∀k,(hk:k<L.length)->L.length-t.nodes[i].own.length<=k->f k=vP L[k] (L.take k):=fun k hk hge=>by
        rw[<-hf,wP,ac (by omega),aFg hk]
       rw[hf] at hN hz;apply sC;simp[e6,wa];repeat first|simp[hi,aN,pp]|refine sR ?_
       have BV:L.length-t.nodes[i].own.length<=L.length:=Nat.sub_le _ _
       generalize L.length-t.nodes[i].own.length=a at *;apply sN;refine sL (aPj L nb box iy kv) (fun k=>a<=k/\k<=L.length/\aA f k=0) (fun k=>L.length-k) a ⟨nr0 _,by omega,hz⟩ (wM (by have:=i4.le;omega) rfl (by simp[ToL,lk,To.data]) trivial) ?_;rintro k S' ⟨BW,ky,gt⟩ hS;simp only[aPj] at hS;subst hS;have hw:=sW (i:=k) (by omega);repeat first|simp|refine sR ?_|apply sC
       refine⟨fun hlt=>?_,fun hge=>?_⟩
       .have hA:=BU k hlt BW;have w7:=aCu L[k] (L.take k) (Aq _ (aa hlt)) (by simp;omega);rw[aGA,<-hA] at w7;have hR:f k≠0->aA f L.length=f k:=fun h0=>aK gt h0 L.length hlt
        have hnx:f k=0->aA f (k+1)=0:=fun h0=>by simp only[aA,gt,h0,↓reduceIte]
        generalize f k=E at *;repeat first|simp[hlt,aAH hlt]|refine sR ?_
        try refine⟨by omega,?_⟩
        refine sD (w7 _ _) ?_;repeat first|simp|refine sR ?_
        by_cases e7:E=0
        .apply sC;simp[e7];repeat first|simp[hw]|refine sR ?_
         apply sE;exact⟨k+1,⟨by omega,hlt,hnx e7⟩,by omega,wM (by have:=i4.le;omega) rfl (by simp[ToL,lk]) trivial⟩
        .have b7:(E != 0)=true:=by simp[e7]
         apply sC;simp[e7,b7];repeat first|simp|refine sR ?_
         refine sT (sG Hb Ht i4.old i4.le ?_);simp[<-hN,hR e7]
       .apply sX;simp only[AU,↓reduceIte];repeat first|simp|refine sR ?_
        have:k=L.length:=by omega
        subst this;refine sT (sG Hb Ht i4.old i4.le ?_);simp[<-hN,gt]
  .rw[e2,af rfl] at hN;apply sC;repeat first|simp|refine sR ?_
   refine sT (sH ?_);simp[<-hN]
def aDK(l:List NT)(s:ByteArray):Bool:=bA (fun y=>decide (y.name=s)) l
theorem aCo{l:List NT}{s:ByteArray}:aDK l s=true↔∃x∈l,x.name=s:=by simp[aDK,bA]
theorem aFT{l:List NT}{i:Nat}{s:ByteArray}(hi:i<l.length)(h:aDK (l.take i) s=false)(hne:l[i].name≠s):aDK (l.take (i+1)) s=false:=by
 rw[<-Bool.not_eq_true,aCo] at h ⊢;rintro⟨x,hx,he⟩;rw[ah hi,ap,a7] at hx;rcases hx with hx|hx
 .exact h ⟨x,hx,he⟩
 .exact hne (by rw[<-hx];exact he)
theorem aHg{l:List NT}{k i:Nat}{s:ByteArray}(hk:k<l.length)(yf:k<i)(he:l[k].name=s):aDK (l.take i) s=true :=
 aCo.2 ⟨l[k],by rw[cm];exact⟨k,by omega,rfl⟩,he⟩
def uR(l:List At)(s:ByteArray):Bool:=bA (fun y=>decide (y.name=s)) l
theorem aAl{l:List At}{s:ByteArray}:uR l s=true↔∃x∈l,x.name=s:=by simp[uR,bA]
theorem aDu{l:List At}{i:Nat}{s:ByteArray}(hi:i<l.length)(h:uR (l.take i) s=false)(hne:l[i].name≠s):uR (l.take (i+1)) s=false:=by
 rw[<-Bool.not_eq_true,aAl] at h ⊢;rintro⟨x,hx,he⟩;rw[ah hi,ap,a7] at hx;rcases hx with hx|hx
 .exact h ⟨x,hx,he⟩
 .exact hne (by rw[<-hx];exact he)
theorem aGz{l:List At}{k i:Nat}{s:ByteArray}(hk:k<l.length)(yf:k<i)(he:l[k].name=s):uR (l.take i) s=true :=
 aAl.2 ⟨l[k],by rw[cm];exact⟨k,by omega,rfl⟩,he⟩
theorem aF8(x:At)(b:List At):vP x b=if cM x.name=false then 2 else if uR b x.name=true then 5 else aJq x:=rfl
def aLU(t:Ty)(i:Nat)(n:NT)(nb:Nat)(box:Bxs)(tok:Tks)(nt:Nat)(k:Nat):AS:=⟨tl [(6,I k),(5,.ptr (nb+5) 0 0),(2,.ptr (nb+2) 0 0),(1,I i)],lb nb box [(5,[n.row]),(2,[[.d (nts t.nodes),.d (ets t.edges)]])],tok,nt⟩
def aLJ(L:List At)(nb:Nat)(box:Bxs)(tok:Tks)(nt:Nat)(k:Nat):AS:=⟨tl [(8,I k),(7,.d (qL L))],lb nb box [],tok,nt⟩
def aL8(L:List At)(k:Nat)(nb:Nat)(box:Bxs)(tok:Tks)(nt:Nat)(j:Nat):AS:=⟨tl [(9,I j),(8,I k),(7,.d (qL L))],lb nb box [],tok,nt⟩
theorem aIM(t:Ty)(ht:t.Fit)(hM:∀i,(t.nd i).own.length<=1000)(i:Nat)(hi:i<t.nodes.length)(hp:∀j,j<i->(t.nd j).par<j):DC 128 [t.av,I i] (I (fH t i)):=by
 intro tok nt box nb;have hnd:=iJ hi;have i5:=aa hi;have qb:=ht.n;have h1:=iT (t.nd i).name (by rw[hnd];exact bz (ht.nn _ i5) (by decide));obtain⟨N,hN⟩:∃N,fH t i=N:=⟨_,rfl⟩
 rw[hN];unfold fH at hN
 change (if cM (t.nd i).name=false then (2:Int) else if aDK (t.nodes.take i) (t.nd i).name=true then 5 else _)=N at hN
 rw[hnd] at h1 hN;have i6:=jT t.nodes[i].par (-1) ((i:Int)-1);have nf:IntKind.i64.wrap ((i:Int)-1)=(i:Int)-1:=by rw[aL (by omega) (by omega)]
 cases e1:cM t.nodes[i].name
 .rw[e1] at h1 hN;rw[af rfl] at hN;refine sI func128 ntmps128 fun Hb Ht=>?_
  repeat first|simp[hi]|refine sR ?_
  refine sD (h1 _ _) ?_;repeat first|simp|refine sR ?_
  apply sC;repeat first|simp|refine sR ?_
  refine sT (sH ?_);simp[<-hN]
 .rw[e1] at h1 hN;rw[ac (by simp)] at hN;refine sI func128 ntmps128 fun Hb Ht=>?_
  repeat first|simp[hi]|refine sR ?_
  refine sD (h1 _ _) ?_;repeat first|simp|refine sR ?_
  apply sC;repeat first|simp|refine sR ?_
  apply sN;refine sL (aLU t i t.nodes[i] nb box tok nt) (fun k=>k<=i/\aDK (t.nodes.take k) t.nodes[i].name=false) (fun k=>i-k) 0 ⟨ai _,rfl⟩ wkA ?_;rintro k S' ⟨hk,hm⟩ hS;simp only[aLU] at hS;subst hS;have nc:=sW (i:=k) (by omega);repeat first|simp|refine sR ?_|apply sC
  refine⟨fun ku=>?_,fun hge=>?_⟩
  .have ky:k<t.nodes.length:=by omega
   by_cases e2:t.nodes[k].name=t.nodes[i].name
   .have b2:(t.nodes[k].name.toList==t.nodes[i].name.toList)=true:=by rw[cV];simp[e2]
    rw[af (aHg ky ku e2)] at hN;repeat first|simp[hi,ky,b2]|refine sR ?_
    apply sC;simp[b2];repeat first|simp|refine sR ?_
    refine sT (sH ?_);simp[<-hN]
   .have b2:(t.nodes[k].name.toList==t.nodes[i].name.toList)=false:=by rw[cV];simp[e2]
    repeat first|simp[hi,ky,b2]|refine sR ?_
    apply sC;simp[b2];repeat first|simp[nc]|refine sR ?_
    apply sE;exact⟨k+1,⟨ku,aFT ky hm e2⟩,by omega,wkA⟩
  .apply sX;simp only[AU,↓reduceIte];have:k=i:=by omega
   subst this;rw[hm,ac (by simp)] at hN;by_cases e3:t.nodes[k].par < -1∨(k:Int)<=t.nodes[k].par
   .rw[af e3] at hN;have b3:inZ t.nodes[k].par (-1) ((k:Int)-1)=false:=by simp only[inZ,bo];omega
    rw[b3] at i6;repeat first|simp[hi,nf]|refine sR ?_
    refine sD (i6 _ _) ?_;repeat first|simp|refine sR ?_
    apply sC;repeat first|simp|refine sR ?_
    refine sT (sH ?_);simp[<-hN]
   .rw[ac e3] at hN;have b3:inZ t.nodes[k].par (-1) ((k:Int)-1)=true:=by simp only[inZ,au];omega
    rw[b3] at i6;obtain⟨iy,kv,o1,hk,hc⟩:=zC t ht hM (k+1) k (d5 _) hi (fun j hj=>by
     by_cases e:j=k
     .subst e;rw[hnd];omega
     .exact hp j (by omega)) tok nt
    have hal:=mM hM (k+1) k (d5 _);have Aq:=xP ht (k+1) k (d5 _);have ph:=aC4 (t:=t) (i:=k);rw[hnd] at ph;have BT:(iY t k).length<=1000000:=bz hal (by have:(k+1)*1000<=1000*1000:=bk _ (by omega);omega)
    clear hal;generalize iY t k=L at *;have pp:IntKind.i64.wrap ((L.length:Int)-(t.nodes[k].own.length:Nat))=((L.length-t.nodes[k].own.length:Nat):Int):=by rw[aL (by omega) (by omega)];omega
    have hz:=pJ L t.nodes[k].own.length (L.length-t.nodes[k].own.length) (by omega);unfold aM0 at hN;obtain⟨f,hf⟩:∃f,wP L t.nodes[k].own.length=f:=⟨_,rfl⟩
    have BU:∀j,(hk:j<L.length)->L.length-t.nodes[k].own.length<=j->f j=vP L[j] (L.take j):=fun j hk hge=>by
     rw[<-hf,wP,ac (by omega),aFg hk]
    rw[hf] at hN hz;repeat first|simp[hi,nf]|refine sR ?_
    refine sD (i6 _ _) ?_;repeat first|simp[hi]|refine sR ?_|apply sC
    refine sD (hc) ?_;simp;have i4:=hk Ht;by_cases e5:4<t.nodes[k].own.length
    .have v8:(4:Int)<t.nodes[k].own.length:=by omega
     rw[af e5] at hN;repeat first|simp[hi,e5,v8]|refine sR ?_
     apply sC;simp[e5,v8];repeat first|simp|refine sR ?_
     refine sT (sG Hb Ht i4.old i4.le ?_);simp[<-hN]
    .have v8:¬(4:Int)<t.nodes[k].own.length:=by omega
     rw[ac e5] at hN;by_cases e6:8<L.length
     .have wa:(8:Int)<L.length:=by omega
      rw[af e6] at hN;repeat first|simp[hi,e5,v8,e6,wa]|refine sR ?_
      apply sC;simp[e6,wa];repeat first|simp|refine sR ?_
      refine sT (sG Hb Ht i4.old i4.le ?_);simp[<-hN]
     .have wa:¬(8:Int)<L.length:=by omega
      rw[ac e6] at hN;repeat first|simp[hi,e5,v8,e6,wa]|refine sR ?_
      apply sC;simp[e6,wa];repeat first|simp[hi,pp]|refine sR ?_
      have BV:L.length-t.nodes[k].own.length<=L.length:=Nat.sub_le _ _
      generalize L.length-t.nodes[k].own.length=a at *;apply sN;refine sL (aLJ L nb box iy kv) (fun k=>a<=k/\k<=L.length/\aA f k=0) (fun k=>L.length-k) a ⟨nr0 _,by omega,hz⟩ (wM (by have:=i4.le;omega) rfl (by simp[ToL,lk,To.data]) trivial) ?_;rintro k S' ⟨BW,ky,gt⟩ hS;simp only[aLJ] at hS;subst hS;have hw:=sW (i:=k) (by omega);repeat first|simp|refine sR ?_|apply sC
      refine⟨fun hlt=>?_,fun hge=>?_⟩
      .have hA:=BU k hlt BW;have hR:f k≠0->aA f L.length=f k:=fun h0=>aK gt h0 L.length hlt
       have hnx:f k=0->aA f (k+1)=0:=fun h0=>by simp only[aA,gt,h0,↓reduceIte]
       generalize f k=E at *;rw[aF8] at hA;have qu:=Aq _ (aa hlt);have hn:=iT L[k].name (bz qu.n (by decide));have w7:=xU L[k] qu;repeat first|simp[hlt,aAH hlt]|refine sR ?_
       refine sD (hn _ _) ?_;simp;cases f1:cM L[k].name
       .rw[f1,af rfl] at hA;repeat first|simp|refine sR ?_
        apply sC;repeat first|simp|refine sR ?_
        refine sT (sG Hb Ht i4.old i4.le ?_);simp[<-hN,hR (by omega),hA]
       .rw[f1,ac (by simp)] at hA;repeat first|simp|refine sR ?_
        apply sC;repeat first|simp|refine sR ?_
        apply sN;refine sL (aL8 L k nb box iy kv) (fun j=>j<=k/\uR (L.take j) L[k].name=false) (fun j=>k-j) 0 ⟨ai _,rfl⟩ (wM (by have:=i4.le;omega) rfl (by simp[ToL,lk]) trivial) ?_;rintro j S' ⟨hj,B5⟩ hS;simp only[aL8] at hS;subst hS;have ux:=sW (i:=j) (by omega);repeat first|simp|refine sR ?_|apply sC
        refine⟨fun qm=>?_,fun hgj=>?_⟩
        .have wb:j<L.length:=by omega
         by_cases f2:L[j].name=L[k].name
         .have b2:(L[j].name.toList==L[k].name.toList)=true:=by rw[cV];simp[f2]
          rw[af (aGz wb qm f2)] at hA;repeat first|simp[hlt,wb,b2]|refine sR ?_
          apply sC;simp[b2];repeat first|simp|refine sR ?_
          refine sT (sG Hb Ht i4.old i4.le ?_);simp[<-hN,hR (by omega),hA]
         .have b2:(L[j].name.toList==L[k].name.toList)=false:=by rw[cV];simp[f2]
          repeat first|simp[hlt,wb,b2]|refine sR ?_
          apply sC;simp[b2];repeat first|simp[ux]|refine sR ?_
          apply sE;exact⟨j+1,⟨qm,aDu wb B5 f2⟩,by omega,wM (by have:=i4.le;omega) rfl (by simp[ToL,lk]) trivial⟩
        .apply sX;simp only[AU,↓reduceIte];have:j=k:=by omega
         subst this;rw[B5,ac (by simp)] at hA;rw[<-hA] at w7;repeat first|simp[hlt,aAH hlt]|refine sR ?_
         refine sD (w7 _ _) ?_;repeat first|simp|refine sR ?_
         by_cases e7:E=0
         .apply sC;simp[e7];repeat first|simp[hw]|refine sR ?_
          apply sE;exact⟨j+1,⟨by omega,hlt,hnx e7⟩,by omega,wM (by have:=i4.le;omega) rfl (by simp[ToL,lk]) trivial⟩
         .have b7:(E != 0)=true:=by simp[e7]
          apply sC;simp[e7,b7];repeat first|simp|refine sR ?_
          refine sT (sG Hb Ht i4.old i4.le ?_);simp[<-hN,hR e7]
      .apply sX;simp only[AU,↓reduceIte];repeat first|simp|refine sR ?_
       have:k=L.length:=by omega
       subst this;refine sT (sG Hb Ht i4.old i4.le ?_);simp[<-hN,gt]
instance:Inhabited ET:=⟨⟨eB,0,0,0,0,0,0⟩⟩
def Ty.ed(t:Ty)(i:Nat):ET:=t.edges.getD i default
theorem uV{t:Ty}{i:Nat}(h:i<t.edges.length):t.ed i=t.edges[i]:=by simp[Ty.ed,h]
def aB1(l:List ET)(s:ByteArray):Bool:=bA (fun y=>decide (y.name=s)) l
theorem aBU{l:List ET}{s:ByteArray}:aB1 l s=true↔∃x∈l,x.name=s:=by simp[aB1,bA]
theorem aFL{l:List ET}{i:Nat}{s:ByteArray}(hi:i<l.length)(h:aB1 (l.take i) s=false)(hne:l[i].name≠s):aB1 (l.take (i+1)) s=false:=by
 rw[<-Bool.not_eq_true,aBU] at h ⊢;rintro⟨x,hx,he⟩;rw[ah hi,ap,a7] at hx;rcases hx with hx|hx
 .exact h ⟨x,hx,he⟩
 .exact hne (by rw[<-hx];exact he)
theorem aI3{l:List ET}{k i:Nat}{s:ByteArray}(hk:k<l.length)(yf:k<i)(he:l[k].name=s):aB1 (l.take i) s=true :=
 aBU.2 ⟨l[k],by rw[cm];exact⟨k,by omega,rfl⟩,he⟩
def edR(t:Ty)(x:ET):Int:=if fT t x.fr=false then 6 else if fT t x.to=false then 6 else if kN x.ol x.oh=false then 6 else if kN x.il x.ih=false then 6 else 0
def fV(t:Ty)(i:Nat):Int :=
 if cM (t.ed i).name=false then 2 else if aB1 (t.edges.take i) (t.ed i).name=true then 5 else edR t (t.ed i)
set_option maxRecDepth 100000 in
theorem aMS(t:Ty)(ht:t.Fit)(i:Nat)(hi:i<t.edges.length):DC 183 [t.av,I i] (I (fV t i)):=by
 intro tok nt box nb;have hnd:=uV hi;have i5:=aa hi;have vv:=ht.e;have h1:=mG (t.ed i).name (by rw[hnd];exact bz (ht.en _ i5) (by decide));obtain⟨N,hN⟩:∃N,fV t i=N:=⟨_,rfl⟩
 rw[hN];unfold fV at hN;rw[hnd] at h1 hN;cases e1:cM t.edges[i].name
 .rw[e1] at h1 hN;rw[af rfl] at hN;refine sI func183 ntmps183 fun Hb Ht=>?_
  repeat first|simp[hi]|refine sR ?_
  refine sD (h1 _ _) ?_;repeat first|simp|refine sR ?_
  apply sC;repeat first|simp|refine sR ?_
  refine sT (sH ?_);simp[<-hN]
 .rw[e1] at h1 hN;rw[ac (by simp)] at hN;unfold aB1 at hN;obtain⟨p,oy⟩:∃p:ET->Bool,(fun y=>decide (y.name=t.edges[i].name))=p:=⟨_,rfl⟩
  have h2:=fun y box nb k (n5:box k=some [(t.edges[i]'hi).row])=>aKW (t.edges[i]'hi) y box nb k tok nt n5
  have so:∀y:ET,decide (y.name=t.edges[i].name)=p y:=fun y=>by rw[<-oy]
  simp only[so] at h2;rw[oy] at hN;refine sI func183 ntmps183 fun Hb Ht=>?_
  repeat first|simp[hi]|refine sR ?_
  refine sD (h1 _ _) ?_;repeat first|simp[hi]|refine sR ?_|apply sC
  try refine⟨by omega,?_⟩
  have my:=fun (b:Bxs) nb' h3 h4=>rP (t.edges.take i) 241 [.ptr (nb+5) 0 0] p (by simp;have:=ht.e;omega) b nb' tok nt h3 h4
  rw[show ets (t.edges.take i)=.sl 7 (List.take i (t.edges.map ET.cells)) by rw[ets,List.map_take]] at my;refine aT.of_b (my _ _ (fun c hc=>by rw[a7.1 hc];simp[aN]) (fun y hy box' nb' he=>h2 y box' nb' _ (he _ _ (by simp[aN])))) ?_;simp;cases e2:bA p (t.edges.take i)
  .rw[e2,ac (by simp)] at hN;unfold edR at hN;have b1:=yT t.edges[i].ol t.edges[i].oh;have b2:=yT t.edges[i].il t.edges[i].ih;apply sC;repeat first|simp|refine sR ?_
   refine aT.of_b (aEQ t t.edges[i].fr _ _ (nb+2) _ _ (by simp[aN])) ?_;simp;cases g1:fT t t.edges[i].fr
   .rw[g1,af rfl] at hN;repeat first|simp|refine sR ?_
    apply sC;repeat first|simp|refine sR ?_
    apply sC;repeat first|simp|refine sR ?_
    refine sT (sH ?_);simp[<-hN]
   .rw[g1,ac (by simp)] at hN;repeat first|simp|refine sR ?_
    refine aT.of_b (aEQ t t.edges[i].to _ _ (nb+2) _ _ (by simp[aN])) ?_;simp;cases g2:fT t t.edges[i].to
    .rw[g2,af rfl] at hN;repeat first|simp|refine sR ?_
     apply sC;repeat first|simp|refine sR ?_
     apply sC;repeat first|simp|refine sR ?_
     refine sT (sH ?_);simp[<-hN]
    .rw[g2,ac (by simp)] at hN;repeat first|simp|refine sR ?_
     apply sC;repeat first|simp|refine sR ?_
     refine sD (b1 _ _) ?_;simp;cases g3:kN t.edges[i].ol t.edges[i].oh
     .rw[g3,af rfl] at hN;repeat first|simp|refine sR ?_
      apply sC;repeat first|simp|refine sR ?_
      refine sT (sH ?_);simp[<-hN]
     .rw[g3,ac (by simp)] at hN;repeat first|simp|refine sR ?_
      refine sD (b2 _ _) ?_;simp;cases g4:kN t.edges[i].il t.edges[i].ih
      .rw[g4,af rfl] at hN;repeat first|simp|refine sR ?_
       apply sC;repeat first|simp|refine sR ?_
       refine sT (sH ?_);simp[<-hN]
      .rw[g4,ac (by simp)] at hN;repeat first|simp|refine sR ?_
       apply sC;repeat first|simp|refine sR ?_
       refine sT (sH ?_);simp[<-hN]
  .rw[e2,af rfl] at hN;apply sC;repeat first|simp|refine sR ?_
   refine sT (sH ?_);simp[<-hN]
theorem xx:True:=trivial
def aOn(t:Ty)(i:Nat)(x:ET)(nb:Nat)(box:Bxs)(tok:Tks)(nt:Nat)(k:Nat):AS:=⟨tl [(6,I k),(5,.ptr (nb+5) 0 0),(2,.ptr (nb+2) 0 0),(1,I i)],lb nb box [(5,[x.row]),(2,[[.d (nts t.nodes),.d (ets t.edges)]])],tok,nt⟩
theorem aHe(t:Ty)(ht:t.Fit)(i:Nat)(hi:i<t.edges.length):DC 129 [t.av,I i] (I (fV t i)):=by
 intro tok nt box nb;have hnd:=uV hi;have i5:=aa hi;have vv:=ht.e;have qb:=ht.n;have h1:=iT (t.ed i).name (by rw[hnd];exact bz (ht.en _ i5) (by decide));obtain⟨N,hN⟩:∃N,fV t i=N:=⟨_,rfl⟩
 rw[hN];unfold fV at hN;rw[hnd] at h1 hN;have i1:=jT t.edges[i].fr 0 ((t.nodes.length:Int)-1);have i2:=jT t.edges[i].to 0 ((t.nodes.length:Int)-1);have b1:=aAm t.edges[i].ol t.edges[i].oh;have b2:=aAm t.edges[i].il t.edges[i].ih;have ym:∀n:Int,inZ n 0 ((t.nodes.length:Int)-1)=fT t n:=fun n=>by simp only[inZ,fT];congr 1;simp only[eq_iff_iff];omega
 rw[ym] at i1 i2;have pp:IntKind.i64.wrap ((t.nodes.length:Int)-1)=(t.nodes.length:Int)-1:=by rw[aL (by omega) (by omega)]
 cases e1:cM t.edges[i].name
 .rw[e1] at h1 hN;rw[af rfl] at hN;refine sI func129 ntmps129 fun Hb Ht=>?_
  repeat first|simp[hi]|refine sR ?_
  refine sD (h1 _ _) ?_;repeat first|simp|refine sR ?_
  apply sC;repeat first|simp|refine sR ?_
  refine sT (sH ?_);simp[<-hN]
 .rw[e1] at h1 hN;rw[ac (by simp)] at hN;refine sI func129 ntmps129 fun Hb Ht=>?_
  repeat first|simp[hi]|refine sR ?_
  refine sD (h1 _ _) ?_;repeat first|simp|refine sR ?_
  apply sC;repeat first|simp|refine sR ?_
  apply sN;refine sL (aOn t i t.edges[i] nb box tok nt) (fun k=>k<=i/\aB1 (t.edges.take k) t.edges[i].name=false) (fun k=>i-k) 0 ⟨ai _,rfl⟩ wkA ?_;rintro k S' ⟨hk,hm⟩ hS;simp only[aOn] at hS;subst hS;have nc:=sW (i:=k) (by omega);repeat first|simp|refine sR ?_|apply sC
  refine⟨fun ku=>?_,fun hge=>?_⟩
  .have ky:k<t.edges.length:=by omega
   by_cases e2:t.edges[k].name=t.edges[i].name
   .have b2:(t.edges[k].name.toList==t.edges[i].name.toList)=true:=by rw[cV];simp[e2]
    rw[af (aI3 ky ku e2)] at hN;repeat first|simp[hi,ky,b2]|refine sR ?_
    apply sC;simp[b2];repeat first|simp|refine sR ?_
    refine sT (sH ?_);simp[<-hN]
   .have b2:(t.edges[k].name.toList==t.edges[i].name.toList)=false:=by rw[cV];simp[e2]
    repeat first|simp[hi,ky,b2]|refine sR ?_
    apply sC;simp[b2];repeat first|simp[nc]|refine sR ?_
    apply sE;exact⟨k+1,⟨ku,aFL ky hm e2⟩,by omega,wkA⟩
  .apply sX;simp only[AU,↓reduceIte];have:k=i:=by omega
   subst this;rw[hm,ac (by simp)] at hN;unfold edR at hN;repeat first|simp[hi,pp]|refine sR ?_
   refine sD (i1 _ _) ?_;simp;cases g1:fT t t.edges[k].fr
   .rw[g1,af rfl] at hN;repeat first|simp|refine sR ?_
    apply sC;repeat first|simp|refine sR ?_
    refine sT (sH ?_);simp[<-hN]
   .rw[g1,ac (by simp)] at hN;repeat first|simp|refine sR ?_
    refine sD (i2 _ _) ?_;simp;cases g2:fT t t.edges[k].to
    .rw[g2,af rfl] at hN;repeat first|simp|refine sR ?_
     apply sC;repeat first|simp|refine sR ?_
     refine sT (sH ?_);simp[<-hN]
    .rw[g2,ac (by simp)] at hN;repeat first|simp|refine sR ?_
     refine sD (b1 _ _) ?_;simp;cases g3:kN t.edges[k].ol t.edges[k].oh
     .rw[g3,af rfl] at hN;repeat first|simp|refine sR ?_
      apply sC;repeat first|simp|refine sR ?_
      refine sT (sH ?_);simp[<-hN]
     .rw[g3,ac (by simp)] at hN;repeat first|simp|refine sR ?_
      refine sD (b2 _ _) ?_;simp;cases g4:kN t.edges[k].il t.edges[k].ih
      .rw[g4,af rfl] at hN;repeat first|simp|refine sR ?_
       apply sC;repeat first|simp|refine sR ?_
       refine sT (sH ?_);simp[<-hN]
      .rw[g4,ac (by simp)] at hN;repeat first|simp|refine sR ?_
       apply sC;repeat first|simp|refine sR ?_
       refine sT (sH ?_);simp[<-hN]
end Go.AM
