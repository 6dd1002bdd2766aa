import Derived.Test.YtchfmhhbiealcaaGreatDoorPIB8
set_option linter.unusedSimpArgs false
set_option linter.unusedVariables false
namespace Go.AM
open Go Go.Proofs
open Go.Proofs.Tryz
def aP7(xs:List Int)(v:Int)(nb:Nat)(box:Bxs)(tok:Tks)(nt:Nat)(i:Nat):AS:=⟨tl [(0,.d (ints xs)),(1,I v),(5,I i)],lb nb box [],tok,nt⟩
theorem aLU(xs:List Int)(v:Int)(hx:xs.length<=1000000):DC 220 [.d (ints xs),I v] (B (decide (v∈xs))):=by
 intro tok nt box nb;refine sI func220 ntmps220 fun Hb Ht=>?_
 refine sR ?_;simp;refine sR ?_;simp;apply sN;refine sL (aP7 xs v nb box tok nt) (fun i=>i<=xs.length/\v∉xs.take i) (fun i=>xs.length-i) 0 ⟨ai _,by simp⟩ (wM (nr0 _) rfl (by simp[ToL]) trivial) ?_;rintro i S ⟨hi,htk⟩ hS;simp only[aP7] at hS;subst hS;have hw:=sW (i:=i) (by omega);refine sR ?_;simp;apply sC;simp;refine⟨fun hlt=>?_,fun hge=>?_⟩
 .refine sR ?_;simp[hlt];apply sC;simp;refine⟨fun he=>?_,fun hne=>?_⟩
  .refine sR ?_;simp;have jg:v∈xs:=by rw[<-he];exact aa _
   refine sT (sH ?_);simp[jg]
  .refine sR ?_;simp[hw];apply sE;refine⟨i+1,⟨hlt,?_⟩,by omega,wM (nr0 _) rfl (by simp[ToL]) trivial⟩;rw[ah hlt];simp only[ap,a7,not_or];exact⟨htk,fun e=>hne e.symm⟩
 .apply sX;simp only[AU,↓reduceIte];refine sR ?_;simp;have hn:v∉xs:=by rwa [ak hge] at htk
  refine sT (sH ?_);simp[hn]
def aLZ(xs:List Int)(v:Int)(nb:Nat)(box:Bxs)(tok:Tks)(nt:Nat)(i:Nat):AS:=⟨tl [(0,.d (ints xs)),(1,I v),(5,I i)],lb nb box [],tok,nt⟩
theorem vH(xs:List Int)(v:Int)(hx:xs.length<=1000000):DC 268 [.d (ints xs),I v] (B (decide (v∈xs))):=by
 intro tok nt box nb;refine sI func268 ntmps268 fun Hb Ht=>?_
 refine sR ?_;simp;refine sR ?_;simp;apply sN;refine sL (aLZ xs v nb box tok nt) (fun i=>i<=xs.length/\v∉xs.take i) (fun i=>xs.length-i) 0 ⟨ai _,by simp⟩ (wM (nr0 _) rfl (by simp[ToL]) trivial) ?_;rintro i S ⟨hi,htk⟩ hS;simp only[aLZ] at hS;subst hS;have hw:=sW (i:=i) (by omega);refine sR ?_;simp;apply sC;simp;refine⟨fun hlt=>?_,fun hge=>?_⟩
 .refine sR ?_;simp[hlt];apply sC;simp;refine⟨fun he=>?_,fun hne=>?_⟩
  .refine sR ?_;simp;have jg:v∈xs:=by rw[<-he];exact aa _
   refine sT (sH ?_);simp[jg]
  .refine sR ?_;simp[hw];apply sE;refine⟨i+1,⟨hlt,?_⟩,by omega,wM (nr0 _) rfl (by simp[ToL]) trivial⟩;rw[ah hlt];simp only[ap,a7,not_or];exact⟨htk,fun e=>hne e.symm⟩
 .apply sX;simp only[AU,↓reduceIte];refine sR ?_;simp;have hn:v∉xs:=by rwa [ak hge] at htk
  refine sT (sH ?_);simp[hn]
def aOW(xs:List Int)(v:Int)(nb:Nat)(box:Bxs)(tok:Tks)(nt:Nat)(i:Nat):AS:=⟨tl [(0,.d (ints xs)),(1,I v),(5,I i)],lb nb box [],tok,nt⟩
theorem aAr(xs:List Int)(v:Int)(hx:xs.length<=1000000):DC 155 [.d (ints xs),I v] (I (aU xs v)):=by
 intro tok nt box nb;refine sI func155 ntmps155 fun Hb Ht=>?_
 refine sR ?_;simp;refine sR ?_;simp;apply sN;refine sL (aOW xs v nb box tok nt) (fun i=>i<=xs.length/\v∉xs.take i) (fun i=>xs.length-i) 0 ⟨ai _,by simp⟩ (wM (nr0 _) rfl (by simp[ToL]) trivial) ?_;rintro i S ⟨hi,htk⟩ hS;simp only[aOW] at hS;subst hS;have hw:=sW (i:=i) (by omega);refine sR ?_;simp;apply sC;simp;refine⟨fun hlt=>?_,fun hge=>?_⟩
 .have qf:xs=xs.take i++xs[i]::xs.drop (i+1):=by simp
  refine sR ?_;simp[hlt];apply sC;simp;refine⟨fun he=>?_,fun hne=>?_⟩
  .refine sR ?_;simp;have jg:v∈xs:=by rw[<-he];exact aa _
   have y8:xs.idxOf v=i:=by
    unfold List.idxOf;rw[gc hlt];refine⟨by simp[he],fun j hj=>?_⟩;have:xs[j]≠v:=fun e=>htk (by rw[<-e,cc];exact⟨j,by omega,rfl⟩)
    simpa using this
   refine sT (sH ?_);simp[aU,jg,y8]
  .refine sR ?_;simp[hw];apply sE;refine⟨i+1,⟨hlt,?_⟩,by omega,wM (nr0 _) rfl (by simp[ToL]) trivial⟩;rw[ah hlt];simp only[ap,a7,not_or];exact⟨htk,fun e=>hne e.symm⟩
 .apply sX;simp only[AU,↓reduceIte];refine sR ?_;simp;have hn:v∉xs:=by rwa [ak hge] at htk
  refine sT (sH ?_);simp[aU,hn]
def aQD(l:List Int)(n:Int)(nb:Nat)(box:Bxs)(tok:Tks)(nt:Nat)(i:Nat):AS:=⟨tl [(0,.d (ints l)),(1,I n),(5,I i)],lb nb box [],tok,nt⟩
theorem aGm(l:List Int)(n:Int)(hl:l.length<=1000000):DC 219 [.d (ints l),I n] (I (kC l n)):=by
 intro tok nt box nb;refine sI func219 ntmps219 fun Hb Ht=>?_
 repeat first|simp|refine sR ?_
 apply sN;refine sL (aQD l n nb box tok nt) (fun i=>i<=l.length/\aA (jZ l n) i=0) (fun i=>l.length-i) 0 ⟨ai _,rfl⟩ (wM (nr0 _) rfl (by simp[ToL]) trivial) ?_;rintro i S ⟨hi,ia⟩ hS;simp only[aQD] at hS;subst hS;have hw:=sW (i:=i) (by omega);have hR:i<l.length->jZ l n i≠0->kC l n=jZ l n i:=fun hlt h0=>aL ia h0 l.length hlt
 repeat first|simp|refine sR ?_|apply sC
 refine⟨fun hlt=>?_,fun hge=>?_⟩
 .have hg:l.getD i 0=l[i]:=by simp[hlt]
  have hR:=hR hlt;have hA:jZ l n i=if l[i]<0∨n<=l[i] then 6 else if 0<i/\l[i]<=l.getD (i-1) 0 then 12 else 0:=by rw[jZ,hg]
  repeat first|simp[hlt]|refine sR ?_
  by_cases iu:l[i]<0
  .repeat first|simp[iu,hlt]|refine sR ?_
   apply sC;repeat first|simp|refine sR ?_
   rw[hA,af (.inl iu)] at hR;have hR:=hR (by decide);refine sT (sH ?_);simp[hR]
  .repeat first|simp[iu,hlt]|refine sR ?_
   by_cases hbig:n<=l[i]
   .simp only[hbig];apply sC;repeat first|simp|refine sR ?_
    rw[hA,af (.inr hbig)] at hR;have hR:=hR (by decide);refine sT (sH ?_);simp[hR]
   .simp only[hbig];rw[ac (by omega)] at hA;apply sC;simp;by_cases h0:0<i
    .have rz:IntKind.i64.wrap (↑i-1)=((i-1:Nat):Int):=by rw[aM (by omega) (by omega)];omega
     have qv:i-1<l.length:=by omega
     have hg':l.getD (i-1) 0=l[i-1]:=by simp[qv]
     rw[hg'] at hA;repeat first|simp[hlt,h0,rz,qv]|refine sR ?_
     by_cases iv:l[i]<=l[i-1]
     .rw[af ⟨h0,iv⟩] at hA;rw[hA] at hR;have hR:=hR (by decide);simp only[iv];apply sC;repeat first|simp|refine sR ?_
      refine sT (sH ?_);simp[hR]
     .rw[ac (by omega)] at hA;simp only[iv];apply sC;simp;repeat first|simp[hw]|refine sR ?_
      apply sE;exact⟨i+1,⟨hlt,by simp only[aA,ia,hA,↓reduceIte]⟩,by omega,wM (nr0 _) rfl (by simp[ToL]) trivial⟩
    .rw[ac (by omega)] at hA;repeat first|simp[hlt,h0]|refine sR ?_
     apply sC;simp;repeat first|simp[hw]|refine sR ?_
     apply sE;exact⟨i+1,⟨hlt,by simp only[aA,ia,hA,↓reduceIte]⟩,by omega,wM (nr0 _) rfl (by simp[ToL]) trivial⟩
 .apply sX;simp only[AU,↓reduceIte];repeat first|simp|refine sR ?_
  have:i=l.length:=by omega
  subst this;refine sT (sH ?_);simp[kC,ia]
def aOo(g:Gr)(p:Mo)(nb:Nat)(box:Bxs)(tok:Tks)(nt:Nat)(i:Nat):AS :=
 ⟨tl [(7,I i),(3,.ptr (nb+3) 0 0),(2,.ptr (nb+2) 0 0)],lb nb box [(3,[[.d (ints p.nodes),.d (ints p.edges)]]),(2,[[.d (ints g.nodes),.d (AM.edges g.edges)]])],tok,nt⟩
theorem aGs(g:Gr)(p:Mo)(hg:g.Fit)(hv:vG g=0)(hp:p.Fit):DC 163 [g.av,p.av] (I (fC g p)):=by
 intro tok nt box nb;have h1:=aGm p.nodes g.nodes.length hp.n;have h2:=aGm p.edges g.edges.length hp.e;refine sI func163 ntmps163 fun Hb Ht=>?_
 repeat first|simp|refine sR ?_
 refine sD (h1 _ _) ?_;repeat first|simp|refine sR ?_
 by_cases e1:kC p.nodes g.nodes.length=0
 .simp only[e1];apply sC;repeat first|simp|refine sR ?_
  refine sD (h2 _ _) ?_;repeat first|simp|refine sR ?_
  by_cases e2:kC p.edges g.edges.length=0
  .simp only[e2];apply sC;repeat first|simp|refine sR ?_
   apply sN;have re:=vJ e2;refine sL (aOo g p nb box tok nt) (fun i=>i<=p.edges.length/\aA (gR g p) i=0) (fun i=>p.edges.length-i) 0 ⟨ai _,rfl⟩ wkA ?_;rintro i S ⟨hi,ia⟩ hS;simp only[aOo] at hS;subst hS;have rd:=hp.e;have hw:=sW (i:=i) (by omega);have hR:i<p.edges.length->gR g p i≠0->fC g p=gR g p i:=fun hlt h0=>by
    have:=aL ia h0 p.edges.length hlt
    simp[fC,e1,e2,this]
   repeat first|simp|refine sR ?_|apply sC
   refine⟨fun hlt=>?_,fun hge=>?_⟩
   .have hR:=hR hlt;obtain⟨r1,r2⟩:=re _ (aa hlt);have r3:p.edges[i].toNat<g.edges.length:=by omega
    have hD:gR g p i=if g.edges[p.edges[i].toNat].fr∈p.nodes/\g.edges[p.edges[i].toNat].to∈p.nodes then 0 else 14:=by
     have q1:p.edges.getD i 0=p.edges[i]:=by simp[hlt]
     have q2:g.edges.getD p.edges[i].toNat default=g.edges[p.edges[i].toNat]:=by simp[r3]
     rw[gR,q1,q2]
    have hh:=fun v=>aLU p.nodes v hp.n
    apply sN;refine AL.region2 bS (nr0 _) (by kernel_rfl) (mH.of (by simp)) ?_;simp[hlt,r1,r2,r3];generalize g.edges[p.edges[i].toNat]=x at *;repeat first|simp|refine sR ?_
    refine sD (hh _ _ _) ?_;simp;by_cases h1:x.fr∈p.nodes
    .simp only[h1];repeat first|simp|refine sR ?_
     refine sD (hh _ _ _) ?_;simp;by_cases h2:x.to∈p.nodes
     .rw[af ⟨h1,h2⟩] at hD;simp only[h2];repeat first|simp[hw]|refine sR ?_|apply sC
      apply sE;exact⟨i+1,⟨hlt,by simp only[aA,ia,hD,↓reduceIte]⟩,by omega,wkA⟩
     .rw[ac (fun h=>h2 h.2)] at hD;rw[hD] at hR;have hR:=hR (by decide);simp only[h2];repeat first|simp|refine sR ?_
      apply sC;repeat first|simp|refine sR ?_
      refine sT (sH ?_);simp[hR]
    .rw[ac (fun h=>h1 h.1)] at hD;rw[hD] at hR;have hR:=hR (by decide);simp only[h1];repeat first|simp|refine sR ?_
     apply sC;repeat first|simp|refine sR ?_
     refine sT (sH ?_);simp[hR]
   .apply sX;simp only[AU,↓reduceIte];repeat first|simp|refine sR ?_
    have:i=p.edges.length:=by omega
    subst this;refine sT (sH ?_);simp[fC,e1,e2,ia]
  .have b2:(kC p.edges g.edges.length != 0)=true:=by simp[e2]
   simp only[b2];apply sC;repeat first|simp|refine sR ?_
   refine sT (sH ?_);simp[fC,e1,e2]
 .have b1:(kC p.nodes g.nodes.length != 0)=true:=by simp[e1]
  simp only[b1];apply sC;repeat first|simp|refine sR ?_
  refine sT (sH ?_);simp[fC,e1]
theorem oK(g:Gr)(p:Mo)(hg:g.Fit)(hp:p.Fit):DC 104 [g.av,p.av] (I (cU g p)):=by
 intro tok nt box nb;have h1:=dU g hg;have h2:=fun h=>aGs g p hg h hp
 refine sI func104 ntmps104 fun Hb Ht=>?_
 repeat first|simp|refine sR ?_
 refine sD (h1 _ _) ?_;repeat first|simp|refine sR ?_
 by_cases e1:vG g=0
 .simp only[e1];apply sC;repeat first|simp|refine sR ?_
  refine sD (h2 e1 _ _) ?_;repeat first|simp|refine sR ?_
  refine sT (sH ?_);simp[cU,e1]
 .have b1:(vG g != 0)=true:=by simp[e1]
  simp only[b1];apply sC;repeat first|simp|refine sR ?_
  refine sT (sH ?_);simp[cU,e1]
def jC(g:Gr)(p:Mo)(i:Nat):List Int:=(p.nodes.take i).map fun k=>g.nodes.getD k.toNat 0
def kP(g:Gr)(p:Mo)(i:Nat):List E:=(p.edges.take i).map (qY g p)
def aFA(g:Gr)(p:Mo)(nb:Nat)(box:Bxs)(x:Acc):AS :=
 ⟨tl [(9,I x.i),(8,.ptr (nb+8) 0 0),(5,.ptr (nb+5) 0 0),(4,.ptr (nb+4) 0 0),(3,.ptr (nb+3) 0 0),(2,.ptr (nb+2) 0 0)],
  lb nb box [(8,[[.osl 1 (rI (jC g p x.i)) x.own,.osl 0 [] .full]]),(3,[[.d (ints p.nodes),.d (ints p.edges)]]),(2,[[.d (ints g.nodes),.d (AM.edges g.edges)]]),(5,[[cT,cT]]),(4,[[cT,cT]])],x.tok,x.nt⟩
def aM5(g:Gr)(p:Mo)(la:Own)(nb:Nat)(box:Bxs)(x:Acc):AS :=
 ⟨tl [(10,I x.i),(8,.ptr (nb+8) 0 0),(5,.ptr (nb+5) 0 0),(4,.ptr (nb+4) 0 0),(3,.ptr (nb+3) 0 0),(2,.ptr (nb+2) 0 0)],
  lb nb box [(8,[[.d (ints (jC g p p.nodes.length)),.osl 3 (rE (kP g p x.i)) x.own]]),(3,[[.d (ints p.nodes),.d (ints p.edges)]]),(2,[[.d (ints g.nodes),.d (AM.edges g.edges)]]),(5,[[cT,cT]]),(4,[[cT,cT]])],x.tok,x.nt⟩
theorem lQ(g:Gr)(p:Mo):jC g p 0=[]:=by simp[jC]
theorem lJ(g:Gr)(p:Mo):kP g p 0=[]:=by simp[kP]
theorem lP(g:Gr)(p:Mo){i:Nat}(h:i<p.nodes.length):jC g p (i+1)=jC g p i++[g.nodes.getD p.nodes[i].toNat 0]:=by simp only[jC,List.take_add_one,ab h,Option.toList,c7,di,d6]
theorem lH(g:Gr)(p:Mo){i:Nat}(h:i<p.edges.length):kP g p (i+1)=kP g p i++[qY g p p.edges[i]]:=by simp only[kP,List.take_add_one,ab h,Option.toList,c7,di,d6]
theorem oO(g:Gr)(p:Mo)(i:Nat):(jC g p i).length<=i:=by simp[jC];omega
theorem oV(g:Gr)(p:Mo)(i:Nat):(kP g p i).length<=i:=by simp[kP];omega
theorem aBF(g:Gr)(p:Mo):exG g p=⟨jC g p p.nodes.length,kP g p p.edges.length⟩:=by simp[exG,jC,kP]
theorem aCV(g:Gr)(p:Mo)(hg:g.Fit)(hp:p.Fit)(h:VP g p):DC 98 [g.av,p.av] (.tup [(exG g p).av,p.av,I 0]):=by
 intro tok nt box nb;have h1:=oK g p hg hp;rw[h.v] at h1;refine sI func98 ntmps98 fun Hb Ht=>?_
 repeat first|simp|refine sR ?_
 refine sD (h1 _ _) ?_;repeat first|simp|refine sR ?_
 apply sC;repeat first|simp|refine sR ?_
 apply sN;have so:=hp.n;have rd:=hp.e;refine sL (aFA g p nb box) (fun x=>x.i<=p.nodes.length/\TK tok nt x.tok x.nt [x.own]) (fun x=>p.nodes.length-x.i) ⟨0,.full,tok,nt⟩ ⟨ai _,(TK.start Ht).full⟩ (wM (nr0 _) rfl (by simp[ToL,lk]) (by simp[aC,lk,lQ])) ?_;rintro⟨i,own,tok',nt'⟩ S ⟨hi,htk⟩ hS;simp only[aFA] at hS hi htk;subst hS;have hw:=sW (i:=i) (by omega);repeat first|simp|refine sR ?_|apply sC
 refine⟨fun hlt=>?_,fun hge=>?_⟩
 .obtain⟨r1,r2⟩:=h.n _ (aa hlt);have r3:p.nodes[i].toNat<g.nodes.length:=by omega
  refine sR ?_;simp[hlt,r1,r2,r3];refine⟨⟨by have:=oO g p i;omega,htk.live⟩,?_⟩;repeat first|simp[hw]|refine sR ?_
  apply sE;exact⟨⟨i+1,_,_,_⟩,⟨hlt,htk.app⟩,by simp only;omega,wM htk.app.le rfl (by simp[ToL,lk]) (by simp[aC,lk,lP g p hlt,r3])⟩
 .apply sX;simp only[AU,↓reduceIte];have:i=p.nodes.length:=by omega
  subst this;repeat first|simp|refine sR ?_
  apply sN;refine sL (aM5 g p own nb box) (fun x=>x.i<=p.edges.length/\TK tok nt x.tok x.nt [x.own]) (fun x=>p.edges.length-x.i) ⟨0,.full,tok',nt'⟩ ⟨ai _,htk.tail.full⟩ (wM htk.le rfl (by simp[ToL,lk]) (by simp[aC,lk,lJ])) ?_;rintro⟨i,im,io,iz⟩ S ⟨hi,ie⟩ hS;simp only[aM5] at hS hi ie;subst hS;have hw:=sW (i:=i) (by omega);have hh:=fun v=>aAr p.nodes v hp.n
  repeat first|simp|refine sR ?_|apply sC
  refine⟨fun hlt=>?_,fun hge=>?_⟩
  .obtain⟨r1,r2⟩:=h.e _ (aa hlt);have r3:p.edges[i].toNat<g.edges.length:=by omega
   have hE:qY g p p.edges[i]=⟨g.edges[p.edges[i].toNat].ty,aU p.nodes g.edges[p.edges[i].toNat].fr,aU p.nodes g.edges[p.edges[i].toNat].to⟩:=by
    have q2:g.edges.getD p.edges[i].toNat default=g.edges[p.edges[i].toNat]:=by simp[r3]
    rw[qY,q2]
   have ky:=lH g p hlt;rw[hE] at ky;apply sN;refine AL.region2 bS (nr0 _) (by kernel_rfl) (mH.of (by simp)) ?_;simp[hlt,r1,r2,r3];generalize g.edges[p.edges[i].toNat]=x at *;refine sR ?_;simp;refine sD (hh _ _ _) ?_;simp;refine sD (hh _ _ _) ?_;simp;refine⟨⟨by have:=oV g p i;omega,ie.live⟩,?_⟩;repeat first|simp[hw]|refine sR ?_
   apply sE;exact⟨⟨i+1,_,_,_⟩,⟨hlt,ie.app⟩,by simp only;omega,wM ie.app.le rfl (by simp[ToL,lk]) (by simp[aC,lk,ky])⟩
  .apply sX;simp only[AU,↓reduceIte];have:i=p.edges.length:=by omega
   subst this;repeat first|simp|refine sR ?_
   refine⟨by omega,by omega,?_⟩;have iy:=ie.full.app.full.app;refine sT (sG Hb Ht iy.old iy.le ?_);simp[aBF]
theorem aLe(p:Mo)(n:Int)(h1:p.nodes.length<=281474976710656)(h2:p.edges.length<=281474976710656):DC 160 [p.av,I n] (B (uX p n)):=by
 intro tok nt box nb;have hw:IntKind.i64.wrap (↑p.nodes.length+↑p.edges.length)=(p.nodes.length:Int)+p.edges.length:=aM (by omega) (by omega)
 refine sI func160 ntmps160 fun Hb Ht=>?_
 repeat first|simp[hw]|refine sR ?_
 refine sT (sH ?_);simp[uX]
theorem aLn(n:Int):DC 229 [I n] (B false):=by
 intro tok nt box nb;refine sI func229 ntmps229 fun Hb Ht=>?_
 repeat first|simp|refine sR ?_
 refine sT (sH ?_);simp
theorem aHS(n:Int):DC 177 [I n] (B false):=by
 intro tok nt box nb;refine sI func177 ntmps177 fun Hb Ht=>?_
 repeat first|simp|refine sR ?_
 refine sT (sH ?_);simp
theorem aNf(m n:Int):DC 176 [I m,I n] (B (decide (m<n))):=by
 intro tok nt box nb;have h:=aLn;refine sI func176 ntmps176 fun Hb Ht=>?_
 repeat first|simp|refine sR ?_
 refine sD (h _ _ _) ?_;repeat first|simp|refine sR ?_
 refine sT (sH ?_);simp
def aIb(l:List Int)(v:Int):Nat:=l.findIdx fun x=>decide (v<=x)
theorem aFu{l:List Int}{v:Int}{i:Nat}(hi:i<=l.length)(h1:∀t,t<i->l.getD t 0<v)(h2:∀t,i<=t->t<l.length->v<=l.getD t 0):aIb l v=i:=by
 unfold aIb;have gd:∀t (h:t<l.length),l.getD t 0=l[t]:=fun t h=>by simp[h]
 by_cases h:i<l.length
 .rw[gc h];refine⟨?_,fun j hj=>?_⟩
  .have:=h2 i (nr0 _) h
   rw[gd i h] at this;simpa using this
  .have:=h1 j hj
   rw[gd j (by omega)] at this;simpa using this
 .have:i=l.length:=by omega
  subst this;rw[List.findIdx_eq_length];intro x hx;obtain⟨t,ht,rfl⟩:=bf hx;have:=h1 t ht
  rw[gd t ht] at this;simpa using this
theorem lT{l:List Int}{v:Int}(hs:∀j i,i<j->j<l.length->l.getD i 0<l.getD j 0)(hm:v∈l):(aIb l v:Int)=aU l v:=by
 obtain⟨i1,i2,i3⟩:=fH hm;obtain⟨k,hk⟩:∃k:Nat,aU l v=k:=⟨(aU l v).toNat,by omega⟩
 rw[hk] at i1 i2 i3 ⊢;rw[bz] at i3;rw[aFu (i:=k) (by omega) (fun t ht=>by rw[<-i3];exact hs k t ht (by omega)) fun t h1 h2=>by
  rw[<-i3];by_cases e:t=k
  .subst e;omega
  .have:=hs t k (by omega) h2;omega]
structure aSH where
 i:Nat
 j:Nat
def aQj(l:List Int)(v:Int)(nb:Nat)(box:Bxs)(tok:Tks)(nt:Nat)(a:aSH):AS:=⟨tl [(8,I a.j),(7,I a.i),(6,I l.length),(5,B false),(4,I 0),(0,.d (ints l)),(1,I v)],lb nb box [],tok,nt⟩
theorem wN(l:List Int)(v:Int)(hl:l.length<=1000000)(hs:∀j i,i<j->j<l.length->l.getD i 0<l.getD j 0):DC 116 [.d (ints l),I v] (.tup [I (aIb l v),B (decide (v∈l))]):=by
 intro tok nt box nb;refine sI func116 ntmps116 fun Hb Ht=>?_
 repeat first|simp|refine sR ?_
 apply sN;refine sL (aQj l v nb box tok nt) (fun a=>a.i<=a.j/\a.j<=l.length/\(∀t,t<a.i->l.getD t 0<v)/\∀t,a.j<=t->t<l.length->v<=l.getD t 0) (fun a=>a.j-a.i) ⟨0,l.length⟩ ⟨ai _,nr0 _,fun t ht=>absurd ht (b8 _),fun t h1 h2=>absurd h2 (by simp only at h1;omega)⟩ (wM (nr0 _) rfl (by simp[ToL,lk]) trivial) ?_;rintro⟨i,j⟩ S ⟨pr,hj,h1,h2⟩ hS;simp only[aQj] at hS pr hj h1 h2;subst hS;repeat first|simp|refine sR ?_|apply sC
 refine⟨fun hlt=>?_,fun hge=>?_⟩
 .obtain⟨q,hq⟩:∃q,i+j=q:=⟨_,rfl⟩
  obtain⟨h,hh⟩:∃h,q / 2=h:=⟨_,rfl⟩
  have w1:IntKind.i64.wrap (↑i+↑j)=(q:Int):=by rw[aM (by omega) (by omega)];omega
  have w2:IntKind.u64.wrap (q:Int)=q:=u64_in (by omega) (by omega)
  have w3:(q:Int).fdiv (2 ^ min 1 IntKind.u64.bits)=(h:Int):=by
   have e:(2:Int) ^ min 1 IntKind.u64.bits=2:=by decide
   rw[e,Int.fdiv_eq_ediv_of_nonneg _ (by omega)];omega
  have w4:IntKind.i64.wrap (h:Int)=h:=aM (by omega) (by omega)
  have w5:IntKind.i64.wrap ((h:Int)+1)=((h+1:Nat):Int):=by rw[aM (by omega) (by omega)];rfl
  have Cl:h<l.length:=by omega
  have B6:l.getD h 0=l[h]:=by simp[Cl]
  have zg:=aNf l[h] v;repeat first|simp[w1,w2,w3,w4,Cl]|refine sR ?_
  refine sD (zg _ _) ?_;simp;by_cases hv:l[h]<v
  .simp only[hv];apply sC;simp;repeat first|simp[w5]|refine sR ?_
   apply sE;refine⟨⟨h+1,j⟩,⟨by simp only;omega,hj,fun t ht=>?_,h2⟩,by simp only;omega,wM (nr0 _) rfl (by simp[ToL,lk]) trivial⟩;simp only at ht;rw[<-List.getD_eq_getElem?_getD];by_cases e:t=h
   .rw[e,B6];exact hv
   .have:=hs h t (by omega) Cl
    rw[B6] at this;omega
  .simp only[hv];apply sC;repeat first|simp|refine sR ?_
   apply sE;refine⟨⟨i,h⟩,⟨by simp only;omega,by simp only;omega,h1,fun t ht Am=>?_⟩,by simp only;omega,wM (nr0 _) rfl (by simp[ToL,lk]) trivial⟩;simp only at ht;rw[<-List.getD_eq_getElem?_getD];by_cases e:t=h
   .rw[e,B6];omega
   .have:=hs t h (by omega) Am
    rw[B6] at this;omega
 .apply sX;simp only[AU,↓reduceIte];have Cm:i=j:=by omega
  subst Cm;have zh:aIb l v=i:=aFu hj h1 h2
  have jg:i<l.length->l.getD i 0=v->v∈l:=fun h3 h4=>by rw[<-h4];exact aR h3
  have jf:v∈l->i<l.length/\l.getD i 0=v:=fun hm=>by
   obtain⟨t,ht,e⟩:=eR hm;have a1:¬t<i:=fun h3=>by have:=h1 t h3;omega
   have a2:¬i<t:=fun h3=>by
    have:=hs t i h3 ht
    have:=h2 i (nr0 _) (by omega)
    omega
   have:t=i:=by omega
   subst this;exact⟨ht,e⟩
  by_cases h3:i<l.length
  .have hg:l.getD i 0=l[i]:=by simp[h3]
   rw[hg] at jg jf;by_cases h4:l[i]=v
   .have hm:=jg h3 h4;have hb:(l[i]==v)=true:=by simp[h4]
    repeat first|simp[h3,hb]|refine sR ?_
    refine sT (sH ?_);simp[zh,hm]
   .have hm:v∉l:=fun h=>h4 (jf h).2
    have hb:(l[i]==v)=false:=by simp[h4]
    repeat first|simp[h3,hb]|refine sR ?_
    refine sD (aHS _ _ _) ?_;repeat first|simp|refine sR ?_
    refine sT (sH ?_);simp[zh,hm]
  .have hm:v∉l:=fun h=>h3 (jf h).1
   repeat first|simp[h3]|refine sR ?_
   refine sT (sH ?_);simp[zh,hm]
def aPv(l:List Int)(n:Int)(nb:Nat)(box:Bxs)(tok:Tks)(nt:Nat)(i:Nat):AS:=⟨tl [(9,I i),(8,I l.length),(7,.d (ints l)),(4,I 0),(0,.d (ints l)),(1,I n)],lb nb box [],tok,nt⟩
theorem aIK(l:List Int)(n:Int)(hl:l.length<=1000000):DC 227 [.d (ints l),I n] (I (kC l n)):=by
 intro tok nt box nb;refine sI func227 ntmps227 fun Hb Ht=>?_
 repeat first|simp|refine sR ?_
 apply sN;refine sL (aPv l n nb box tok nt) (fun i=>i<=l.length/\aA (jZ l n) i=0) (fun i=>l.length-i) 0 ⟨ai _,rfl⟩ (wM (nr0 _) rfl (by simp[ToL,lk]) trivial) ?_;rintro i S ⟨hi,ia⟩ hS;simp only[aPv] at hS;subst hS;have hw:=sW (i:=i) (by omega);have hR:i<l.length->jZ l n i≠0->kC l n=jZ l n i:=fun hlt h0=>aL ia h0 l.length hlt
 repeat first|simp|refine sR ?_|apply sC
 refine⟨fun hlt=>?_,fun hge=>?_⟩
 .have hg:l.getD i 0=l[i]:=by simp[hlt]
  have hR:=hR hlt;have hA:jZ l n i=if l[i]<0∨n<=l[i] then 6 else if 0<i/\l[i]<=l.getD (i-1) 0 then 12 else 0:=by rw[jZ,hg]
  by_cases iu:l[i]<0
  .repeat first|simp[iu,hlt]|refine sR ?_
   apply sC;repeat first|simp|refine sR ?_
   rw[hA,af (.inl iu)] at hR;have hR:=hR (by decide);refine sT (sH ?_);simp[hR]
  .by_cases hbig:n<=l[i]
   .repeat first|simp[iu,hlt,hbig]|refine sR ?_
    apply sC;repeat first|simp|refine sR ?_
    rw[hA,af (.inr hbig)] at hR;have hR:=hR (by decide);refine sT (sH ?_);simp[hR]
   .rw[ac (by omega)] at hA;repeat (first|simp[iu,hlt,hbig]|refine sR ?_)
    apply sC
    repeat (first|simp[iu,hlt,hbig]|refine sR ?_)
    by_cases h0:0<i
    .have rz:IntKind.i64.wrap (↑i-1)=((i-1:Nat):Int):=by rw[aM (by omega) (by omega)];omega
     have qv:i-1<l.length:=by omega
     have hg':l.getD (i-1) 0=l[i-1]:=by simp[qv]
     rw[hg'] at hA;repeat first|simp[hlt,h0,rz,qv]|refine sR ?_
     by_cases iv:l[i]<=l[i-1]
     .rw[af ⟨h0,iv⟩] at hA;rw[hA] at hR;have hR:=hR (by decide);simp only[iv];apply sC;repeat first|simp|refine sR ?_
      refine sT (sH ?_);simp[hR]
     .rw[ac (by omega)] at hA;simp only[iv];apply sC;simp;repeat first|simp[hw]|refine sR ?_
      apply sE;exact⟨i+1,⟨hlt,by simp only[aA,ia,hA,↓reduceIte]⟩,by omega,wM (nr0 _) rfl (by simp[ToL,lk]) trivial⟩
    .rw[ac (by omega)] at hA;repeat first|simp[hlt,h0]|refine sR ?_
     apply sC;simp;repeat first|simp[hw]|refine sR ?_
     apply sE;exact⟨i+1,⟨hlt,by simp only[aA,ia,hA,↓reduceIte]⟩,by omega,wM (nr0 _) rfl (by simp[ToL,lk]) trivial⟩
 .apply sX;simp only[AU,↓reduceIte];repeat first|simp|refine sR ?_
  have:i=l.length:=by omega
  subst this;refine sT (sH ?_);simp[kC,ia]
theorem aQQ(l:List Int)(v:Int)(hl:l.length<=1000000)(hs:∀j i,i<j->j<l.length->l.getD i 0<l.getD j 0):DC 228 [.d (ints l),I v] (B (decide (v∈l))):=by
 intro tok nt box nb;have h:=wN l v hl hs;refine sI func228 ntmps228 fun Hb Ht=>?_
 repeat first|simp|refine sR ?_
 refine sD (h _ _) ?_;repeat first|simp|refine sR ?_
 refine sT (sH ?_);simp
def aPz(g:Gr)(p:Mo)(nb:Nat)(box:Bxs)(tok:Tks)(nt:Nat)(i:Nat):AS :=
 ⟨tl [(30,I i),(29,I p.edges.length),(28,.d (ints p.edges)),(3,.ptr (nb+3) 0 0),(2,.ptr (nb+2) 0 0)],lb nb box [(3,[[.d (ints p.nodes),.d (ints p.edges)]]),(2,[[.d (ints g.nodes),.d (AM.edges g.edges)]])],tok,nt⟩
theorem aNX(g:Gr)(p:Mo)(hg:g.Fit)(hv:vG g=0)(hp:p.Fit):DC 175 [g.av,p.av] (I (fC g p)):=by
 intro tok nt box nb;have h1:=aIK p.nodes g.nodes.length hp.n;have h2:=aIK p.edges g.edges.length hp.e;refine sI func175 ntmps175 fun Hb Ht=>?_
 repeat first|simp|refine sR ?_
 refine sD (h1 _ _) ?_;repeat first|simp|refine sR ?_
 by_cases e1:kC p.nodes g.nodes.length=0
 .simp only[e1];apply sC;repeat first|simp|refine sR ?_
  refine sD (h2 _ _) ?_;repeat first|simp|refine sR ?_
  by_cases e2:kC p.edges g.edges.length=0
  .simp only[e2];apply sC;repeat first|simp|refine sR ?_
   apply sN;have re:=vJ e2;refine sL (aPz g p nb box tok nt) (fun i=>i<=p.edges.length/\aA (gR g p) i=0) (fun i=>p.edges.length-i) 0 ⟨ai _,rfl⟩ wkA ?_;rintro i S ⟨hi,ia⟩ hS;simp only[aPz] at hS;subst hS;have rd:=hp.e;have hw:=sW (i:=i) (by omega);have hR:i<p.edges.length->gR g p i≠0->fC g p=gR g p i:=fun hlt h0=>by
    have:=aL ia h0 p.edges.length hlt
    simp[fC,e1,e2,this]
   repeat first|simp|refine sR ?_|apply sC
   refine⟨fun hlt=>?_,fun hge=>?_⟩
   .have hR:=hR hlt;obtain⟨r1,r2⟩:=re _ (aa hlt);have r3:p.edges[i].toNat<g.edges.length:=by omega
    have hD:gR g p i=if g.edges[p.edges[i].toNat].fr∈p.nodes/\g.edges[p.edges[i].toNat].to∈p.nodes then 0 else 14:=by
     have q1:p.edges.getD i 0=p.edges[i]:=by simp[hlt]
     have q2:g.edges.getD p.edges[i].toNat default=g.edges[p.edges[i].toNat]:=by simp[r3]
     rw[gR,q1,q2]
    have hh:=fun v=>aQQ p.nodes v hp.n (aBY e1)
    repeat first|simp[hlt,r1,r2,r3]|refine sR ?_
    refine sD (hh _ _ _) ?_;simp;by_cases h1:g.edges[p.edges[i].toNat].fr∈p.nodes
    .simp only[h1];repeat first|simp[hlt,r1,r2,r3]|refine sR ?_
     refine sD (hh _ _ _) ?_;simp;by_cases h2:g.edges[p.edges[i].toNat].to∈p.nodes
     .rw[af ⟨h1,h2⟩] at hD;simp only[h2];repeat first|simp[hw]|refine sR ?_|apply sC
      apply sE;exact⟨i+1,⟨hlt,by simp only[aA,ia,hD,↓reduceIte]⟩,by omega,wkA⟩
     .rw[ac (fun h=>h2 h.2)] at hD;rw[hD] at hR;have hR:=hR (by decide);simp only[h2];repeat first|simp|refine sR ?_
      apply sC;repeat first|simp|refine sR ?_
      refine sT (sH ?_);simp[hR]
    .rw[ac (fun h=>h1 h.1)] at hD;rw[hD] at hR;have hR:=hR (by decide);simp only[h1];repeat first|simp|refine sR ?_
     apply sC;repeat first|simp|refine sR ?_
     refine sT (sH ?_);simp[hR]
   .apply sX;simp only[AU,↓reduceIte];repeat first|simp|refine sR ?_
    have:i=p.edges.length:=by omega
    subst this;refine sT (sH ?_);simp[fC,e1,e2,ia]
  .have b2:(kC p.edges g.edges.length != 0)=true:=by simp[e2]
   simp only[b2];apply sC;repeat first|simp|refine sR ?_
   refine sT (sH ?_);simp[fC,e1,e2]
 .have b1:(kC p.nodes g.nodes.length != 0)=true:=by simp[e1]
  simp only[b1];apply sC;repeat first|simp|refine sR ?_
  refine sT (sH ?_);simp[fC,e1]
theorem rK(g:Gr)(p:Mo)(hg:g.Fit)(hp:p.Fit):DC 115 [g.av,p.av] (I (cU g p)):=by
 intro tok nt box nb;have h1:=bW g hg;have h2:=fun h=>aNX g p hg h hp
 refine sI func115 ntmps115 fun Hb Ht=>?_
 repeat first|simp|refine sR ?_
 refine sD (h1 _ _) ?_;repeat first|simp|refine sR ?_
 by_cases e1:vG g=0
 .simp only[e1];apply sC;repeat first|simp|refine sR ?_
  refine sD (h2 e1 _ _) ?_;repeat first|simp|refine sR ?_
  refine sT (sH ?_);simp[cU,e1]
 .have b1:(vG g != 0)=true:=by simp[e1]
  simp only[b1];apply sC;repeat first|simp|refine sR ?_
  refine sT (sH ?_);simp[cU,e1]
def aFL(g:Gr)(p:Mo)(nb:Nat)(box:Bxs)(x:Acc):AS :=
 ⟨tl [(25,I x.i),(24,I p.nodes.length),(23,.d (ints p.nodes)),(8,.ptr (nb+8) 0 0),(5,.ptr (nb+5) 0 0),(4,.ptr (nb+4) 0 0),(3,.ptr (nb+3) 0 0),(2,.ptr (nb+2) 0 0)],
  lb nb box [(8,[[.osl 1 (rI (jC g p x.i)) x.own,.osl 0 [] .full]]),(3,[[.d (ints p.nodes),.d (ints p.edges)]]),(2,[[.d (ints g.nodes),.d (AM.edges g.edges)]]),(5,[[cT,cT]]),(4,[[cT,cT]])],x.tok,x.nt⟩
def aMg(g:Gr)(p:Mo)(la:Own)(nb:Nat)(box:Bxs)(x:Acc):AS :=
 ⟨tl [(43,I x.i),(42,I p.edges.length),(41,.d (ints p.edges)),(8,.ptr (nb+8) 0 0),(5,.ptr (nb+5) 0 0),(4,.ptr (nb+4) 0 0),(3,.ptr (nb+3) 0 0),(2,.ptr (nb+2) 0 0)],
  lb nb box [(8,[[.d (ints (jC g p p.nodes.length)),.osl 3 (rE (kP g p x.i)) x.own]]),(3,[[.d (ints p.nodes),.d (ints p.edges)]]),(2,[[.d (ints g.nodes),.d (AM.edges g.edges)]]),(5,[[cT,cT]]),(4,[[cT,cT]])],x.tok,x.nt⟩
theorem aEQ(g:Gr)(p:Mo)(hg:g.Fit)(hp:p.Fit)(h:VP g p):DC 69 [g.av,p.av] (.tup [(exG g p).av,p.av,I 0]):=by
 intro tok nt box nb;have h1:=rK g p hg hp;rw[h.v] at h1;refine sI func69 ntmps69 fun Hb Ht=>?_
 repeat first|simp|refine sR ?_
 refine sD (h1 _ _) ?_;repeat first|simp|refine sR ?_
 apply sC;repeat first|simp|refine sR ?_
 apply sN;have so:=hp.n;have rd:=hp.e;refine sL (aFL g p nb box) (fun x=>x.i<=p.nodes.length/\TK tok nt x.tok x.nt [x.own]) (fun x=>p.nodes.length-x.i) ⟨0,.full,tok,nt⟩ ⟨ai _,(TK.start Ht).full⟩ (wM (nr0 _) rfl (by simp[ToL,lk]) (by simp[aC,lk,lQ])) ?_;rintro⟨i,own,tok',nt'⟩ S ⟨hi,htk⟩ hS;simp only[aFL] at hS hi htk;subst hS;have hw:=sW (i:=i) (by omega);repeat first|simp|refine sR ?_|apply sC
 refine⟨fun hlt=>?_,fun hge=>?_⟩
 .obtain⟨r1,r2⟩:=h.n _ (aa hlt);have r3:p.nodes[i].toNat<g.nodes.length:=by omega
  repeat first|simp[hlt,r1,r2,r3]|refine sR ?_
  refine⟨⟨by have:=oO g p i;omega,htk.live⟩,?_⟩;repeat first|simp[hw]|refine sR ?_
  apply sE;exact⟨⟨i+1,_,_,_⟩,⟨hlt,htk.app⟩,by simp only;omega,wM htk.app.le rfl (by simp[ToL,lk]) (by simp[aC,lk,lP g p hlt,r3])⟩
 .apply sX;simp only[AU,↓reduceIte];have:i=p.nodes.length:=by omega
  subst this;repeat first|simp|refine sR ?_
  apply sN;refine sL (aMg g p own nb box) (fun x=>x.i<=p.edges.length/\TK tok nt x.tok x.nt [x.own]) (fun x=>p.edges.length-x.i) ⟨0,.full,tok',nt'⟩ ⟨ai _,htk.tail.full⟩ (wM htk.le rfl (by simp[ToL,lk]) (by simp[aC,lk,lJ])) ?_;rintro⟨i,im,io,iz⟩ S ⟨hi,ie⟩ hS;simp only[aMg] at hS hi ie;subst hS;have hw:=sW (i:=i) (by omega);have hh:=fun v=>wN p.nodes v hp.n h.sn
  repeat first|simp|refine sR ?_|apply sC
  refine⟨fun hlt=>?_,fun hge=>?_⟩
  .obtain⟨r1,r2⟩:=h.e _ (aa hlt);have r3:p.edges[i].toNat<g.edges.length:=by omega
   have hE:qY g p p.edges[i]=⟨g.edges[p.edges[i].toNat].ty,aU p.nodes g.edges[p.edges[i].toNat].fr,aU p.nodes g.edges[p.edges[i].toNat].to⟩:=by
    have q2:g.edges.getD p.edges[i].toNat default=g.edges[p.edges[i].toNat]:=by simp[r3]
    rw[qY,q2]
   have ky:=lH g p hlt;rw[hE] at ky;have hcc:=h.c _ (aa hlt);have q3:g.edges.getD p.edges[i].toNat default=g.edges[p.edges[i].toNat]:=by simp[r3]
   rw[q3] at hcc;have AK:=hh g.edges[p.edges[i].toNat].fr;have ve:=hh g.edges[p.edges[i].toNat].to;rw[lT h.sn hcc.1] at AK;rw[lT h.sn hcc.2] at ve;refine sR ?_;simp[hlt];refine sR ?_;simp[r1,r2,r3];generalize g.edges[p.edges[i].toNat]=x at *;repeat first|simp|refine sR ?_
   refine sD (AK _ _) ?_;repeat first|simp|refine sR ?_
   refine sD (ve _ _) ?_;repeat first|simp|refine sR ?_
   refine⟨⟨by have:=oV g p i;omega,ie.live⟩,?_⟩;repeat first|simp[hw]|refine sR ?_
   apply sE;exact⟨⟨i+1,_,_,_⟩,⟨hlt,ie.app⟩,by simp only;omega,wM ie.app.le rfl (by simp[ToL,lk]) (by simp[aC,lk,ky])⟩
  .apply sX;simp only[AU,↓reduceIte];have:i=p.edges.length:=by omega
   subst this;have c1:=gT p.nodes hp.n;have c2:=gT p.edges hp.e;repeat first|simp|refine sR ?_
   refine sD (c1 _ _) ?_;repeat first|simp|refine sR ?_
   refine sD (c2 _ _) ?_;simp;have iy:=ie.full.app.full.app;repeat first|simp|refine sR ?_
   refine sT (sG Hb Ht iy.old iy.le ?_);simp[aBF]
structure At where
 name:ByteArray
 lo:Int
 hi:Int
 names:List ByteArray
structure NT where
 name:ByteArray
 par:Int
 abs:Bool
 own:List At
structure ET where
 name:ByteArray
 fr:Int
 to:Int
 ol:Int
 oh:Int
 il:Int
 ih:Int
structure Ty where
 nodes:List NT
 edges:List ET
abbrev At.cells(a:At):List D:=[.raw (.string a.name),.raw (.int .i64 a.lo),.raw (.int .i64 a.hi),lM a.names]
abbrev rL(l:List At):D:=.sl 4 (l.map At.cells)
abbrev NT.cells(n:NT):List D:=[.raw (.string n.name),.raw (.int .i64 n.par),.raw (.bool n.abs),rL n.own]
abbrev ET.cells(e:ET):List D:=[.raw (.string e.name),.raw (.int .i64 e.fr),.raw (.int .i64 e.to),.raw (.int .i64 e.ol),.raw (.int .i64 e.oh),.raw (.int .i64 e.il),.raw (.int .i64 e.ih)]
abbrev nts(l:List NT):D:=.sl 4 (l.map NT.cells)
abbrev ets(l:List ET):D:=.sl 7 (l.map ET.cells)
abbrev Ty.av(t:Ty):AV:=.agg [.d (nts t.nodes),.d (ets t.edges)]
instance:Inhabited ByteArray:=⟨⟨#[]⟩⟩
abbrev eB:ByteArray:=⟨#[]⟩
def iS(l:List ByteArray)(i:Nat):Int:=if cO (l.getD i eB)=false then 2 else if pA (l.take i) (l.getD i eB)=true then 5 else 0
def mT(l:List ByteArray):Int:=if 20<l.length then 3 else aA (iS l) l.length
structure aJP (l:List ByteArray):Prop where
 n:l.length<=1000000
 s:∀x∈l,x.size<=1000000000000
theorem aGA(l:List ByteArray)(i:Nat):lM (l.take i)=.sl 1 (List.take i (l.map fun s=>[D.raw (.string s)])):=by rw[lM,List.map_take]
theorem aHl{l:List ByteArray}{i:Nat}{v:ByteArray}(hi:i<l.length)(h:pA (l.take i) v=false)(hne:v≠l[i]):pA (l.take (i+1)) v=false:=by
 rw[<-Bool.not_eq_true,qT] at h ⊢;rw[ah hi,ap,a7];exact fun h2=>h2.elim h hne
theorem aIh{l:List ByteArray}{k i:Nat}(hk:k<l.length)(za:k<i):pA (l.take i) l[k]=true:=qT.2 (by rw[cc];exact⟨k,by omega,rfl⟩)
def aMR(l:List ByteArray)(nb:Nat)(box:Bxs)(tok:Tks)(nt:Nat)(i:Nat):AS:=⟨tl [(3,I i),(0,.d (lM l))],lb nb box [],tok,nt⟩
def aMS(l:List ByteArray)(i:Nat)(nb:Nat)(box:Bxs)(tok:Tks)(nt:Nat)(k:Nat):AS:=⟨tl [(4,I k),(3,I i),(0,.d (lM l))],lb nb box [],tok,nt⟩
def aPf(l:List ByteArray)(nb:Nat)(box:Bxs)(tok:Tks)(nt:Nat)(i:Nat):AS:=⟨tl [(10,I i),(9,I l.length),(8,.d (lM l)),(0,.d (lM l))],lb nb box [],tok,nt⟩
theorem aLw(l:List ByteArray)(hl:aJP l):DC 282 [.d (lM l)] (I (mT l)):=by
 intro tok nt box nb;have lw:=hl.n;by_cases AN:20<l.length
 .have sq:(20:Int)<l.length:=by omega
  rw[show mT l=3 from af AN];refine sI func282 ntmps282 fun Hb Ht=>?_
  repeat first|simp[sq]|refine sR ?_
  apply sC;repeat first|simp|refine sR ?_
  refine sT (sH ?_);simp
 .have sq:¬(20:Int)<l.length:=by omega
  have hE:mT l=aA (iS l) l.length:=ac AN
  refine sI func282 ntmps282 fun Hb Ht=>?_
  repeat first|simp[sq]|refine sR ?_
  apply sC;repeat first|simp|refine sR ?_
  apply sN;refine sL (aPf l nb box tok nt) (fun i=>i<=l.length/\aA (iS l) i=0) (fun i=>l.length-i) 0 ⟨ai _,rfl⟩ (wM (nr0 _) rfl (by simp[ToL,lk]) trivial) ?_;rintro i S' ⟨hi,ia⟩ hS;simp only[aPf] at hS;subst hS;have hw:=sW (i:=i) (by omega);have hR:i<l.length->iS l i≠0->aA (iS l) l.length=iS l i:=fun hlt h0=>aL ia h0 l.length hlt
  repeat first|simp|refine sR ?_|apply sC
  refine⟨fun hlt=>?_,fun hge=>?_⟩
  .have hg:l.getD i eB=l[i]:=by simp[hlt]
   have hA:iS l i=if cO l[i]=false then 2 else if pA (l.take i) l[i]=true then 5 else 0:=by rw[iS,hg]
   have hn:=nI l[i] (cb (hl.s _ (aa hlt)) (by decide));have hc:=uK (l.take i) l[i] (by simp;omega);have hR:=hR hlt;repeat first|simp[hlt,aFT hlt]|refine sR ?_
   refine sD (hn _ _) ?_;simp;cases e1:cO l[i]
   .rw[e1,af rfl] at hA;rw[hA] at hR;have hR:=hR (by decide);repeat first|simp|refine sR ?_
    apply sC;repeat first|simp|refine sR ?_
    refine sT (sH ?_);simp[hE,hR]
   .rw[e1,ac (by simp)] at hA;repeat first|simp|refine sR ?_
    apply sC;repeat first|simp|refine sR ?_
    refine⟨by omega,?_⟩;rw[aGA] at hc;refine sD (hc _ _) ?_;simp;cases e2:pA (l.take i) l[i]
    .rw[e2,ac (by simp)] at hA;repeat first|simp[hw]|refine sR ?_|apply sC
     apply sE;exact⟨i+1,⟨hlt,by simp only[aA,ia,hA,↓reduceIte]⟩,by omega,wM (nr0 _) rfl (by simp[ToL,lk]) trivial⟩
    .rw[e2,af rfl] at hA;rw[hA] at hR;have hR:=hR (by decide);repeat first|simp|refine sR ?_
     apply sC;repeat first|simp|refine sR ?_
     refine sT (sH ?_);simp[hE,hR]
  .apply sX;simp only[AU,↓reduceIte];repeat first|simp|refine sR ?_
   have:i=l.length:=by omega
   subst this;refine sT (sH ?_);simp[hE,ia]
theorem aG5(l:List ByteArray)(hl:aJP l):DC 253 [.d (lM l)] (I (mT l)):=by
 intro tok nt box nb;have lw:=hl.n;by_cases AN:20<l.length
 .have sq:(20:Int)<l.length:=by omega
  rw[show mT l=3 from af AN];refine sI func253 ntmps253 fun Hb Ht=>?_
  repeat first|simp[sq]|refine sR ?_
  apply sC;repeat first|simp|refine sR ?_
  refine sT (sH ?_);simp
 .have sq:¬(20:Int)<l.length:=by omega
  have hE:mT l=aA (iS l) l.length:=ac AN
  refine sI func253 ntmps253 fun Hb Ht=>?_
  repeat first|simp[sq]|refine sR ?_
  apply sC;repeat first|simp|refine sR ?_
  apply sN;refine sL (aMR l nb box tok nt) (fun i=>i<=l.length/\aA (iS l) i=0) (fun i=>l.length-i) 0 ⟨ai _,rfl⟩ (wM (nr0 _) rfl (by simp[ToL,lk]) trivial) ?_;rintro i S' ⟨hi,ia⟩ hS;simp only[aMR] at hS;subst hS;have hw:=sW (i:=i) (by omega);have hR:i<l.length->iS l i≠0->aA (iS l) l.length=iS l i:=fun hlt h0=>aL ia h0 l.length hlt
  repeat first|simp|refine sR ?_|apply sC
  refine⟨fun hlt=>?_,fun hge=>?_⟩
  .have hg:l.getD i eB=l[i]:=by simp[hlt]
   have hA:iS l i=if cO l[i]=false then 2 else if pA (l.take i) l[i]=true then 5 else 0:=by rw[iS,hg]
   have hn:=jA l[i] (cb (hl.s _ (aa hlt)) (by decide));have hR:=hR hlt;repeat first|simp[hlt,aFT hlt]|refine sR ?_
   refine sD (hn _ _) ?_;simp;cases e1:cO l[i]
   .rw[e1,af rfl] at hA;rw[hA] at hR;have hR:=hR (by decide);repeat first|simp|refine sR ?_
    apply sC;repeat first|simp|refine sR ?_
    refine sT (sH ?_);simp[hE,hR]
   .rw[e1,ac (by simp)] at hA;repeat first|simp|refine sR ?_
    apply sC;repeat first|simp|refine sR ?_
    apply sN;refine sL (aMS l i nb box tok nt) (fun k=>k<=i/\pA (l.take k) l[i]=false) (fun k=>i-k) 0 ⟨ai _,rfl⟩ (wM (nr0 _) rfl (by simp[ToL,lk]) trivial) ?_;rintro k S' ⟨hk,hm⟩ hS;simp only[aMS] at hS;subst hS;have oi:=sW (i:=k) (by omega);repeat first|simp|refine sR ?_|apply sC
    refine⟨fun ll=>?_,fun hge=>?_⟩
    .have lq:k<l.length:=by omega
     by_cases e2:l[k]=l[i]
     .have b2:(l[k].toList==l[i].toList)=true:=by rw[cX];simp[e2]
      have qn:=aIh lq ll;rw[e2] at qn;rw[af qn] at hA;rw[hA] at hR;have hR:=hR (by decide);repeat first|simp[hlt,lq,b2]|refine sR ?_
      apply sC;repeat first|simp|refine sR ?_
      refine sT (sH ?_);simp[hE,hR]
     .have b2:(l[k].toList==l[i].toList)=false:=by rw[cX];simp[e2]
      repeat first|simp[hlt,lq,b2]|refine sR ?_
      apply sC;simp;repeat first|simp[oi]|refine sR ?_
      apply sE;exact⟨k+1,⟨ll,aHl lq hm fun h=>e2 h.symm⟩,by omega,wM (nr0 _) rfl (by simp[ToL,lk]) trivial⟩
    .apply sX;simp only[AU,↓reduceIte];have:k=i:=by omega
     subst this;rw[ac (by simp[hm])] at hA;repeat first|simp[hw]|refine sR ?_
     apply sE;exact⟨k+1,⟨hlt,by simp only[aA,ia,hA,↓reduceIte]⟩,by omega,wM (nr0 _) rfl (by simp[ToL,lk]) trivial⟩
  .apply sX;simp only[AU,↓reduceIte];repeat first|simp|refine sR ?_
   have:i=l.length:=by omega
   subst this;refine sT (sH ?_);simp[hE,ia]
abbrev At.av(a:At):AV:=.agg [Sb a.name,I a.lo,I a.hi,.d (lM a.names)]
abbrev NT.av(n:NT):AV:=.agg [Sb n.name,I n.par,B n.abs,.d (rL n.own)]
abbrev ET.av(e:ET):AV:=.agg [Sb e.name,I e.fr,I e.to,I e.ol,I e.oh,I e.il,I e.ih]
theorem lB{α:Type}{p:α->Bool}{xs:List α}{i:Nat}(h:i<xs.length)(h1:∀x∈xs.take i,p x=false)(h2:p xs[i]=true):bB p xs=true/\xs.findIdx p=i:=by
 refine⟨dy.2 ⟨_,aa h,h2⟩,?_⟩;rw[gc h];refine⟨h2,fun j hj=>?_⟩;have:=h1 xs[j] (by
  rw[cc];exact⟨j,by omega,rfl⟩)
 simpa using this
def aQT(xs:List At)(f:FuncId)(caps:List AV)(nb:Nat)(box:Bxs)(tok:Tks)(nt:Nat)(i:Nat):AS:=⟨tl [(0,.d (rL xs)),(1,.fn (.func f) caps),(7,I xs.length),(8,I i)],lb nb box [],tok,nt⟩
theorem aBK(xs:List At)(f:FuncId)(caps:List AV)(p:At->Bool)(hx:xs.length<=1000000)(box:Bxs)(nb:Nat)(tok:Tks)(nt:Nat)(hc:∀c∈caps,bF (fun k=>box k≠none) (fun _=>True) c)(hf:∀x∈xs,∀box' nb',Ext box box'->aD prog f (x.av::caps) ⟨box',nb',tok,nt⟩ fun v m=>v=B (p x)/\m=⟨box',nb',tok,nt⟩):
  aD prog 313 [.d (rL xs),.fn (.func f) caps] ⟨box,nb,tok,nt⟩ fun v m=>v=I (if bB p xs=true then (xs.findIdx p:Nat) else -1)/\m=⟨box,nb,tok,nt⟩:=by
 refine sI func313 ntmps313 fun Hb Ht=>?_
 repeat first|simp|refine sR ?_
 apply sN;refine sL (aQT xs f caps nb box tok nt) (fun i=>i<=xs.length/\∀x∈xs.take i,p x=false) (fun i=>xs.length-i) 0 ⟨ai _,by simp⟩ (wM (nr0 _) rfl (by simp[ToL];exact .same (lI hc Hb [] (by simp) rfl _)) trivial) ?_;rintro i S' ⟨hi,htk⟩ hS;simp only[aQT] at hS;subst hS;have hw:=sW (i:=i) (by omega);repeat first|simp|refine sR ?_|apply sC
 refine⟨fun hlt=>?_,fun hge=>?_⟩
 .have rp:=hf xs[i] (aa _);have w7:p xs[i]=true->bB p xs=true/\(xs.findIdx p=i):=fun he=>lB hlt htk he
  have ld:p xs[i]=false->∀x∈xs.take (i+1),p x=false:=fun he x hx=>by
   rw[ah hlt] at hx;rcases ap.1 hx with hx|hx
   .exact htk x hx
   .simp at hx;rw[hx];exact he
  repeat first|simp[hlt]|refine sR ?_
  generalize xs[i]=x at *;refine aN.of_b (rp _ _ ((Ext.refl box).lb Hb [])) ?_;simp;cases he:p x
  .apply sC;simp;repeat first|simp[hw]|refine sR ?_
   apply sE;refine⟨i+1,⟨hlt,?_⟩,by omega,wM (nr0 _) rfl (by simp[ToL];exact .same (lI hc Hb [] (by simp) rfl _)) trivial⟩;exact ld he
  .obtain⟨h1,h2⟩:=w7 he;apply sC;repeat first|simp|refine sR ?_
   refine sT (sH ?_);simp[h1,h2]
 .have hn:bB p xs=false:=by
   rw[ak hge] at htk;simpa[bB] using htk
  apply sX;simp only[AU,↓reduceIte];repeat first|simp|refine sR ?_
  refine sT (sH ?_);simp[hn]
theorem vE(xs:List At)(f:FuncId)(caps:List AV)(p:At->Bool)(hx:xs.length<=1000000)(box:Bxs)(nb:Nat)(tok:Tks)(nt:Nat)(hc:∀c∈caps,bF (fun k=>box k≠none) (fun _=>True) c)(hf:∀x∈xs,∀box' nb',Ext box box'->aD prog f (x.av::caps) ⟨box',nb',tok,nt⟩ fun v m=>v=B (p x)/\m=⟨box',nb',tok,nt⟩):
  aD prog 280 [.d (rL xs),.fn (.func f) caps] ⟨box,nb,tok,nt⟩ fun v m=>v=B (bB p xs)/\m=⟨box,nb,tok,nt⟩:=by
 obtain⟨A,j7⟩:∃A,bB p xs=A:=⟨_,rfl⟩
 have hi:=fun b nb' h1 h2=>aBK xs f caps p hx b nb' tok nt h1 h2
 rw[j7];simp only[j7] at hi;refine sI func280 ntmps280 fun Hb Ht=>?_
 repeat first|simp|refine sR ?_
 refine aN.of_b (hi (lb nb box []) _ (fun c h=>(hc c h).mono (fun k hk=>by rw[Hb];exact hk) fun _ h=>h) (fun x qs box' nb' he=>hf x qs box' nb' (by rw[Hb] at he;exact he))) ?_;simp;cases A
 .repeat first|simp|refine sR ?_
  refine sT (sH ?_);simp
 .have h0:(0:Int)<=(xs.findIdx p:Nat):=by omega
  repeat first|simp|refine sR ?_
  refine sT (sH ?_);simp[h0]
def aOY(xs:List NT)(f:FuncId)(caps:List AV)(nb:Nat)(box:Bxs)(tok:Tks)(nt:Nat)(i:Nat):AS:=⟨tl [(0,.d (nts xs)),(1,.fn (.func f) caps),(7,I xs.length),(8,I i)],lb nb box [],tok,nt⟩
theorem aCg(xs:List NT)(f:FuncId)(caps:List AV)(p:NT->Bool)(hx:xs.length<=1000000)(box:Bxs)(nb:Nat)(tok:Tks)(nt:Nat)(hc:∀c∈caps,bF (fun k=>box k≠none) (fun _=>True) c)(hf:∀x∈xs,∀box' nb',Ext box box'->aD prog f (x.av::caps) ⟨box',nb',tok,nt⟩ fun v m=>v=B (p x)/\m=⟨box',nb',tok,nt⟩):
  aD prog 279 [.d (nts xs),.fn (.func f) caps] ⟨box,nb,tok,nt⟩ fun v m=>v=I (if bB p xs=true then (xs.findIdx p:Nat) else -1)/\m=⟨box,nb,tok,nt⟩:=by
 refine sI func279 ntmps279 fun Hb Ht=>?_
 repeat first|simp|refine sR ?_
 apply sN;refine sL (aOY xs f caps nb box tok nt) (fun i=>i<=xs.length/\∀x∈xs.take i,p x=false) (fun i=>xs.length-i) 0 ⟨ai _,by simp⟩ (wM (nr0 _) rfl (by simp[ToL];exact .same (lI hc Hb [] (by simp) rfl _)) trivial) ?_;rintro i S' ⟨hi,htk⟩ hS;simp only[aOY] at hS;subst hS;have hw:=sW (i:=i) (by omega);repeat first|simp|refine sR ?_|apply sC
 refine⟨fun hlt=>?_,fun hge=>?_⟩
 .have rp:=hf xs[i] (aa _);have w7:p xs[i]=true->bB p xs=true/\(xs.findIdx p=i):=fun he=>lB hlt htk he
  have ld:p xs[i]=false->∀x∈xs.take (i+1),p x=false:=fun he x hx=>by
   rw[ah hlt] at hx;rcases ap.1 hx with hx|hx
   .exact htk x hx
   .simp at hx;rw[hx];exact he
  repeat first|simp[hlt]|refine sR ?_
  generalize xs[i]=x at *;refine aN.of_b (rp _ _ ((Ext.refl box).lb Hb [])) ?_;simp;cases he:p x
  .apply sC;simp;repeat first|simp[hw]|refine sR ?_
   apply sE;refine⟨i+1,⟨hlt,?_⟩,by omega,wM (nr0 _) rfl (by simp[ToL];exact .same (lI hc Hb [] (by simp) rfl _)) trivial⟩;exact ld he
  .obtain⟨h1,h2⟩:=w7 he;apply sC;repeat first|simp|refine sR ?_
   refine sT (sH ?_);simp[h1,h2]
 .have hn:bB p xs=false:=by
   rw[ak hge] at htk;simpa[bB] using htk
  apply sX;simp only[AU,↓reduceIte];repeat first|simp|refine sR ?_
  refine sT (sH ?_);simp[hn]
theorem lX(xs:List NT)(f:FuncId)(caps:List AV)(p:NT->Bool)(hx:xs.length<=1000000)(box:Bxs)(nb:Nat)(tok:Tks)(nt:Nat)(hc:∀c∈caps,bF (fun k=>box k≠none) (fun _=>True) c)(hf:∀x∈xs,∀box' nb',Ext box box'->aD prog f (x.av::caps) ⟨box',nb',tok,nt⟩ fun v m=>v=B (p x)/\m=⟨box',nb',tok,nt⟩):
  aD prog 235 [.d (nts xs),.fn (.func f) caps] ⟨box,nb,tok,nt⟩ fun v m=>v=B (bB p xs)/\m=⟨box,nb,tok,nt⟩:=by
 obtain⟨A,j7⟩:∃A,bB p xs=A:=⟨_,rfl⟩
 have hi:=fun b nb' h1 h2=>aCg xs f caps p hx b nb' tok nt h1 h2
 rw[j7];simp only[j7] at hi;refine sI func235 ntmps235 fun Hb Ht=>?_
 repeat first|simp|refine sR ?_
 refine aN.of_b (hi (lb nb box []) _ (fun c h=>(hc c h).mono (fun k hk=>by rw[Hb];exact hk) fun _ h=>h) (fun x qs box' nb' he=>hf x qs box' nb' (by rw[Hb] at he;exact he))) ?_;simp;cases A
 .repeat first|simp|refine sR ?_
  refine sT (sH ?_);simp
 .have h0:(0:Int)<=(xs.findIdx p:Nat):=by omega
  repeat first|simp|refine sR ?_
  refine sT (sH ?_);simp[h0]
def aMi(xs:List ET)(f:FuncId)(caps:List AV)(nb:Nat)(box:Bxs)(tok:Tks)(nt:Nat)(i:Nat):AS:=⟨tl [(0,.d (ets xs)),(1,.fn (.func f) caps),(7,I xs.length),(8,I i)],lb nb box [],tok,nt⟩
theorem zH(xs:List ET)(f:FuncId)(caps:List AV)(p:ET->Bool)(hx:xs.length<=1000000)(box:Bxs)(nb:Nat)(tok:Tks)(nt:Nat)(hc:∀c∈caps,bF (fun k=>box k≠none) (fun _=>True) c)(hf:∀x∈xs,∀box' nb',Ext box box'->aD prog f (x.av::caps) ⟨box',nb',tok,nt⟩ fun v m=>v=B (p x)/\m=⟨box',nb',tok,nt⟩):
  aD prog 283 [.d (ets xs),.fn (.func f) caps] ⟨box,nb,tok,nt⟩ fun v m=>v=I (if bB p xs=true then (xs.findIdx p:Nat) else -1)/\m=⟨box,nb,tok,nt⟩:=by
 refine sI func283 ntmps283 fun Hb Ht=>?_
 repeat first|simp|refine sR ?_
 apply sN;refine sL (aMi xs f caps nb box tok nt) (fun i=>i<=xs.length/\∀x∈xs.take i,p x=false) (fun i=>xs.length-i) 0 ⟨ai _,by simp⟩ (wM (nr0 _) rfl (by simp[ToL];exact .same (lI hc Hb [] (by simp) rfl _)) trivial) ?_;rintro i S' ⟨hi,htk⟩ hS;simp only[aMi] at hS;subst hS;have hw:=sW (i:=i) (by omega);repeat first|simp|refine sR ?_|apply sC
 refine⟨fun hlt=>?_,fun hge=>?_⟩
 .have rp:=hf xs[i] (aa _);have w7:p xs[i]=true->bB p xs=true/\(xs.findIdx p=i):=fun he=>lB hlt htk he
  have ld:p xs[i]=false->∀x∈xs.take (i+1),p x=false:=fun he x hx=>by
   rw[ah hlt] at hx;rcases ap.1 hx with hx|hx
   .exact htk x hx
   .simp at hx;rw[hx];exact he
  repeat first|simp[hlt]|refine sR ?_
  generalize xs[i]=x at *;refine aN.of_b (rp _ _ ((Ext.refl box).lb Hb [])) ?_;simp;cases he:p x
  .apply sC;simp;repeat first|simp[hw]|refine sR ?_
   apply sE;refine⟨i+1,⟨hlt,?_⟩,by omega,wM (nr0 _) rfl (by simp[ToL];exact .same (lI hc Hb [] (by simp) rfl _)) trivial⟩;exact ld he
  .obtain⟨h1,h2⟩:=w7 he;apply sC;repeat first|simp|refine sR ?_
   refine sT (sH ?_);simp[h1,h2]
 .have hn:bB p xs=false:=by
   rw[ak hge] at htk;simpa[bB] using htk
  apply sX;simp only[AU,↓reduceIte];repeat first|simp|refine sR ?_
  refine sT (sH ?_);simp[hn]
theorem tB(xs:List ET)(f:FuncId)(caps:List AV)(p:ET->Bool)(hx:xs.length<=1000000)(box:Bxs)(nb:Nat)(tok:Tks)(nt:Nat)(hc:∀c∈caps,bF (fun k=>box k≠none) (fun _=>True) c)(hf:∀x∈xs,∀box' nb',Ext box box'->aD prog f (x.av::caps) ⟨box',nb',tok,nt⟩ fun v m=>v=B (p x)/\m=⟨box',nb',tok,nt⟩):
  aD prog 240 [.d (ets xs),.fn (.func f) caps] ⟨box,nb,tok,nt⟩ fun v m=>v=B (bB p xs)/\m=⟨box,nb,tok,nt⟩:=by
 obtain⟨A,j7⟩:∃A,bB p xs=A:=⟨_,rfl⟩
 have hi:=fun b nb' h1 h2=>zH xs f caps p hx b nb' tok nt h1 h2
 rw[j7];simp only[j7] at hi;refine sI func240 ntmps240 fun Hb Ht=>?_
 repeat first|simp|refine sR ?_
 refine aN.of_b (hi (lb nb box []) _ (fun c h=>(hc c h).mono (fun k hk=>by rw[Hb];exact hk) fun _ h=>h) (fun x qs box' nb' he=>hf x qs box' nb' (by rw[Hb] at he;exact he))) ?_;simp;cases A
 .repeat first|simp|refine sR ?_
  refine sT (sH ?_);simp
 .have h0:(0:Int)<=(xs.findIdx p:Nat):=by omega
  repeat first|simp|refine sR ?_
  refine sT (sH ?_);simp[h0]
abbrev At.row(a:At):List AV:=[Sb a.name,I a.lo,I a.hi,.d (lM a.names)]
theorem aKH(x y:At)(box:Bxs)(nb k:Nat)(tok:Tks)(nt:Nat)(h1:box k=some [x.row]):
  aD prog 281 [y.av,.ptr k 0 0] ⟨box,nb,tok,nt⟩ fun v m=>v=B (decide (y.name=x.name))/\m=⟨box,nb,tok,nt⟩:=by
 refine sI func281 ntmps281 fun Hb Ht=>?_
 have k1n:=bC Hb h1;rw[<-cX];repeat first|simp[lO k1n,h1]|refine sR ?_
 refine sT (sH ?_);simp
def kE(x:At):Bool:=if x.names.length=0 then decide (-1000000<=x.lo/\x.lo<=x.hi/\x.hi<=1000000) else decide (x.lo=0/\x.hi=(x.names.length:Int)-1)
def wP(x:At)(before:List At):Int:=if cO x.name=false then 2 else if bB (fun y=>decide (y.name=x.name)) before=true then 5 else if mT x.names≠0 then mT x.names else if kE x=true then 0 else 6
structure At.Fit (a:At):Prop where
 n:a.name.size<=1000000000000
 l:aJP a.names
theorem aDX(x:At)(before:List At)(hx:x.Fit)(hb:before.length<=1000000):DC 238 [x.av,.d (rL before)] (I (wP x before)):=by
 intro tok nt box nb;have h1:=nI x.name (cb hx.n (by decide));have h3:=aLw x.names hx.l;cases e1:cO x.name
 .rw[e1] at h1;rw[show wP x before=2 by rw[wP,af e1]];refine sI func238 ntmps238 fun Hb Ht=>?_
  repeat first|simp|refine sR ?_
  refine sD (h1 _ _) ?_;repeat first|simp|refine sR ?_
  apply sC;repeat first|simp|refine sR ?_
  refine sT (sH ?_);simp
 .rw[e1] at h1;have hA:wP x before=if bB (fun y=>decide (y.name=x.name)) before=true then 5 else if mT x.names≠0 then mT x.names else if kE x=true then 0 else 6:=by rw[wP,ac (by simp[e1])]
  obtain⟨N,hN⟩:∃N,wP x before=N:=⟨_,rfl⟩
  rw[hN] at hA ⊢;obtain⟨p,hp⟩:∃p:At->Bool,(fun y=>decide (y.name=x.name))=p:=⟨_,rfl⟩
  have h2:=fun y box nb k h=>aKH x y box nb k tok nt h
  have pm:∀y:At,decide (y.name=x.name)=p y:=fun y=>by rw[<-hp]
  simp only[pm] at h2;rw[hp] at hA;have i8:∀c∈[AV.ptr (nb+2) 0 0],bF (fun k=>(lb nb box [(2,[x.row])]) k≠none) (fun _=>True) c:=by
   intro c hc;rw[a7.1 hc];simp[aQ]
  refine sI func238 ntmps238 fun Hb Ht=>?_
  repeat first|simp|refine sR ?_
  refine sD (h1 _ _) ?_;repeat first|simp|refine sR ?_
  apply sC;repeat first|simp|refine sR ?_
  refine aN.of_b (vE before 281 [.ptr (nb+2) 0 0] p hb _ _ _ _ i8 (fun y hy box' nb' he=>h2 y box' nb' _ (he _ _ (by simp[aQ])))) ?_;repeat first|simp|refine sR ?_
  cases e2:bB p before
  .rw[e2,ac (by simp)] at hA;apply sC;repeat first|simp|refine sR ?_
   refine sD (h3 _ _) ?_;repeat first|simp|refine sR ?_
   by_cases e3:mT x.names=0
   .rw[ac (by simp[e3])] at hA;simp only[e3];apply sC;simp;by_cases c1 : -1000000<=x.lo
    .by_cases c2:x.lo<=x.hi
     .by_cases c3:x.hi<=1000000
      .repeat first|simp[c1,c2,c3]|refine sR ?_
       by_cases z:x.names.length=0
       .have z2:¬0<x.names.length:=by omega
        have hr:kE x=true:=by rw[kE,af z];simp only[au,bq];omega
        rw[hr] at hA;apply sC;simp[z2];repeat first|simp|refine sR ?_
        apply sC;repeat first|simp|refine sR ?_
        refine sT (sH ?_);simp[hA]
       .have z2:0<x.names.length:=by omega
        have hr:kE x=decide (x.lo=0/\x.hi=(x.names.length:Int)-1):=ac z
        rw[hr] at hA;have lw:=hx.l.n;have w:IntKind.i64.wrap ((x.names.length:Int)-1)=(x.names.length:Int)-1:=aM (by omega) (by omega)
        by_cases l0:x.lo=0
        .have b0:(x.lo==0)=true:=by simp[l0]
         by_cases h0:x.hi=(x.names.length:Int)-1
         .have b1:(x.hi==(x.names.length:Int)-1)=true:=by simp[h0]
          apply sC;simp[z2];repeat first|simp[w,b0,b1]|refine sR ?_
          apply sC;repeat first|simp|refine sR ?_
          refine sT (sH ?_);simp[hA,l0,h0]
         .have b1:(x.hi==(x.names.length:Int)-1)=false:=by simp[h0]
          apply sC;simp[z2];repeat first|simp[w,b0,b1]|refine sR ?_
          apply sC;repeat first|simp|refine sR ?_
          refine sT (sH ?_);simp[hA,l0,h0]
        .have b0:(x.lo==0)=false:=by simp[l0]
         apply sC;simp[z2];repeat first|simp[w,b0]|refine sR ?_
         apply sC;repeat first|simp|refine sR ?_
         refine sT (sH ?_);simp[hA,l0]
      .repeat first|simp[c1,c2,c3]|refine sR ?_
       by_cases z:x.names.length=0
       .have z2:¬0<x.names.length:=by omega
        have hr:kE x=false:=by rw[kE,af z];simp only[au,bq];omega
        rw[hr] at hA;apply sC;simp[z2];repeat first|simp|refine sR ?_
        apply sC;repeat first|simp|refine sR ?_
        refine sT (sH ?_);simp[hA]
       .have z2:0<x.names.length:=by omega
        have hr:kE x=decide (x.lo=0/\x.hi=(x.names.length:Int)-1):=ac z
        rw[hr] at hA;have lw:=hx.l.n;have w:IntKind.i64.wrap ((x.names.length:Int)-1)=(x.names.length:Int)-1:=aM (by omega) (by omega)
        by_cases l0:x.lo=0
        .have b0:(x.lo==0)=true:=by simp[l0]
         by_cases h0:x.hi=(x.names.length:Int)-1
         .have b1:(x.hi==(x.names.length:Int)-1)=true:=by simp[h0]
          apply sC;simp[z2];repeat first|simp[w,b0,b1]|refine sR ?_
          apply sC;repeat first|simp|refine sR ?_
          refine sT (sH ?_);simp[hA,l0,h0]
         .have b1:(x.hi==(x.names.length:Int)-1)=false:=by simp[h0]
          apply sC;simp[z2];repeat first|simp[w,b0,b1]|refine sR ?_
          apply sC;repeat first|simp|refine sR ?_
          refine sT (sH ?_);simp[hA,l0,h0]
        .have b0:(x.lo==0)=false:=by simp[l0]
         apply sC;simp[z2];repeat first|simp[w,b0]|refine sR ?_
         apply sC;repeat first|simp|refine sR ?_
         refine sT (sH ?_);simp[hA,l0]
     .repeat first|simp[c1,c2]|refine sR ?_
      by_cases z:x.names.length=0
      .have z2:¬0<x.names.length:=by omega
       have hr:kE x=false:=by rw[kE,af z];simp only[au,bq];omega
       rw[hr] at hA;apply sC;simp[z2];repeat first|simp|refine sR ?_
       apply sC;repeat first|simp|refine sR ?_
       refine sT (sH ?_);simp[hA]
      .have z2:0<x.names.length:=by omega
       have hr:kE x=decide (x.lo=0/\x.hi=(x.names.length:Int)-1):=ac z
       rw[hr] at hA;have lw:=hx.l.n;have w:IntKind.i64.wrap ((x.names.length:Int)-1)=(x.names.length:Int)-1:=aM (by omega) (by omega)
       by_cases l0:x.lo=0
       .have b0:(x.lo==0)=true:=by simp[l0]
        by_cases h0:x.hi=(x.names.length:Int)-1
        .have b1:(x.hi==(x.names.length:Int)-1)=true:=by simp[h0]
         apply sC;simp[z2];repeat first|simp[w,b0,b1]|refine sR ?_
         apply sC;repeat first|simp|refine sR ?_
         refine sT (sH ?_);simp[hA,l0,h0]
        .have b1:(x.hi==(x.names.length:Int)-1)=false:=by simp[h0]
         apply sC;simp[z2];repeat first|simp[w,b0,b1]|refine sR ?_
         apply sC;repeat first|simp|refine sR ?_
         refine sT (sH ?_);simp[hA,l0,h0]
       .have b0:(x.lo==0)=false:=by simp[l0]
        apply sC;simp[z2];repeat first|simp[w,b0]|refine sR ?_
        apply sC;repeat first|simp|refine sR ?_
        refine sT (sH ?_);simp[hA,l0]
    .repeat first|simp[c1]|refine sR ?_
     by_cases z:x.names.length=0
     .have z2:¬0<x.names.length:=by omega
      have hr:kE x=false:=by rw[kE,af z];simp only[au,bq];omega
      rw[hr] at hA;apply sC;simp[z2];repeat first|simp|refine sR ?_
      apply sC;repeat first|simp|refine sR ?_
      refine sT (sH ?_);simp[hA]
     .have z2:0<x.names.length:=by omega
      have hr:kE x=decide (x.lo=0/\x.hi=(x.names.length:Int)-1):=ac z
      rw[hr] at hA;have lw:=hx.l.n;have w:IntKind.i64.wrap ((x.names.length:Int)-1)=(x.names.length:Int)-1:=aM (by omega) (by omega)
      by_cases l0:x.lo=0
      .have b0:(x.lo==0)=true:=by simp[l0]
       by_cases h0:x.hi=(x.names.length:Int)-1
       .have b1:(x.hi==(x.names.length:Int)-1)=true:=by simp[h0]
        apply sC;simp[z2];repeat first|simp[w,b0,b1]|refine sR ?_
        apply sC;repeat first|simp|refine sR ?_
        refine sT (sH ?_);simp[hA,l0,h0]
       .have b1:(x.hi==(x.names.length:Int)-1)=false:=by simp[h0]
        apply sC;simp[z2];repeat first|simp[w,b0,b1]|refine sR ?_
        apply sC;repeat first|simp|refine sR ?_
        refine sT (sH ?_);simp[hA,l0,h0]
      .have b0:(x.lo==0)=false:=by simp[l0]
       apply sC;simp[z2];repeat first|simp[w,b0]|refine sR ?_
       apply sC;repeat first|simp|refine sR ?_
       refine sT (sH ?_);simp[hA,l0]
   .rw[af e3] at hA;have b3:(mT x.names != 0)=true:=by simp[e3]
    simp only[b3];apply sC;repeat first|simp|refine sR ?_
    refine sT (sH ?_);simp[hA]
  .rw[e2,af rfl] at hA;apply sC;repeat first|simp|refine sR ?_
   refine sT (sH ?_);simp[hA]
def inZ(n lo hi:Int):Bool:=decide (lo<=n/\n<=hi)
theorem kF(n lo hi:Int):DC 158 [I n,I lo,I hi] (B (inZ n lo hi)):=by
 intro tok nt box nb;by_cases h1:lo<=n
 .by_cases h2:n<=hi
  .refine sI func158 ntmps158 fun Hb Ht=>?_
   repeat first|simp[h1,h2]|refine sR ?_
   refine sT (sH ?_);simp[inZ,h1,h2]
  .refine sI func158 ntmps158 fun Hb Ht=>?_
   repeat first|simp[h1,h2]|refine sR ?_
   refine sT (sH ?_);simp[inZ,h1,h2]
 .refine sI func158 ntmps158 fun Hb Ht=>?_
  repeat first|simp[h1]|refine sR ?_
  refine sT (sH ?_);simp[inZ,h1]
def aLu(x:At):Int:=if mT x.names≠0 then mT x.names else if kE x=true then 0 else 6
theorem zN(x:At)(hx:x.Fit):DC 196 [x.av] (I (aLu x)):=by
 intro tok nt box nb;have h3:=aG5 x.names hx.l;have i1:=kF x.lo (-1000000) 1000000;have i2:=kF x.hi x.lo 1000000;obtain⟨N,hN⟩:∃N,aLu x=N:=⟨_,rfl⟩
 rw[hN];unfold aLu at hN;by_cases z:x.names.length=0
 .have z0:mT x.names=0:=by
   have:x.names=[]:=dj.1 z
   rw[this];rfl
  rw[ac (by simp[z0])] at hN;have hr:kE x=decide (-1000000<=x.lo/\x.lo<=x.hi/\x.hi<=1000000):=by rw[kE,af z]
  have zl:x.names=[]:=dj.1 z
  cases e1:inZ x.lo (-1000000) 1000000
  .have r1:kE x=false:=by
    rw[hr];simp only[inZ,bq] at e1 ⊢;omega
   rw[r1] at hN;rw[e1] at i1;refine sI func196 ntmps196 fun Hb Ht=>?_
   repeat first|simp[z,zl]|refine sR ?_|apply sC
   refine sD (i1 _ _) ?_;repeat first|simp|refine sR ?_
   apply sC;repeat first|simp|refine sR ?_
   refine sT (sH ?_);simp[<-hN]
  .cases e2:inZ x.hi x.lo 1000000
   .have r1:kE x=false:=by
     rw[hr];simp only[inZ,bq,au] at e1 e2 ⊢;omega
    rw[r1] at hN;rw[e1] at i1;rw[e2] at i2;refine sI func196 ntmps196 fun Hb Ht=>?_
    repeat first|simp[z,zl]|refine sR ?_|apply sC
    refine sD (i1 _ _) ?_;repeat first|simp|refine sR ?_
    refine sD (i2 _ _) ?_;repeat first|simp|refine sR ?_
    apply sC;repeat first|simp|refine sR ?_
    refine sT (sH ?_);simp[<-hN]
   .have r1:kE x=true:=by
     rw[hr];simp only[inZ,au] at e1 e2 ⊢;omega
    rw[r1] at hN;rw[e1] at i1;rw[e2] at i2;refine sI func196 ntmps196 fun Hb Ht=>?_
    repeat first|simp[z,zl]|refine sR ?_|apply sC
    refine sD (i1 _ _) ?_;repeat first|simp|refine sR ?_
    refine sD (i2 _ _) ?_;repeat first|simp|refine sR ?_
    apply sC;repeat first|simp|refine sR ?_
    refine sT (sH ?_);simp[<-hN]
 .have zl:¬x.names=[]:=fun h=>z (by rw[h];rfl)
  have hr:kE x=decide (x.lo=0/\x.hi=(x.names.length:Int)-1):=ac z
  rw[hr] at hN;have lw:=hx.l.n;have w:IntKind.i64.wrap ((x.names.length:Int)-1)=(x.names.length:Int)-1:=aM (by omega) (by omega)
  refine sI func196 ntmps196 fun Hb Ht=>?_
  repeat first|simp[z,zl]|refine sR ?_|apply sC
  refine sD (h3 _ _) ?_;repeat first|simp|refine sR ?_
  by_cases e3:mT x.names=0
  .rw[ac (by simp[e3])] at hN;simp only[e3];apply sC;simp;by_cases l0:x.lo=0
   .have b0:(x.lo != 0)=false:=by simp[l0]
    by_cases h0:x.hi=(x.names.length:Int)-1
    .have b1:(x.hi != (x.names.length:Int)-1)=false:=by simp[h0]
     repeat first|simp[w,b0,b1]|refine sR ?_
     apply sC;repeat first|simp|refine sR ?_
     refine sT (sH ?_);simp[<-hN,l0,h0]
    .have b1:(x.hi != (x.names.length:Int)-1)=true:=by simp[h0]
     repeat first|simp[w,b0,b1]|refine sR ?_
     apply sC;repeat first|simp|refine sR ?_
     refine sT (sH ?_);simp[<-hN,l0,h0]
   .have b0:(x.lo != 0)=true:=by simp[l0]
    repeat first|simp[w,b0]|refine sR ?_
    apply sC;repeat first|simp|refine sR ?_
    refine sT (sH ?_);simp[<-hN,l0]
  .rw[af e3] at hN;have b3:(mT x.names != 0)=true:=by simp[e3]
   simp only[b3];apply sC;repeat first|simp|refine sR ?_
   refine sT (sH ?_);simp[<-hN]
instance:Inhabited NT:=⟨⟨eB,0,false,[]⟩⟩
def Ty.nd(t:Ty)(i:Nat):NT:=t.nodes.getD i default
def jK(t:Ty)(i:Nat):List At:=if h:0<=(t.nd i).par/\(t.nd i).par.toNat<i then jK t (t.nd i).par.toNat++(t.nd i).own else (t.nd i).own
termination_by i
decreasing_by exact h.2
theorem aBH{t:Ty}{i:Nat}(h:0<=(t.nd i).par)(h2:(t.nd i).par.toNat<i):jK t i=jK t (t.nd i).par.toNat++(t.nd i).own:=by rw[jK,gx ⟨h,h2⟩]
theorem aD1{t:Ty}{i:Nat}(h:¬0<=(t.nd i).par):jK t i=(t.nd i).own:=by rw[jK,dif_neg fun h2=>h h2.1]
theorem nY{t:Ty}{M:Nat}(hM:∀i,(t.nd i).own.length<=M):∀n i,i<n->(jK t i).length<=(i+1)*M
 | 0,i,hi=>absurd hi (b8 _)
 | n+1,i,hi=>by
  have hm:=hM i;by_cases h:0<=(t.nd i).par/\(t.nd i).par.toNat<i
  .have ih:=nY hM n (t.nd i).par.toNat (by omega);rw[aBH h.1 h.2,am];have:((t.nd i).par.toNat+1)*M<=i*M:=bm _ (by omega)
   rw[cf,Nat.one_mul];omega
  .rw[jK,dif_neg h];have:M<=(i+1)*M:=Nat.le_mul_of_pos_left _ (by omega)
   omega
structure Ty.Fit (t:Ty):Prop where
 n:t.nodes.length<=1000
 e:t.edges.length<=1000
 nn:∀x∈t.nodes,x.name.size<=1000000000000
 en:∀x∈t.edges,x.name.size<=1000000000000
 a:∀x∈t.nodes,x.own.length<=1000/\∀y∈x.own,y.Fit
theorem iV{t:Ty}{i:Nat}(h:i<t.nodes.length):t.nd i=t.nodes[i]:=by simp[Ty.nd,h]
theorem aF2(t:Ty)(ht:t.Fit)(hM:∀i,(t.nd i).own.length<=1000):∀(n i:Nat),i<n->i<t.nodes.length->(∀j,j<=i->(t.nd j).par<j)->∀(tok:Tks) (nt:Nat),∃tok' nt' o,((∀q,tok q=true->q<nt)->TK tok nt tok' nt' [o]) /\
  cZ prog 237 [t.av,I i] tok nt (.osl 4 ((jK t i).map At.cells) o) tok' nt'
 | 0,i,hi,_,_,_,_=>absurd hi (b8 _)
 | n+1,i,hi,hlt,hp,tok,nt=>by
  have hnd:=iV hlt;by_cases h0:0<=(t.nd i).par
  .have vf:=hp i (nr0 _);obtain⟨tok1,lc,o1,hk,hc⟩:=aF2 t ht hM n (t.nd i).par.toNat (by omega) (by omega) (fun j hj=>hp j (by omega)) tok nt;have hL:=aBH h0 (by omega);have mo:=nY hM (i+1) (t.nd i).par.toNat (by omega);have hl2:=hM i;have hb:((t.nd i).par.toNat+1)*1000<=1000*1000:=bm _ (by have:=ht.n;omega)
   refine⟨_,_,.tok lc,fun h=>(hk h).app,?_⟩;rw[hL];rw[fq h0] at hc;generalize jK t (t.nd i).par.toNat=Q at *;rw[hnd] at h0 hc hl2 ⊢;intro box nb;have hc:=hc;refine sI func237 ntmps237 fun Hb Ht=>?_
   have jd:=hk Ht;repeat first|simp[hlt]|refine sR ?_
   apply sC;simp[h0];repeat first|simp|refine sR ?_
   refine sD (hc) ?_;simp;repeat first|simp[hlt]|refine sR ?_
   refine⟨⟨by omega,jd.live⟩,?_⟩;apply sN;refine AL.ret ?_;try simp only[AU]
   refine⟨by simp,Fin.own (by simp[aP,bI];rfl) Hb rfl jd.app.le ?_⟩;simp
  .have hL:=aD1 h0;have hl2:=hM i;refine⟨_,_,.tok nt,fun h=>(TK.start h).full.app,?_⟩;rw[hL];rw[hnd] at h0 hl2 ⊢;intro box nb;refine sI func237 ntmps237 fun Hb Ht=>?_
   have jd:=(TK.start Ht).full;repeat first|simp[hlt]|refine sR ?_
   apply sC;simp[h0];repeat first|simp[hlt]|refine sR ?_
   refine⟨by omega,?_⟩;apply sN;refine AL.ret ?_;try simp only[AU]
   refine⟨by simp,Fin.own (by simp[aP,bI];rfl) Hb rfl (by simp) ?_⟩;simp
theorem aEM(t:Ty)(a:Int)(h:a<0):DC 195 [t.av,I a] (.osl 0 [] .full):=by
 intro tok nt box nb;refine sI func195 ntmps195 fun Hb Ht=>?_
 repeat first|simp[h]|refine sR ?_|apply sC
 refine sT (sH ?_);simp
theorem aAI(t:Ty)(ht:t.Fit)(hM:∀i,(t.nd i).own.length<=1000):∀(n i:Nat),i<n->i<t.nodes.length->(∀j,j<=i->(t.nd j).par<j)->∀(tok:Tks) (nt:Nat),∃tok' nt' o,((∀q,tok q=true->q<nt)->TK tok nt tok' nt' [o]) /\
  cZ prog 195 [t.av,I i] tok nt (.osl 4 ((jK t i).map At.cells) o) tok' nt'
 | 0,i,hi,_,_,_,_=>absurd hi (b8 _)
 | n+1,i,hi,hlt,hp,tok,nt=>by
  have hnd:=iV hlt;have r7:¬(i:Int)<0:=by omega
  by_cases h0:0<=(t.nd i).par
  .have vf:=hp i (nr0 _);obtain⟨tok1,lc,o1,hk,hc⟩:=aAI t ht hM n (t.nd i).par.toNat (by omega) (by omega) (fun j hj=>hp j (by omega)) tok nt;have hL:=aBH h0 (by omega);have mo:=nY hM (i+1) (t.nd i).par.toNat (by omega);have hl2:=hM i;have hb:((t.nd i).par.toNat+1)*1000<=1000*1000:=bm _ (by have:=ht.n;omega)
   refine⟨_,_,.tok (lc+1),fun h=>(hk h).tail.full.app.app,?_⟩;rw[hL];rw[fq h0] at hc;generalize jK t (t.nd i).par.toNat=Q at *;rw[hnd] at h0 hc hl2 ⊢;intro box nb;refine sI func195 ntmps195 fun Hb Ht=>?_
   have jd:=hk Ht;repeat first|simp[r7]|refine sR ?_
   apply sC;simp[r7];repeat first|simp[hlt]|refine sR ?_
   refine sD (hc) ?_;simp;repeat first|simp[hlt]|refine sR ?_
   first|refine⟨by omega,⟨by omega,uS _ _ _⟩,?_⟩|refine⟨⟨by omega,uS _ _ _⟩,?_⟩|refine⟨by omega,uS _ _ _,?_⟩|trace_state
   apply sN;refine AL.ret ?_;try simp only[AU]
   refine⟨by simp,Fin.own (by simp[aP,bI];rfl) Hb rfl jd.tail.full.app.app.le ?_⟩;simp
  .have hL:=aD1 h0;have hl2:=hM i;have hc:=aEM t (t.nd i).par (by omega) tok nt;refine⟨_,_,.tok (nt+1),fun h=>(TK.start h).full.app.app,?_⟩;rw[hL];rw[hnd] at h0 hc hl2 ⊢;intro box nb;refine sI func195 ntmps195 fun Hb Ht=>?_
   have jd:=(TK.start Ht).full;repeat first|simp[r7]|refine sR ?_
   apply sC;simp[r7];repeat first|simp[hlt]|refine sR ?_
   refine sD (hc) ?_;simp;repeat first|simp[hlt]|refine sR ?_
   first|refine⟨by omega,⟨by omega,uS _ _ _⟩,?_⟩|refine⟨⟨by omega,uS _ _ _⟩,?_⟩|refine⟨by omega,uS _ _ _,?_⟩|trace_state
   apply sN;refine AL.ret ?_;try simp only[AU]
   refine⟨by simp,Fin.own (by simp[aP,bI];rfl) Hb rfl jd.app.app.le ?_⟩;simp
def kL(lo hi:Int):Bool:=decide (0<=lo/\lo<=40)&&(hi == -1||decide (lo<=hi/\hi<=40))
theorem aA2(lo hi:Int):DC 242 [I lo,I hi] (B (kL lo hi)):=by
 intro tok nt box nb;by_cases h1:0<=lo
 .by_cases h2:lo<=40
  .cases h3:(hi == -1)
   .by_cases h4:lo<=hi
    .by_cases h5:hi<=40
     .refine sI func242 ntmps242 fun Hb Ht=>?_
      repeat first|simp[h1,h2,h3,h4,h5]|refine sR ?_
      refine sT (sH ?_);simp[kL,h1,h2,h3,h4,h5]
     .refine sI func242 ntmps242 fun Hb Ht=>?_
      repeat first|simp[h1,h2,h3,h4,h5]|refine sR ?_
      refine sT (sH ?_);simp[kL,h1,h2,h3,h4,h5]
    .refine sI func242 ntmps242 fun Hb Ht=>?_
     repeat first|simp[h1,h2,h3,h4]|refine sR ?_
     refine sT (sH ?_);simp[kL,h1,h2,h3,h4]
   .refine sI func242 ntmps242 fun Hb Ht=>?_
    repeat first|simp[h1,h2,h3]|refine sR ?_
    refine sT (sH ?_);simp[kL,h1,h2,h3]
  .refine sI func242 ntmps242 fun Hb Ht=>?_
   repeat first|simp[h1,h2]|refine sR ?_
   refine sT (sH ?_);simp[kL,h1,h2]
 .refine sI func242 ntmps242 fun Hb Ht=>?_
  repeat first|simp[h1]|refine sR ?_
  refine sT (sH ?_);simp[kL,h1]
abbrev NT.row(n:NT):List AV:=[Sb n.name,I n.par,B n.abs,.d (rL n.own)]
abbrev ET.row(e:ET):List AV:=[Sb e.name,I e.fr,I e.to,I e.ol,I e.oh,I e.il,I e.ih]
theorem aLS(x y:NT)(box:Bxs)(nb k:Nat)(tok:Tks)(nt:Nat)(h1:box k=some [x.row]):
  aD prog 236 [y.av,.ptr k 0 0] ⟨box,nb,tok,nt⟩ fun v m=>v=B (decide (y.name=x.name))/\m=⟨box,nb,tok,nt⟩:=by
 refine sI func236 ntmps236 fun Hb Ht=>?_
 have k1n:=bC Hb h1;rw[<-cX];repeat first|simp[lO k1n,h1]|refine sR ?_
 refine sT (sH ?_);simp
theorem aKy(x y:ET)(box:Bxs)(nb k:Nat)(tok:Tks)(nt:Nat)(h1:box k=some [x.row]):
  aD prog 241 [y.av,.ptr k 0 0] ⟨box,nb,tok,nt⟩ fun v m=>v=B (decide (y.name=x.name))/\m=⟨box,nb,tok,nt⟩:=by
 refine sI func241 ntmps241 fun Hb Ht=>?_
 have k1n:=bC Hb h1;rw[<-cX];repeat first|simp[lO k1n,h1]|refine sR ?_
 refine sT (sH ?_);simp
theorem aAE(lo hi:Int):DC 197 [I lo,I hi] (B (kL lo hi)):=by
 intro tok nt box nb;have i1:=kF lo 0 40;have i2:=kF hi lo 40;cases e1:inZ lo 0 40
 .rw[e1] at i1;have hb:kL lo hi=false:=by
   have:decide (0<=lo/\lo<=40)=false:=e1
   simp[kL,this]
  rw[hb];refine sI func197 ntmps197 fun Hb Ht=>?_
  repeat first|simp|refine sR ?_
  refine sD (i1 _ _) ?_;repeat first|simp|refine sR ?_
  refine sT (sH ?_);simp
 .rw[e1] at i1;have h1:decide (0<=lo/\lo<=40)=true:=e1
  cases h3:(hi == -1)
  .have hb:kL lo hi=inZ hi lo 40:=by
    simp only[kL,h1,h3,inZ,b9,Bool.false_or]
   rw[hb];refine sI func197 ntmps197 fun Hb Ht=>?_
   repeat first|simp|refine sR ?_
   refine sD (i1 _ _) ?_;simp;repeat first|simp[h3]|refine sR ?_
   refine sD (i2 _ _) ?_;repeat first|simp|refine sR ?_
   refine sT (sH ?_);simp
  .have hb:kL lo hi=true:=by simp only[kL,h1,h3,b9,Bool.true_or]
   rw[hb];refine sI func197 ntmps197 fun Hb Ht=>?_
   repeat first|simp|refine sR ?_
   refine sD (i1 _ _) ?_;simp;repeat first|simp[h3]|refine sR ?_
   refine sT (sH ?_);simp
def gF(t:Ty)(n:Int):Bool:=decide (0<=n/\n<t.nodes.length)
theorem aGq(t:Ty)(n:Int)(box:Bxs)(nb k:Nat)(tok:Tks)(nt:Nat)(h1:box k=some [[.d (nts t.nodes),.d (ets t.edges)]]):
  aD prog 239 [I n,.ptr k 0 0] ⟨box,nb,tok,nt⟩ fun v m=>v=B (gF t n)/\m=⟨box,nb,tok,nt⟩:=by
 by_cases h0:0<=n
 .refine sI func239 ntmps239 fun Hb Ht=>?_
  have k1n:=bC Hb h1;repeat first|simp[lO k1n,h1,h0]|refine sR ?_
  refine sT (sH ?_);simp[gF,h0]
 .refine sI func239 ntmps239 fun Hb Ht=>?_
  have k1n:=bC Hb h1;repeat first|simp[lO k1n,h1,h0]|refine sR ?_
  refine sT (sH ?_);simp[gF,h0]
def aNq(L:List At)(k:Nat):Int:=wP (L.getD k ⟨eB,0,0,[]⟩) (L.take k)
def vQ(L:List At)(M k:Nat):Int:=if k+M<L.length then 0 else aNq L k
def aNG(L:List At)(M:Nat):Int:=aA (vQ L M) L.length
theorem pT(L:List At)(M:Nat):∀k,k+M<=L.length->aA (vQ L M) k=0
 | 0,_=>rfl
 | k+1,h=>by
  simp only[aA,pT L M k (by omega),↓reduceIte,vQ];rw[af (by omega)]
theorem aEc{t:Ty}{i:Nat}:(t.nd i).own.length<=(jK t i).length:=by
 rw[jK];split
 .rw[am];omega
 .exact nr0 _
theorem xN{t:Ty}(ht:t.Fit):∀n i,i<n->∀x∈jK t i,x.Fit
 | 0,i,hi=>absurd hi (b8 _)
 | n+1,i,hi=>by
  have hown:∀x∈(t.nd i).own,x.Fit:=by
   by_cases h:i<t.nodes.length
   .rw[iV h];exact(ht.a _ (aa h)).2
   .intro x hx;simp only[Ty.nd,ao,d4 (Nat.le_of_not_lt h),Option.getD_none] at hx;cases hx
  rw[jK];split
  .rename_i h;intro x hx;rcases ap.1 hx with hx|hx
   .exact xN ht n _ (by omega) x hx
   .exact hown x hx
  .exact hown
theorem aFo{L:List At}{k:Nat}(h:k<L.length):aNq L k=wP L[k] (L.take k):=by simp[aNq,h]
theorem aG1(L:List At)(k:Nat):rL (L.take k)=.sl 4 (List.take k (L.map At.cells)):=by rw[rL,List.map_take]
theorem aB0{L:List At}{k:Nat}(h:k<L.length):(L.map At.cells)[k]?=some L[k].cells:=by simp[h]
def fT(t:Ty)(i:Nat):Int :=
 if cO (t.nd i).name=false then 2 else if bB (fun y=>decide (y.name=(t.nd i).name)) (t.nodes.take i)=true then 5
 else if (t.nd i).par < -1∨(i:Int)<=(t.nd i).par then 6 else if 4<(t.nd i).own.length then 3
 else if 8<(jK t i).length then 3 else aNG (jK t i) (t.nd i).own.length
def aQu(L:List At)(nb:Nat)(box:Bxs)(tok:Tks)(nt:Nat)(k:Nat):AS:=⟨tl [(7,I k),(6,.d (rL L))],lb nb box [],tok,nt⟩
theorem aNb(t:Ty)(ht:t.Fit)(hM:∀i,(t.nd i).own.length<=1000)(i:Nat)(hi:i<t.nodes.length)(hp:∀j,j<i->(t.nd j).par<j):DC 182 [t.av,I i] (I (fT t i)):=by
 intro tok nt box nb;have hnd:=iV hi;have jg:=aa hi;have h1:=nI (t.nd i).name (by rw[hnd];exact cb (ht.nn _ jg) (by decide));obtain⟨N,hN⟩:∃N,fT t i=N:=⟨_,rfl⟩
 rw[hN];unfold fT at hN;rw[hnd] at h1 hN;cases e1:cO t.nodes[i].name
 .rw[e1] at h1 hN;rw[af rfl] at hN;refine sI func182 ntmps182 fun Hb Ht=>?_
  repeat first|simp[hi]|refine sR ?_
  refine sD (h1 _ _) ?_;repeat first|simp|refine sR ?_
  apply sC;repeat first|simp|refine sR ?_
  refine sT (sH ?_);simp[<-hN]
 .rw[e1] at h1 hN;rw[ac (by simp)] at hN;obtain⟨p,pm⟩:∃p:NT->Bool,(fun y=>decide (y.name=t.nodes[i].name))=p:=⟨_,rfl⟩
  have h2:=fun y box nb k (oz:box k=some [(t.nodes[i]'hi).row])=>aLS (t.nodes[i]'hi) y box nb k tok nt oz
  have t7:∀y:NT,decide (y.name=t.nodes[i].name)=p y:=fun y=>by rw[<-pm]
  simp only[t7] at h2;rw[pm] at hN;refine sI func182 ntmps182 fun Hb Ht=>?_
  repeat first|simp[hi]|refine sR ?_
  refine sD (h1 _ _) ?_;repeat first|simp[hi]|refine sR ?_|apply sC
  refine⟨by omega,?_⟩;have nv:=fun (b:Bxs) nb' h3 h4=>lX (t.nodes.take i) 236 [.ptr (nb+5) 0 0] p (by simp;have:=ht.n;omega) b nb' tok nt h3 h4
  rw[show nts (t.nodes.take i)=.sl 4 (List.take i (t.nodes.map NT.cells)) by rw[nts,List.map_take]] at nv;refine aN.of_b (nv _ _ (fun c hc=>by rw[a7.1 hc];simp[aQ]) (fun y hy box' nb' he=>h2 y box' nb' _ (he _ _ (by simp[aQ])))) ?_;simp;cases e2:bB p (t.nodes.take i)
  .rw[e2,ac (by simp)] at hN;apply sC;simp;by_cases e3:t.nodes[i].par < -1
   .rw[af (.inl e3)] at hN;repeat first|simp[e3]|refine sR ?_
    apply sC;repeat first|simp|refine sR ?_
    refine sT (sH ?_);simp[<-hN]
   .by_cases e4:(i:Int)<=t.nodes[i].par
    .rw[af (.inr e4)] at hN;repeat first|simp[e3,e4]|refine sR ?_
     apply sC;repeat first|simp|refine sR ?_
     refine sT (sH ?_);simp[<-hN]
    .rw[ac (by omega)] at hN;repeat first|simp[e3,e4]|refine sR ?_
     apply sC;repeat first|simp|refine sR ?_
     by_cases e5:4<t.nodes[i].own.length
     .have w8:(4:Int)<t.nodes[i].own.length:=by omega
      rw[af e5] at hN;apply sC;simp[e5,w8];repeat first|simp|refine sR ?_
      refine sT (sH ?_);simp[<-hN]
     .have w8:¬(4:Int)<t.nodes[i].own.length:=by omega
      rw[ac e5] at hN;obtain⟨tok1,lc,o1,hk,hc⟩:=aF2 t ht hM (i+1) i (ef _) hi (fun j hj=>by
       by_cases e:j=i
       .subst e;rw[hnd];omega
       .exact hp j (by omega)) tok nt
      have hal:=nY hM (i+1) i (ef _);have A6:=xN ht (i+1) i (ef _);have pz:=aEc (t:=t) (i:=i);rw[hnd] at pz;have qo:=ht.n;have Cn:(jK t i).length<=1000000:=cb hal (by have:(i+1)*1000<=1000*1000:=bm _ (by omega);omega)
      clear hal;generalize jK t i=L at *;apply sC;simp[e5,w8];repeat first|simp|refine sR ?_
      refine sD (hc) ?_;simp;have jd:=hk Ht;repeat first|simp|refine sR ?_
      by_cases e6:8<L.length
      .have w9:(8:Int)<L.length:=by omega
       rw[af e6] at hN;apply sC;simp[e6,w9];repeat first|simp|refine sR ?_
       refine sT (sG Hb Ht jd.old jd.le ?_);simp[<-hN]
      .have w9:¬(8:Int)<L.length:=by omega
       rw[ac e6] at hN;have qc:IntKind.i64.wrap ((L.length:Int)-(t.nodes[i].own.length:Nat))=((L.length-t.nodes[i].own.length:Nat):Int):=by rw[aM (by omega) (by omega)];omega
       have hz:=pT L t.nodes[i].own.length (L.length-t.nodes[i].own.length) (by omega);unfold aNG at hN;obtain⟨f,hf⟩:∃f,vQ L t.nodes[i].own.length=f:=⟨_,rfl⟩
       have Cp:∀k,(hk:k<L.length)->L.length-t.nodes[i].own.length<=k->f k=wP L[k] (L.take k):=fun k hk hge=>by
        rw[<-hf,vQ,ac (by omega),aFo hk]
       rw[hf] at hN hz;apply sC;simp[e6,w9];repeat first|simp[hi,aQ,qc]|refine sR ?_
       have Cq:L.length-t.nodes[i].own.length<=L.length:=Nat.sub_le _ _
       generalize L.length-t.nodes[i].own.length=a at *;apply sN;refine sL (aQu L nb box tok1 lc) (fun k=>a<=k/\k<=L.length/\aA f k=0) (fun k=>L.length-k) a ⟨nr0 _,by omega,hz⟩ (wM (by have:=jd.le;omega) rfl (by simp[ToL,lk,To.data]) trivial) ?_;rintro k S' ⟨Cr,lq,ia⟩ hS;simp only[aQu] at hS;subst hS;have hw:=sW (i:=k) (by omega);repeat first|simp|refine sR ?_|apply sC
       refine⟨fun hlt=>?_,fun hge=>?_⟩
       .have hA:=Cp k hlt Cr;have xz:=aDX L[k] (L.take k) (A6 _ (aa hlt)) (by simp;omega);rw[aG1,<-hA] at xz;have hR:f k≠0->aA f L.length=f k:=fun h0=>aL ia h0 L.length hlt
        have hnx:f k=0->aA f (k+1)=0:=fun h0=>by simp only[aA,ia,h0,↓reduceIte]
        generalize f k=E at *;repeat first|simp[hlt,aB0 hlt]|refine sR ?_
        try refine⟨by omega,?_⟩
        refine sD (xz _ _) ?_;repeat first|simp|refine sR ?_
        by_cases e7:E=0
        .apply sC;simp[e7];repeat first|simp[hw]|refine sR ?_
         apply sE;exact⟨k+1,⟨by omega,hlt,hnx e7⟩,by omega,wM (by have:=jd.le;omega) rfl (by simp[ToL,lk]) trivial⟩
        .have b7:(E != 0)=true:=by simp[e7]
         apply sC;simp[e7,b7];repeat first|simp|refine sR ?_
         refine sT (sG Hb Ht jd.old jd.le ?_);simp[<-hN,hR e7]
       .apply sX;simp only[AU,↓reduceIte];repeat first|simp|refine sR ?_
        have:k=L.length:=by omega
        subst this;refine sT (sG Hb Ht jd.old jd.le ?_);simp[<-hN,ia]
  .rw[e2,af rfl] at hN;apply sC;repeat first|simp|refine sR ?_
   refine sT (sH ?_);simp[<-hN]
def aEe(l:List NT)(s:ByteArray):Bool:=bB (fun y=>decide (y.name=s)) l
theorem aDb{l:List NT}{s:ByteArray}:aEe l s=true↔∃x∈l,x.name=s:=by simp[aEe,bB]
theorem aHn{l:List NT}{i:Nat}{s:ByteArray}(hi:i<l.length)(h:aEe (l.take i) s=false)(hne:l[i].name≠s):aEe (l.take (i+1)) s=false:=by
 rw[<-Bool.not_eq_true,aDb] at h ⊢;rintro⟨x,hx,he⟩;rw[ah hi,ap,a7] at hx;rcases hx with hx|hx
 .exact h ⟨x,hx,he⟩
 .exact hne (by rw[<-hx];exact he)
theorem aIs{l:List NT}{k i:Nat}{s:ByteArray}(hk:k<l.length)(za:k<i)(he:l[k].name=s):aEe (l.take i) s=true :=
 aDb.2 ⟨l[k],by rw[cc];exact⟨k,by omega,rfl⟩,he⟩
def xM(l:List At)(s:ByteArray):Bool:=bB (fun y=>decide (y.name=s)) l
theorem aAe{l:List At}{s:ByteArray}:xM l s=true↔∃x∈l,x.name=s:=by simp[xM,bB]
theorem aE5{l:List At}{i:Nat}{s:ByteArray}(hi:i<l.length)(h:xM (l.take i) s=false)(hne:l[i].name≠s):xM (l.take (i+1)) s=false:=by
 rw[<-Bool.not_eq_true,aAe] at h ⊢;rintro⟨x,hx,he⟩;rw[ah hi,ap,a7] at hx;rcases hx with hx|hx
 .exact h ⟨x,hx,he⟩
 .exact hne (by rw[<-hx];exact he)
theorem aGy{l:List At}{k i:Nat}{s:ByteArray}(hk:k<l.length)(za:k<i)(he:l[k].name=s):xM (l.take i) s=true :=
 aAe.2 ⟨l[k],by rw[cc];exact⟨k,by omega,rfl⟩,he⟩
theorem aG7(x:At)(b:List At):wP x b=if cO x.name=false then 2 else if xM b x.name=true then 5 else aLu x:=rfl
def aMH(t:Ty)(i:Nat)(n:NT)(nb:Nat)(box:Bxs)(tok:Tks)(nt:Nat)(k:Nat):AS:=⟨tl [(6,I k),(5,.ptr (nb+5) 0 0),(2,.ptr (nb+2) 0 0),(1,I i)],lb nb box [(5,[n.row]),(2,[[.d (nts t.nodes),.d (ets t.edges)]])],tok,nt⟩
def aM6(L:List At)(nb:Nat)(box:Bxs)(tok:Tks)(nt:Nat)(k:Nat):AS:=⟨tl [(8,I k),(7,.d (rL L))],lb nb box [],tok,nt⟩
def aMK(L:List At)(k:Nat)(nb:Nat)(box:Bxs)(tok:Tks)(nt:Nat)(j:Nat):AS:=⟨tl [(9,I j),(8,I k),(7,.d (rL L))],lb nb box [],tok,nt⟩
theorem aI1(t:Ty)(ht:t.Fit)(hM:∀i,(t.nd i).own.length<=1000)(i:Nat)(hi:i<t.nodes.length)(hp:∀j,j<i->(t.nd j).par<j):DC 128 [t.av,I i] (I (fT t i)):=by
 intro tok nt box nb;have hnd:=iV hi;have jg:=aa hi;have qo:=ht.n;have h1:=jA (t.nd i).name (by rw[hnd];exact cb (ht.nn _ jg) (by decide));obtain⟨N,hN⟩:∃N,fT t i=N:=⟨_,rfl⟩
 rw[hN];unfold fT at hN
 change (if cO (t.nd i).name=false then (2:Int) else if aEe (t.nodes.take i) (t.nd i).name=true then 5 else _)=N at hN
 rw[hnd] at h1 hN;have jf:=kF t.nodes[i].par (-1) ((i:Int)-1);have oj:IntKind.i64.wrap ((i:Int)-1)=(i:Int)-1:=by rw[aM (by omega) (by omega)]
 cases e1:cO t.nodes[i].name
 .rw[e1] at h1 hN;rw[af rfl] at hN;refine sI func128 ntmps128 fun Hb Ht=>?_
  repeat first|simp[hi]|refine sR ?_
  refine sD (h1 _ _) ?_;repeat first|simp|refine sR ?_
  apply sC;repeat first|simp|refine sR ?_
  refine sT (sH ?_);simp[<-hN]
 .rw[e1] at h1 hN;rw[ac (by simp)] at hN;refine sI func128 ntmps128 fun Hb Ht=>?_
  repeat first|simp[hi]|refine sR ?_
  refine sD (h1 _ _) ?_;repeat first|simp|refine sR ?_
  apply sC;repeat first|simp|refine sR ?_
  apply sN;refine sL (aMH t i t.nodes[i] nb box tok nt) (fun k=>k<=i/\aEe (t.nodes.take k) t.nodes[i].name=false) (fun k=>i-k) 0 ⟨ai _,rfl⟩ wkA ?_;rintro k S' ⟨hk,hm⟩ hS;simp only[aMH] at hS;subst hS;have oi:=sW (i:=k) (by omega);repeat first|simp|refine sR ?_|apply sC
  refine⟨fun ll=>?_,fun hge=>?_⟩
  .have lq:k<t.nodes.length:=by omega
   by_cases e2:t.nodes[k].name=t.nodes[i].name
   .have b2:(t.nodes[k].name.toList==t.nodes[i].name.toList)=true:=by rw[cX];simp[e2]
    rw[af (aIs lq ll e2)] at hN;repeat first|simp[hi,lq,b2]|refine sR ?_
    apply sC;simp[b2];repeat first|simp|refine sR ?_
    refine sT (sH ?_);simp[<-hN]
   .have b2:(t.nodes[k].name.toList==t.nodes[i].name.toList)=false:=by rw[cX];simp[e2]
    repeat first|simp[hi,lq,b2]|refine sR ?_
    apply sC;simp[b2];repeat first|simp[oi]|refine sR ?_
    apply sE;exact⟨k+1,⟨ll,aHn lq hm e2⟩,by omega,wkA⟩
  .apply sX;simp only[AU,↓reduceIte];have:k=i:=by omega
   subst this;rw[hm,ac (by simp)] at hN;by_cases e3:t.nodes[k].par < -1∨(k:Int)<=t.nodes[k].par
   .rw[af e3] at hN;have b3:inZ t.nodes[k].par (-1) ((k:Int)-1)=false:=by simp only[inZ,bq];omega
    rw[b3] at jf;repeat first|simp[hi,oj]|refine sR ?_
    refine sD (jf _ _) ?_;repeat first|simp|refine sR ?_
    apply sC;repeat first|simp|refine sR ?_
    refine sT (sH ?_);simp[<-hN]
   .rw[ac e3] at hN;have b3:inZ t.nodes[k].par (-1) ((k:Int)-1)=true:=by simp only[inZ,au];omega
    rw[b3] at jf;obtain⟨tok1,lc,o1,hk,hc⟩:=aAI t ht hM (k+1) k (ef _) hi (fun j hj=>by
     by_cases e:j=k
     .subst e;rw[hnd];omega
     .exact hp j (by omega)) tok nt
    have hal:=nY hM (k+1) k (ef _);have A6:=xN ht (k+1) k (ef _);have pz:=aEc (t:=t) (i:=k);rw[hnd] at pz;have Cn:(jK t k).length<=1000000:=cb hal (by have:(k+1)*1000<=1000*1000:=bm _ (by omega);omega)
    clear hal;generalize jK t k=L at *;have qc:IntKind.i64.wrap ((L.length:Int)-(t.nodes[k].own.length:Nat))=((L.length-t.nodes[k].own.length:Nat):Int):=by rw[aM (by omega) (by omega)];omega
    have hz:=pT L t.nodes[k].own.length (L.length-t.nodes[k].own.length) (by omega);unfold aNG at hN;obtain⟨f,hf⟩:∃f,vQ L t.nodes[k].own.length=f:=⟨_,rfl⟩
    have Cp:∀j,(hk:j<L.length)->L.length-t.nodes[k].own.length<=j->f j=wP L[j] (L.take j):=fun j hk hge=>by
     rw[<-hf,vQ,ac (by omega),aFo hk]
    rw[hf] at hN hz;repeat first|simp[hi,oj]|refine sR ?_
    refine sD (jf _ _) ?_;repeat first|simp[hi]|refine sR ?_|apply sC
    refine sD (hc) ?_;simp;have jd:=hk Ht;by_cases e5:4<t.nodes[k].own.length
    .have w8:(4:Int)<t.nodes[k].own.length:=by omega
     rw[af e5] at hN;repeat first|simp[hi,e5,w8]|refine sR ?_
     apply sC;simp[e5,w8];repeat first|simp|refine sR ?_
     refine sT (sG Hb Ht jd.old jd.le ?_);simp[<-hN]
    .have w8:¬(4:Int)<t.nodes[k].own.length:=by omega
     rw[ac e5] at hN;by_cases e6:8<L.length
     .have w9:(8:Int)<L.length:=by omega
      rw[af e6] at hN;repeat first|simp[hi,e5,w8,e6,w9]|refine sR ?_
      apply sC;simp[e6,w9];repeat first|simp|refine sR ?_
      refine sT (sG Hb Ht jd.old jd.le ?_);simp[<-hN]
     .have w9:¬(8:Int)<L.length:=by omega
      rw[ac e6] at hN;repeat first|simp[hi,e5,w8,e6,w9]|refine sR ?_
      apply sC;simp[e6,w9];repeat first|simp[hi,qc]|refine sR ?_
      have Cq:L.length-t.nodes[k].own.length<=L.length:=Nat.sub_le _ _
      generalize L.length-t.nodes[k].own.length=a at *;apply sN;refine sL (aM6 L nb box tok1 lc) (fun k=>a<=k/\k<=L.length/\aA f k=0) (fun k=>L.length-k) a ⟨nr0 _,by omega,hz⟩ (wM (by have:=jd.le;omega) rfl (by simp[ToL,lk,To.data]) trivial) ?_;rintro k S' ⟨Cr,lq,ia⟩ hS;simp only[aM6] at hS;subst hS;have hw:=sW (i:=k) (by omega);repeat first|simp|refine sR ?_|apply sC
      refine⟨fun hlt=>?_,fun hge=>?_⟩
      .have hA:=Cp k hlt Cr;have hR:f k≠0->aA f L.length=f k:=fun h0=>aL ia h0 L.length hlt
       have hnx:f k=0->aA f (k+1)=0:=fun h0=>by simp only[aA,ia,h0,↓reduceIte]
       generalize f k=E at *;rw[aG7] at hA;have rp:=A6 _ (aa hlt);have hn:=jA L[k].name (cb rp.n (by decide));have xz:=zN L[k] rp;repeat first|simp[hlt,aB0 hlt]|refine sR ?_
       refine sD (hn _ _) ?_;simp;cases f1:cO L[k].name
       .rw[f1,af rfl] at hA;repeat first|simp|refine sR ?_
        apply sC;repeat first|simp|refine sR ?_
        refine sT (sG Hb Ht jd.old jd.le ?_);simp[<-hN,hR (by omega),hA]
       .rw[f1,ac (by simp)] at hA;repeat first|simp|refine sR ?_
        apply sC;repeat first|simp|refine sR ?_
        apply sN;refine sL (aMK L k nb box tok1 lc) (fun j=>j<=k/\xM (L.take j) L[k].name=false) (fun j=>k-j) 0 ⟨ai _,rfl⟩ (wM (by have:=jd.le;omega) rfl (by simp[ToL,lk]) trivial) ?_;rintro j S' ⟨hj,BQ⟩ hS;simp only[aMK] at hS;subst hS;have v6:=sW (i:=j) (by omega);repeat first|simp|refine sR ?_|apply sC
        refine⟨fun qz=>?_,fun hgj=>?_⟩
        .have xb:j<L.length:=by omega
         by_cases f2:L[j].name=L[k].name
         .have b2:(L[j].name.toList==L[k].name.toList)=true:=by rw[cX];simp[f2]
          rw[af (aGy xb qz f2)] at hA;repeat first|simp[hlt,xb,b2]|refine sR ?_
          apply sC;simp[b2];repeat first|simp|refine sR ?_
          refine sT (sG Hb Ht jd.old jd.le ?_);simp[<-hN,hR (by omega),hA]
         .have b2:(L[j].name.toList==L[k].name.toList)=false:=by rw[cX];simp[f2]
          repeat first|simp[hlt,xb,b2]|refine sR ?_
          apply sC;simp[b2];repeat first|simp[v6]|refine sR ?_
          apply sE;exact⟨j+1,⟨qz,aE5 xb BQ f2⟩,by omega,wM (by have:=jd.le;omega) rfl (by simp[ToL,lk]) trivial⟩
        .apply sX;simp only[AU,↓reduceIte];have:j=k:=by omega
         subst this;rw[BQ,ac (by simp)] at hA;rw[<-hA] at xz;repeat first|simp[hlt,aB0 hlt]|refine sR ?_
         refine sD (xz _ _) ?_;repeat first|simp|refine sR ?_
         by_cases e7:E=0
         .apply sC;simp[e7];repeat first|simp[hw]|refine sR ?_
          apply sE;exact⟨j+1,⟨by omega,hlt,hnx e7⟩,by omega,wM (by have:=jd.le;omega) rfl (by simp[ToL,lk]) trivial⟩
         .have b7:(E != 0)=true:=by simp[e7]
          apply sC;simp[e7,b7];repeat first|simp|refine sR ?_
          refine sT (sG Hb Ht jd.old jd.le ?_);simp[<-hN,hR e7]
      .apply sX;simp only[AU,↓reduceIte];repeat first|simp|refine sR ?_
       have:k=L.length:=by omega
       subst this;refine sT (sG Hb Ht jd.old jd.le ?_);simp[<-hN,ia]
instance:Inhabited ET:=⟨⟨eB,0,0,0,0,0,0⟩⟩
def Ty.ed(t:Ty)(i:Nat):ET:=t.edges.getD i default
theorem xG{t:Ty}{i:Nat}(h:i<t.edges.length):t.ed i=t.edges[i]:=by simp[Ty.ed,h]
def aD3(l:List ET)(s:ByteArray):Bool:=bB (fun y=>decide (y.name=s)) l
theorem aDL{l:List ET}{s:ByteArray}:aD3 l s=true↔∃x∈l,x.name=s:=by simp[aD3,bB]
theorem aHw{l:List ET}{i:Nat}{s:ByteArray}(hi:i<l.length)(h:aD3 (l.take i) s=false)(hne:l[i].name≠s):aD3 (l.take (i+1)) s=false:=by
 rw[<-Bool.not_eq_true,aDL] at h ⊢;rintro⟨x,hx,he⟩;rw[ah hi,ap,a7] at hx;rcases hx with hx|hx
 .exact h ⟨x,hx,he⟩
 .exact hne (by rw[<-hx];exact he)
theorem aHL{l:List ET}{k i:Nat}{s:ByteArray}(hk:k<l.length)(za:k<i)(he:l[k].name=s):aD3 (l.take i) s=true :=
 aDL.2 ⟨l[k],by rw[cc];exact⟨k,by omega,rfl⟩,he⟩
def edR(t:Ty)(x:ET):Int:=if gF t x.fr=false then 6 else if gF t x.to=false then 6 else if kL x.ol x.oh=false then 6 else if kL x.il x.ih=false then 6 else 0
def gG(t:Ty)(i:Nat):Int :=
 if cO (t.ed i).name=false then 2 else if aD3 (t.edges.take i) (t.ed i).name=true then 5 else edR t (t.ed i)
set_option maxRecDepth 100000 in
theorem aNm(t:Ty)(ht:t.Fit)(i:Nat)(hi:i<t.edges.length):DC 183 [t.av,I i] (I (gG t i)):=by
 intro tok nt box nb;have hnd:=xG hi;have jg:=aa hi;have wz:=ht.e;have h1:=nI (t.ed i).name (by rw[hnd];exact cb (ht.en _ jg) (by decide));obtain⟨N,hN⟩:∃N,gG t i=N:=⟨_,rfl⟩
 rw[hN];unfold gG at hN;rw[hnd] at h1 hN;cases e1:cO t.edges[i].name
 .rw[e1] at h1 hN;rw[af rfl] at hN;refine sI func183 ntmps183 fun Hb Ht=>?_
  repeat first|simp[hi]|refine sR ?_
  refine sD (h1 _ _) ?_;repeat first|simp|refine sR ?_
  apply sC;repeat first|simp|refine sR ?_
  refine sT (sH ?_);simp[<-hN]
 .rw[e1] at h1 hN;rw[ac (by simp)] at hN;unfold aD3 at hN;obtain⟨p,pm⟩:∃p:ET->Bool,(fun y=>decide (y.name=t.edges[i].name))=p:=⟨_,rfl⟩
  have h2:=fun y box nb k (oz:box k=some [(t.edges[i]'hi).row])=>aKy (t.edges[i]'hi) y box nb k tok nt oz
  have t7:∀y:ET,decide (y.name=t.edges[i].name)=p y:=fun y=>by rw[<-pm]
  simp only[t7] at h2;rw[pm] at hN;refine sI func183 ntmps183 fun Hb Ht=>?_
  repeat first|simp[hi]|refine sR ?_
  refine sD (h1 _ _) ?_;repeat first|simp[hi]|refine sR ?_|apply sC
  try refine⟨by omega,?_⟩
  have nv:=fun (b:Bxs) nb' h3 h4=>tB (t.edges.take i) 241 [.ptr (nb+5) 0 0] p (by simp;have:=ht.e;omega) b nb' tok nt h3 h4
  rw[show ets (t.edges.take i)=.sl 7 (List.take i (t.edges.map ET.cells)) by rw[ets,List.map_take]] at nv;refine aN.of_b (nv _ _ (fun c hc=>by rw[a7.1 hc];simp[aQ]) (fun y hy box' nb' he=>h2 y box' nb' _ (he _ _ (by simp[aQ])))) ?_;simp;cases e2:bB p (t.edges.take i)
  .rw[e2,ac (by simp)] at hN;unfold edR at hN;have b1:=aA2 t.edges[i].ol t.edges[i].oh;have b2:=aA2 t.edges[i].il t.edges[i].ih;apply sC;repeat first|simp|refine sR ?_
   refine aN.of_b (aGq t t.edges[i].fr _ _ (nb+2) _ _ (by simp[aQ])) ?_;simp;cases g1:gF t t.edges[i].fr
   .rw[g1,af rfl] at hN;repeat first|simp|refine sR ?_
    apply sC;repeat first|simp|refine sR ?_
    apply sC;repeat first|simp|refine sR ?_
    refine sT (sH ?_);simp[<-hN]
   .rw[g1,ac (by simp)] at hN;repeat first|simp|refine sR ?_
    refine aN.of_b (aGq t t.edges[i].to _ _ (nb+2) _ _ (by simp[aQ])) ?_;simp;cases g2:gF t t.edges[i].to
    .rw[g2,af rfl] at hN;repeat first|simp|refine sR ?_
     apply sC;repeat first|simp|refine sR ?_
     apply sC;repeat first|simp|refine sR ?_
     refine sT (sH ?_);simp[<-hN]
    .rw[g2,ac (by simp)] at hN;repeat first|simp|refine sR ?_
     apply sC;repeat first|simp|refine sR ?_
     refine sD (b1 _ _) ?_;simp;cases g3:kL t.edges[i].ol t.edges[i].oh
     .rw[g3,af rfl] at hN;repeat first|simp|refine sR ?_
      apply sC;repeat first|simp|refine sR ?_
      refine sT (sH ?_);simp[<-hN]
     .rw[g3,ac (by simp)] at hN;repeat first|simp|refine sR ?_
      refine sD (b2 _ _) ?_;simp;cases g4:kL t.edges[i].il t.edges[i].ih
      .rw[g4,af rfl] at hN;repeat first|simp|refine sR ?_
       apply sC;repeat first|simp|refine sR ?_
       refine sT (sH ?_);simp[<-hN]
      .rw[g4,ac (by simp)] at hN;repeat first|simp|refine sR ?_
       apply sC;repeat first|simp|refine sR ?_
       refine sT (sH ?_);simp[<-hN]
  .rw[e2,af rfl] at hN;apply sC;repeat first|simp|refine sR ?_
   refine sT (sH ?_);simp[<-hN]
theorem xx:True:=trivial
def aQi(t:Ty)(i:Nat)(x:ET)(nb:Nat)(box:Bxs)(tok:Tks)(nt:Nat)(k:Nat):AS:=⟨tl [(6,I k),(5,.ptr (nb+5) 0 0),(2,.ptr (nb+2) 0 0),(1,I i)],lb nb box [(5,[x.row]),(2,[[.d (nts t.nodes),.d (ets t.edges)]])],tok,nt⟩
theorem aH2(t:Ty)(ht:t.Fit)(i:Nat)(hi:i<t.edges.length):DC 129 [t.av,I i] (I (gG t i)):=by
 intro tok nt box nb;have hnd:=xG hi;have jg:=aa hi;have wz:=ht.e;have qo:=ht.n;have h1:=jA (t.ed i).name (by rw[hnd];exact cb (ht.en _ jg) (by decide));obtain⟨N,hN⟩:∃N,gG t i=N:=⟨_,rfl⟩
 rw[hN];unfold gG at hN;rw[hnd] at h1 hN;have i1:=kF t.edges[i].fr 0 ((t.nodes.length:Int)-1);have i2:=kF t.edges[i].to 0 ((t.nodes.length:Int)-1);have b1:=aAE t.edges[i].ol t.edges[i].oh;have b2:=aAE t.edges[i].il t.edges[i].ih;have zj:∀n:Int,inZ n 0 ((t.nodes.length:Int)-1)=gF t n:=fun n=>by simp only[inZ,gF];congr 1;simp only[eq_iff_iff];omega
 rw[zj] at i1 i2;have qc:IntKind.i64.wrap ((t.nodes.length:Int)-1)=(t.nodes.length:Int)-1:=by rw[aM (by omega) (by omega)]
 cases e1:cO t.edges[i].name
 .rw[e1] at h1 hN;rw[af rfl] at hN;refine sI func129 ntmps129 fun Hb Ht=>?_
  repeat first|simp[hi]|refine sR ?_
  refine sD (h1 _ _) ?_;repeat first|simp|refine sR ?_
  apply sC;repeat first|simp|refine sR ?_
  refine sT (sH ?_);simp[<-hN]
 .rw[e1] at h1 hN;rw[ac (by simp)] at hN;refine sI func129 ntmps129 fun Hb Ht=>?_
  repeat first|simp[hi]|refine sR ?_
  refine sD (h1 _ _) ?_;repeat first|simp|refine sR ?_
  apply sC;repeat first|simp|refine sR ?_
  apply sN;refine sL (aQi t i t.edges[i] nb box tok nt) (fun k=>k<=i/\aD3 (t.edges.take k) t.edges[i].name=false) (fun k=>i-k) 0 ⟨ai _,rfl⟩ wkA ?_;rintro k S' ⟨hk,hm⟩ hS;simp only[aQi] at hS;subst hS;have oi:=sW (i:=k) (by omega);repeat first|simp|refine sR ?_|apply sC
  refine⟨fun ll=>?_,fun hge=>?_⟩
  .have lq:k<t.edges.length:=by omega
   by_cases e2:t.edges[k].name=t.edges[i].name
   .have b2:(t.edges[k].name.toList==t.edges[i].name.toList)=true:=by rw[cX];simp[e2]
    rw[af (aHL lq ll e2)] at hN;repeat first|simp[hi,lq,b2]|refine sR ?_
    apply sC;simp[b2];repeat first|simp|refine sR ?_
    refine sT (sH ?_);simp[<-hN]
   .have b2:(t.edges[k].name.toList==t.edges[i].name.toList)=false:=by rw[cX];simp[e2]
    repeat first|simp[hi,lq,b2]|refine sR ?_
    apply sC;simp[b2];repeat first|simp[oi]|refine sR ?_
    apply sE;exact⟨k+1,⟨ll,aHw lq hm e2⟩,by omega,wkA⟩
  .apply sX;simp only[AU,↓reduceIte];have:k=i:=by omega
   subst this;rw[hm,ac (by simp)] at hN;unfold edR at hN;repeat first|simp[hi,qc]|refine sR ?_
   refine sD (i1 _ _) ?_;simp;cases g1:gF t t.edges[k].fr
   .rw[g1,af rfl] at hN;repeat first|simp|refine sR ?_
    apply sC;repeat first|simp|refine sR ?_
    refine sT (sH ?_);simp[<-hN]
   .rw[g1,ac (by simp)] at hN;repeat first|simp|refine sR ?_
    refine sD (i2 _ _) ?_;simp;cases g2:gF t t.edges[k].to
    .rw[g2,af rfl] at hN;repeat first|simp|refine sR ?_
     apply sC;repeat first|simp|refine sR ?_
     refine sT (sH ?_);simp[<-hN]
    .rw[g2,ac (by simp)] at hN;repeat first|simp|refine sR ?_
     refine sD (b1 _ _) ?_;simp;cases g3:kL t.edges[k].ol t.edges[k].oh
     .rw[g3,af rfl] at hN;repeat first|simp|refine sR ?_
      apply sC;repeat first|simp|refine sR ?_
      refine sT (sH ?_);simp[<-hN]
     .rw[g3,ac (by simp)] at hN;repeat first|simp|refine sR ?_
      refine sD (b2 _ _) ?_;simp;cases g4:kL t.edges[k].il t.edges[k].ih
      .rw[g4,af rfl] at hN;repeat first|simp|refine sR ?_
       apply sC;repeat first|simp|refine sR ?_
       refine sT (sH ?_);simp[<-hN]
      .rw[g4,ac (by simp)] at hN;repeat first|simp|refine sR ?_
       apply sC;repeat first|simp|refine sR ?_
       refine sT (sH ?_);simp[<-hN]
end Go.AM
