/-
 Parts of the proof, as merged from many texts: a machine over data, what the functions compute, plain laws.
-/
import Derived.Test.YtchfmhhbiealcaaGreatDoorPIA8
set_option linter.unusedSimpArgs false
set_option linter.unusedVariables false
namespace Go.AM
open Go Go.Proofs
open Go.Proofs.Tryz
theorem aK1(n:Int):DC 229 [I n] (B false):=by
 intro tok nt box nb;refine sI func229 ntmps229 fun Hb Ht=>?_
 repeat first|simp|refine sR ?_
 refine sT (sH Hb Ht ?_);simp
theorem aIY(n:Int):DC 177 [I n] (B false):=by
 intro tok nt box nb;refine sI func177 ntmps177 fun Hb Ht=>?_
 repeat first|simp|refine sR ?_
 refine sT (sH Hb Ht ?_);simp
theorem aME(m n:Int):DC 176 [I m,I n] (B (decide (m<n))):=by
 intro tok nt box nb;have h:=aK1;refine sI func176 ntmps176 fun Hb Ht=>?_
 repeat first|simp|refine sR ?_
 refine sD (h _ _ _) ?_;repeat first|simp|refine sR ?_
 refine sT (sH Hb Ht ?_);simp
def aIL(l:List Int)(v:Int):Nat:=l.findIdx fun x=>decide (v<=x)
theorem aEL{l:List Int}{v:Int}{i:Nat}(hi:i<=l.length)(h1:∀t,t<i->l.getD t 0<v)(h2:∀t,i<=t->t<l.length->v<=l.getD t 0):aIL l v=i:=by
 unfold aIL;have gd:∀t (h:t<l.length),l.getD t 0=l[t]:=fun t h=>by simp[h]
 by_cases h:i<l.length
 .rw[List.findIdx_eq h];refine⟨?_,fun j hj=>?_⟩
  .have:=h2 i (nr0 _) h
   rw[gd i h] at this;simpa using this
  .have:=h1 j hj
   rw[gd j (by omega)] at this;simpa using this
 .have:i=l.length:=by omega
  subst this;rw[List.findIdx_eq_length];intro x hx;obtain⟨t,ht,rfl⟩:=List.getElem_of_mem hx;have:=h1 t ht
  rw[gd t ht] at this;simpa using this
theorem kW{l:List Int}{v:Int}(hs:∀j i,i<j->j<l.length->l.getD i 0<l.getD j 0)(hm:v∈l):(aIL l v:Int)=aU l v:=by
 obtain⟨i1,i2,i3⟩:=eZ hm;obtain⟨k,hk⟩:∃k:Nat,aU l v=k:=⟨(aU l v).toNat,by omega⟩
 rw[hk] at i1 i2 i3 ⊢;rw[Int.toNat_natCast] at i3;rw[aEL (i:=k) (by omega) (fun t ht=>by rw[<-i3];exact hs k t ht (by omega)) fun t h1 h2=>by
  rw[<-i3];by_cases e:t=k
  .subst e;omega
  .have:=hs t k (by omega) h2;omega]
structure aRE where
 i:Nat
 j:Nat
def aP9(l:List Int)(v:Int)(nb:Nat)(box:Bxs)(tok:Tks)(nt:Nat)(a:aRE):AS:=⟨tl [(8,I a.j),(7,I a.i),(6,I l.length),(5,B false),(4,I 0),(0,.d (ints l)),(1,I v)],lb nb box [],tok,nt⟩
theorem wP(l:List Int)(v:Int)(hl:l.length<=1000000)(hs:∀j i,i<j->j<l.length->l.getD i 0<l.getD j 0):DC 116 [.d (ints l),I v] (.tup [I (aIL l v),B (decide (v∈l))]):=by
 intro tok nt box nb;refine sI func116 ntmps116 fun Hb Ht=>?_
 repeat first|simp|refine sR ?_
 refine sN ?_;refine sL (aP9 l v nb box tok nt) (fun a=>a.i<=a.j/\a.j<=l.length/\(∀t,t<a.i->l.getD t 0<v)/\∀t,a.j<=t->t<l.length->v<=l.getD t 0) (fun a=>a.j-a.i) ⟨0,l.length⟩ ⟨Nat.zero_le _,nr0 _,fun t ht=>absurd ht (Nat.not_lt_zero _),fun t h1 h2=>absurd h2 (by simp only at h1;omega)⟩ (wM (nr0 _) rfl (by simp[ToL,lk]) trivial) ?_;rintro⟨i,j⟩ S ⟨hij,hj,h1,h2⟩ hS;simp only[aP9] at hS hij hj h1 h2;subst hS;repeat first|simp|refine sR ?_|refine sC ?_
 refine⟨fun hlt=>?_,fun hge=>?_⟩
 .obtain⟨q,hq⟩:∃q,i+j=q:=⟨_,rfl⟩
  obtain⟨h,hh⟩:∃h,q / 2=h:=⟨_,rfl⟩
  have w1:IntKind.i64.wrap (↑i+↑j)=(q:Int):=by rw[aM (by omega) (by omega)];omega
  have w2:IntKind.u64.wrap (q:Int)=q:=u64_in (by omega) (by omega)
  have w3:(q:Int).fdiv (2 ^ min 1 IntKind.u64.bits)=(h:Int):=by
   have e:(2:Int) ^ min 1 IntKind.u64.bits=2:=by decide
   rw[e,Int.fdiv_eq_ediv_of_nonneg _ (by omega)];omega
  have w4:IntKind.i64.wrap (h:Int)=h:=aM (by omega) (by omega)
  have w5:IntKind.i64.wrap ((h:Int)+1)=((h+1:Nat):Int):=by rw[aM (by omega) (by omega)];rfl
  have hhl:h<l.length:=by omega
  have hgh:l.getD h 0=l[h]:=by simp[hhl]
  have hls:=aME l[h] v;repeat first|simp[w1,w2,w3,w4,hhl]|refine sR ?_
  refine sD (hls _ _) ?_;simp;by_cases hv:l[h]<v
  .simp only[hv];refine sC ?_;simp;repeat first|simp[w5]|refine sR ?_
   refine sE ?_;refine⟨⟨h+1,j⟩,⟨by simp only;omega,hj,fun t ht=>?_,h2⟩,by simp only;omega,wM (nr0 _) rfl (by simp[ToL,lk]) trivial⟩;simp only at ht;rw[<-List.getD_eq_getElem?_getD];by_cases e:t=h
   .rw[e,hgh];exact hv
   .have:=hs h t (by omega) hhl
    rw[hgh] at this;omega
  .simp only[hv];refine sC ?_;repeat first|simp|refine sR ?_
   refine sE ?_;refine⟨⟨i,h⟩,⟨by simp only;omega,by simp only;omega,h1,fun t ht htl=>?_⟩,by simp only;omega,wM (nr0 _) rfl (by simp[ToL,lk]) trivial⟩;simp only at ht;rw[<-List.getD_eq_getElem?_getD];by_cases e:t=h
   .rw[e,hgh];omega
   .have:=hs t h (by omega) htl
    rw[hgh] at this;omega
 .refine sX ?_;simp only[AU,↓reduceIte];have hij2:i=j:=by omega
  subst hij2;have hlow:aIL l v=i:=aEL hj h1 h2
  have hmem:i<l.length->l.getD i 0=v->v∈l:=fun h3 h4=>by rw[<-h4];exact aR h3
  have hin:v∈l->i<l.length/\l.getD i 0=v:=fun hm=>by
   obtain⟨t,ht,e⟩:=eH hm;have a1:¬t<i:=fun h3=>by have:=h1 t h3;omega
   have a2:¬i<t:=fun h3=>by
    have:=hs t i h3 ht
    have:=h2 i (nr0 _) (by omega)
    omega
   have:t=i:=by omega
   subst this;exact⟨ht,e⟩
  by_cases h3:i<l.length
  .have hg:l.getD i 0=l[i]:=by simp[h3]
   rw[hg] at hmem hin;by_cases h4:l[i]=v
   .have hm:=hmem h3 h4;have hb:(l[i]==v)=true:=by simp[h4]
    repeat first|simp[h3,hb]|refine sR ?_
    refine sT (sH Hb Ht ?_);simp[hlow,hm]
   .have hm:v∉l:=fun h=>h4 (hin h).2
    have hb:(l[i]==v)=false:=by simp[h4]
    repeat first|simp[h3,hb]|refine sR ?_
    refine sD (aIY _ _ _) ?_;repeat first|simp|refine sR ?_
    refine sT (sH Hb Ht ?_);simp[hlow,hm]
  .have hm:v∉l:=fun h=>h3 (hin h).1
   repeat first|simp[h3]|refine sR ?_
   refine sT (sH Hb Ht ?_);simp[hlow,hm]
def aNE(l:List Int)(n:Int)(nb:Nat)(box:Bxs)(tok:Tks)(nt:Nat)(i:Nat):AS:=⟨tl [(9,I i),(8,I l.length),(7,.d (ints l)),(4,I 0),(0,.d (ints l)),(1,I n)],lb nb box [],tok,nt⟩
theorem aI1(l:List Int)(n:Int)(hl:l.length<=1000000):DC 227 [.d (ints l),I n] (I (jT l n)):=by
 intro tok nt box nb;refine sI func227 ntmps227 fun Hb Ht=>?_
 repeat first|simp|refine sR ?_
 refine sN ?_;refine sL (aNE l n nb box tok nt) (fun i=>i<=l.length/\aA (jJ l n) i=0) (fun i=>l.length-i) 0 ⟨Nat.zero_le _,rfl⟩ (wM (nr0 _) rfl (by simp[ToL,lk]) trivial) ?_;rintro i S ⟨hi,hok⟩ hS;simp only[aNE] at hS;subst hS;have hw:=sW (i:=i) (by omega);have hR:i<l.length->jJ l n i≠0->jT l n=jJ l n i:=fun hlt h0=>aL hok h0 l.length hlt
 repeat first|simp|refine sR ?_|refine sC ?_
 refine⟨fun hlt=>?_,fun hge=>?_⟩
 .have hg:l.getD i 0=l[i]:=by simp[hlt]
  have hR:=hR hlt;have hA:jJ l n i=if l[i]<0∨n<=l[i] then 6 else if 0<i/\l[i]<=l.getD (i-1) 0 then 12 else 0:=by rw[jJ,hg]
  by_cases hneg:l[i]<0
  .repeat first|simp[hneg,hlt]|refine sR ?_
   refine sC ?_;repeat first|simp|refine sR ?_
   rw[hA,if_pos (.inl hneg)] at hR;have hR:=hR (by decide);refine sT (sH Hb Ht ?_);simp[hR]
  .by_cases hbig:n<=l[i]
   .repeat first|simp[hneg,hlt,hbig]|refine sR ?_
    refine sC ?_;repeat first|simp|refine sR ?_
    rw[hA,if_pos (.inr hbig)] at hR;have hR:=hR (by decide);refine sT (sH Hb Ht ?_);simp[hR]
   .rw[if_neg (by omega)] at hA;repeat (first|simp[hneg,hlt,hbig]|refine sR ?_)
    refine sC ?_
    repeat (first|simp[hneg,hlt,hbig]|refine sR ?_)
    by_cases h0:0<i
    .have hw':IntKind.i64.wrap (↑i-1)=((i-1:Nat):Int):=by rw[aM (by omega) (by omega)];omega
     have hlt':i-1<l.length:=by omega
     have hg':l.getD (i-1) 0=l[i-1]:=by simp[hlt']
     rw[hg'] at hA;repeat first|simp[hlt,h0,hw',hlt']|refine sR ?_
     by_cases hle:l[i]<=l[i-1]
     .rw[if_pos ⟨h0,hle⟩] at hA;rw[hA] at hR;have hR:=hR (by decide);simp only[hle];refine sC ?_;repeat first|simp|refine sR ?_
      refine sT (sH Hb Ht ?_);simp[hR]
     .rw[if_neg (by omega)] at hA;simp only[hle];refine sC ?_;simp;repeat first|simp[hw]|refine sR ?_
      refine sE ?_;exact⟨i+1,⟨hlt,by simp only[aA,hok,hA,↓reduceIte]⟩,by omega,wM (nr0 _) rfl (by simp[ToL,lk]) trivial⟩
    .rw[if_neg (by omega)] at hA;repeat first|simp[hlt,h0]|refine sR ?_
     refine sC ?_;simp;repeat first|simp[hw]|refine sR ?_
     refine sE ?_;exact⟨i+1,⟨hlt,by simp only[aA,hok,hA,↓reduceIte]⟩,by omega,wM (nr0 _) rfl (by simp[ToL,lk]) trivial⟩
 .refine sX ?_;simp only[AU,↓reduceIte];repeat first|simp|refine sR ?_
  have:i=l.length:=by omega
  subst this;refine sT (sH Hb Ht ?_);simp[jT,hok]
theorem aOy(l:List Int)(v:Int)(hl:l.length<=1000000)(hs:∀j i,i<j->j<l.length->l.getD i 0<l.getD j 0):DC 228 [.d (ints l),I v] (B (decide (v∈l))):=by
 intro tok nt box nb;have h:=wP l v hl hs;refine sI func228 ntmps228 fun Hb Ht=>?_
 repeat first|simp|refine sR ?_
 refine sD (h _ _) ?_;repeat first|simp|refine sR ?_
 refine sT (sH Hb Ht ?_);simp
def aOi(g:Gr)(p:Mo)(nb:Nat)(box:Bxs)(tok:Tks)(nt:Nat)(i:Nat):AS :=
 ⟨tl [(30,I i),(29,I p.edges.length),(28,.d (ints p.edges)),(3,.ptr (nb+3) 0 0),(2,.ptr (nb+2) 0 0)],lb nb box [(3,[[.d (ints p.nodes),.d (ints p.edges)]]),(2,[[.d (ints g.nodes),.d (AM.edges g.edges)]])],tok,nt⟩
theorem aMl(g:Gr)(p:Mo)(hg:g.Fit)(hv:vG g=0)(hp:p.Fit):DC 175 [g.av,p.av] (I (eU g p)):=by
 intro tok nt box nb;have h1:=aI1 p.nodes g.nodes.length hp.n;have h2:=aI1 p.edges g.edges.length hp.e;refine sI func175 ntmps175 fun Hb Ht=>?_
 repeat first|simp|refine sR ?_
 refine sD (h1 _ _) ?_;repeat first|simp|refine sR ?_
 by_cases e1:jT p.nodes g.nodes.length=0
 .simp only[e1];refine sC ?_;repeat first|simp|refine sR ?_
  refine sD (h2 _ _) ?_;repeat first|simp|refine sR ?_
  by_cases e2:jT p.edges g.edges.length=0
  .simp only[e2];refine sC ?_;repeat first|simp|refine sR ?_
   refine sN ?_;have re:=uQ e2;refine sL (aOi g p nb box tok nt) (fun i=>i<=p.edges.length/\aA (gH g p) i=0) (fun i=>p.edges.length-i) 0 ⟨Nat.zero_le _,rfl⟩ wkA ?_;rintro i S ⟨hi,hok⟩ hS;simp only[aOi] at hS;subst hS;have hpe:=hp.e;have hw:=sW (i:=i) (by omega);have hR:i<p.edges.length->gH g p i≠0->eU g p=gH g p i:=fun hlt h0=>by
    have:=aL hok h0 p.edges.length hlt
    simp[eU,e1,e2,this]
   repeat first|simp|refine sR ?_|refine sC ?_
   refine⟨fun hlt=>?_,fun hge=>?_⟩
   .have hR:=hR hlt;obtain⟨r1,r2⟩:=re _ (List.getElem_mem hlt);have r3:p.edges[i].toNat<g.edges.length:=by omega
    have hD:gH g p i=if g.edges[p.edges[i].toNat].fr∈p.nodes/\g.edges[p.edges[i].toNat].to∈p.nodes then 0 else 14:=by
     have q1:p.edges.getD i 0=p.edges[i]:=by simp[hlt]
     have q2:g.edges.getD p.edges[i].toNat default=g.edges[p.edges[i].toNat]:=by simp[r3]
     rw[gH,q1,q2]
    have hh:=fun v=>aOy p.nodes v hp.n (aBD e1)
    repeat first|simp[hlt,r1,r2,r3]|refine sR ?_
    refine sD (hh _ _ _) ?_;simp;by_cases h1:g.edges[p.edges[i].toNat].fr∈p.nodes
    .simp only[h1];repeat first|simp[hlt,r1,r2,r3]|refine sR ?_
     refine sD (hh _ _ _) ?_;simp;by_cases h2:g.edges[p.edges[i].toNat].to∈p.nodes
     .rw[if_pos ⟨h1,h2⟩] at hD;simp only[h2];repeat first|simp[hw]|refine sR ?_|refine sC ?_
      refine sE ?_;exact⟨i+1,⟨hlt,by simp only[aA,hok,hD,↓reduceIte]⟩,by omega,wkA⟩
     .rw[if_neg (fun h=>h2 h.2)] at hD;rw[hD] at hR;have hR:=hR (by decide);simp only[h2];repeat first|simp|refine sR ?_
      refine sC ?_;repeat first|simp|refine sR ?_
      refine sT (sH Hb Ht ?_);simp[hR]
    .rw[if_neg (fun h=>h1 h.1)] at hD;rw[hD] at hR;have hR:=hR (by decide);simp only[h1];repeat first|simp|refine sR ?_
     refine sC ?_;repeat first|simp|refine sR ?_
     refine sT (sH Hb Ht ?_);simp[hR]
   .refine sX ?_;simp only[AU,↓reduceIte];repeat first|simp|refine sR ?_
    have:i=p.edges.length:=by omega
    subst this;refine sT (sH Hb Ht ?_);simp[eU,e1,e2,hok]
  .have b2:(jT p.edges g.edges.length != 0)=true:=by simp[e2]
   simp only[b2];refine sC ?_;repeat first|simp|refine sR ?_
   refine sT (sH Hb Ht ?_);simp[eU,e1,e2]
 .have b1:(jT p.nodes g.nodes.length != 0)=true:=by simp[e1]
  simp only[b1];refine sC ?_;repeat first|simp|refine sR ?_
  refine sT (sH Hb Ht ?_);simp[eU,e1]
theorem qT(g:Gr)(p:Mo)(hg:g.Fit)(hp:p.Fit):DC 115 [g.av,p.av] (I (cR g p)):=by
 intro tok nt box nb;have h1:=bU g hg;have h2:=fun h=>aMl g p hg h hp
 refine sI func115 ntmps115 fun Hb Ht=>?_
 repeat first|simp|refine sR ?_
 refine sD (h1 _ _) ?_;repeat first|simp|refine sR ?_
 by_cases e1:vG g=0
 .simp only[e1];refine sC ?_;repeat first|simp|refine sR ?_
  refine sD (h2 e1 _ _) ?_;repeat first|simp|refine sR ?_
  refine sT (sH Hb Ht ?_);simp[cR,e1]
 .have b1:(vG g != 0)=true:=by simp[e1]
  simp only[b1];refine sC ?_;repeat first|simp|refine sR ?_
  refine sT (sH Hb Ht ?_);simp[cR,e1]
def aFO(g:Gr)(p:Mo)(nb:Nat)(box:Bxs)(x:Acc):AS :=
 ⟨tl [(25,I x.i),(24,I p.nodes.length),(23,.d (ints p.nodes)),(8,.ptr (nb+8) 0 0),(5,.ptr (nb+5) 0 0),(4,.ptr (nb+4) 0 0),(3,.ptr (nb+3) 0 0),(2,.ptr (nb+2) 0 0)],
  lb nb box [(8,[[.osl 1 (rI (iT g p x.i)) x.own,.osl 0 [] .full]]),(3,[[.d (ints p.nodes),.d (ints p.edges)]]),(2,[[.d (ints g.nodes),.d (AM.edges g.edges)]]),(5,[[cQ,cQ]]),(4,[[cQ,cQ]])],x.tok,x.nt⟩
def aLn(g:Gr)(p:Mo)(own1:Own)(nb:Nat)(box:Bxs)(x:Acc):AS :=
 ⟨tl [(43,I x.i),(42,I p.edges.length),(41,.d (ints p.edges)),(8,.ptr (nb+8) 0 0),(5,.ptr (nb+5) 0 0),(4,.ptr (nb+4) 0 0),(3,.ptr (nb+3) 0 0),(2,.ptr (nb+2) 0 0)],
  lb nb box [(8,[[.d (ints (iT g p p.nodes.length)),.osl 3 (rE (kR g p x.i)) x.own]]),(3,[[.d (ints p.nodes),.d (ints p.edges)]]),(2,[[.d (ints g.nodes),.d (AM.edges g.edges)]]),(5,[[cQ,cQ]]),(4,[[cQ,cQ]])],x.tok,x.nt⟩
theorem aDZ(g:Gr)(p:Mo)(hg:g.Fit)(hp:p.Fit)(h:VP g p):DC 69 [g.av,p.av] (.tup [(exG g p).av,p.av,I 0]):=by
 intro tok nt box nb;have h1:=qT g p hg hp;rw[h.v] at h1;refine sI func69 ntmps69 fun Hb Ht=>?_
 repeat first|simp|refine sR ?_
 refine sD (h1 _ _) ?_;repeat first|simp|refine sR ?_
 refine sC ?_;repeat first|simp|refine sR ?_
 refine sN ?_;have hpn:=hp.n;have hpe:=hp.e;refine sL (aFO g p nb box) (fun x=>x.i<=p.nodes.length/\TK tok nt x.tok x.nt [x.own]) (fun x=>p.nodes.length-x.i) ⟨0,.full,tok,nt⟩ ⟨Nat.zero_le _,(TK.start Ht).full⟩ (wM (nr0 _) rfl (by simp[ToL,lk]) (by simp[aC,lk,lJ])) ?_;rintro⟨i,own,tok',nt'⟩ S ⟨hi,htk⟩ hS;simp only[aFO] at hS hi htk;subst hS;have hw:=sW (i:=i) (by omega);repeat first|simp|refine sR ?_|refine sC ?_
 refine⟨fun hlt=>?_,fun hge=>?_⟩
 .obtain⟨r1,r2⟩:=h.n _ (List.getElem_mem hlt);have r3:p.nodes[i].toNat<g.nodes.length:=by omega
  repeat first|simp[hlt,r1,r2,r3]|refine sR ?_
  refine⟨⟨by have:=oG g p i;omega,htk.live⟩,?_⟩;repeat first|simp[hw]|refine sR ?_
  refine sE ?_;exact⟨⟨i+1,_,_,_⟩,⟨hlt,htk.app⟩,by simp only;omega,wM htk.app.le rfl (by simp[ToL,lk]) (by simp[aC,lk,kV g p hlt,r3])⟩
 .refine sX ?_;simp only[AU,↓reduceIte];have:i=p.nodes.length:=by omega
  subst this;repeat first|simp|refine sR ?_
  refine sN ?_;refine sL (aLn g p own nb box) (fun x=>x.i<=p.edges.length/\TK tok nt x.tok x.nt [x.own]) (fun x=>p.edges.length-x.i) ⟨0,.full,tok',nt'⟩ ⟨Nat.zero_le _,htk.tail.full⟩ (wM htk.le rfl (by simp[ToL,lk]) (by simp[aC,lk,lB])) ?_;rintro⟨i,own2,tok2,nt2⟩ S ⟨hi,htk2⟩ hS;simp only[aLn] at hS hi htk2;subst hS;have hw:=sW (i:=i) (by omega);have hh:=fun v=>wP p.nodes v hp.n h.sn
  repeat first|simp|refine sR ?_|refine sC ?_
  refine⟨fun hlt=>?_,fun hge=>?_⟩
  .obtain⟨r1,r2⟩:=h.e _ (List.getElem_mem hlt);have r3:p.edges[i].toNat<g.edges.length:=by omega
   have hE:qL g p p.edges[i]=⟨g.edges[p.edges[i].toNat].ty,aU p.nodes g.edges[p.edges[i].toNat].fr,aU p.nodes g.edges[p.edges[i].toNat].to⟩:=by
    have q2:g.edges.getD p.edges[i].toNat default=g.edges[p.edges[i].toNat]:=by simp[r3]
    rw[qL,q2]
   have hsucc:=lD g p hlt;rw[hE] at hsucc;have hcc:=h.c _ (List.getElem_mem hlt);have q3:g.edges.getD p.edges[i].toNat default=g.edges[p.edges[i].toNat]:=by simp[r3]
   rw[q3] at hcc;have hh1:=hh g.edges[p.edges[i].toNat].fr;have hh2:=hh g.edges[p.edges[i].toNat].to;rw[kW h.sn hcc.1] at hh1;rw[kW h.sn hcc.2] at hh2;refine sR ?_;simp[hlt];refine sR ?_;simp[r1,r2,r3];generalize g.edges[p.edges[i].toNat]=x at *;repeat first|simp|refine sR ?_
   refine sD (hh1 _ _) ?_;repeat first|simp|refine sR ?_
   refine sD (hh2 _ _) ?_;repeat first|simp|refine sR ?_
   refine⟨⟨by have:=nV g p i;omega,htk2.live⟩,?_⟩;repeat first|simp[hw]|refine sR ?_
   refine sE ?_;exact⟨⟨i+1,_,_,_⟩,⟨hlt,htk2.app⟩,by simp only;omega,wM htk2.app.le rfl (by simp[ToL,lk]) (by simp[aC,lk,hsucc])⟩
  .refine sX ?_;simp only[AU,↓reduceIte];have:i=p.edges.length:=by omega
   subst this;have c1:=gI p.nodes hp.n;have c2:=gI p.edges hp.e;repeat first|simp|refine sR ?_
   refine sD (c1 _ _) ?_;repeat first|simp|refine sR ?_
   refine sD (c2 _ _) ?_;simp;have htk3:=htk2.full.app.full.app;repeat first|simp|refine sR ?_
   refine sT (sG Hb Ht htk3.old htk3.le ?_);simp[aAR]
structure At where
 name:ByteArray
 lo:Int
 hi:Int
 names:List ByteArray
structure NT where
 name:ByteArray
 par:Int
 abs:Bool
 own:List At
structure ET where
 name:ByteArray
 fr:Int
 to:Int
 ol:Int
 oh:Int
 il:Int
 ih:Int
structure Ty where
 nodes:List NT
 edges:List ET
abbrev At.cells(a:At):List D:=[.raw (.string a.name),.raw (.int .i64 a.lo),.raw (.int .i64 a.hi),lH a.names]
abbrev qZ(l:List At):D:=.sl 4 (l.map At.cells)
abbrev NT.cells(n:NT):List D:=[.raw (.string n.name),.raw (.int .i64 n.par),.raw (.bool n.abs),qZ n.own]
abbrev ET.cells(e:ET):List D:=[.raw (.string e.name),.raw (.int .i64 e.fr),.raw (.int .i64 e.to),.raw (.int .i64 e.ol),.raw (.int .i64 e.oh),.raw (.int .i64 e.il),.raw (.int .i64 e.ih)]
abbrev nts(l:List NT):D:=.sl 4 (l.map NT.cells)
abbrev ets(l:List ET):D:=.sl 7 (l.map ET.cells)
abbrev Ty.av(t:Ty):AV:=.agg [.d (nts t.nodes),.d (ets t.edges)]
instance:Inhabited ByteArray:=⟨⟨#[]⟩⟩
abbrev eB:ByteArray:=⟨#[]⟩
def iK(l:List ByteArray)(i:Nat):Int:=if cM (l.getD i eB)=false then 2 else if oQ (l.take i) (l.getD i eB)=true then 5 else 0
def nG(l:List ByteArray):Int:=if 20<l.length then 3 else aA (iK l) l.length
structure aHK (l:List ByteArray):Prop where
 n:l.length<=1000000
 s:∀x∈l,x.size<=1000000000000
theorem aGl(l:List ByteArray)(i:Nat):lH (l.take i)=.sl 1 (List.take i (l.map fun s=>[D.raw (.string s)])):=by rw[lH,List.map_take]
theorem aGn{l:List ByteArray}{i:Nat}{v:ByteArray}(hi:i<l.length)(h:oQ (l.take i) v=false)(hne:v≠l[i]):oQ (l.take (i+1)) v=false:=by
 rw[<-Bool.not_eq_true,rN] at h ⊢;rw[List.take_succ_eq_append_getElem hi,List.mem_append,List.mem_singleton];exact fun h2=>h2.elim h hne
theorem aId{l:List ByteArray}{k i:Nat}(hk:k<l.length)(hki:k<i):oQ (l.take i) l[k]=true:=rN.2 (by rw[List.mem_take_iff_getElem];exact⟨k,by omega,rfl⟩)
def aLy(l:List ByteArray)(nb:Nat)(box:Bxs)(tok:Tks)(nt:Nat)(i:Nat):AS:=⟨tl [(3,I i),(0,.d (lH l))],lb nb box [],tok,nt⟩
def aMi(l:List ByteArray)(i:Nat)(nb:Nat)(box:Bxs)(tok:Tks)(nt:Nat)(k:Nat):AS:=⟨tl [(4,I k),(3,I i),(0,.d (lH l))],lb nb box [],tok,nt⟩
def aPd(l:List ByteArray)(nb:Nat)(box:Bxs)(tok:Tks)(nt:Nat)(i:Nat):AS:=⟨tl [(10,I i),(9,I l.length),(8,.d (lH l)),(0,.d (lH l))],lb nb box [],tok,nt⟩
theorem aJB(l:List ByteArray)(hl:aHK l):DC 282 [.d (lH l)] (I (nG l)):=by
 intro tok nt box nb;have hln:=hl.n;by_cases h20:20<l.length
 .have h20':(20:Int)<l.length:=by omega
  rw[show nG l=3 from if_pos h20];refine sI func282 ntmps282 fun Hb Ht=>?_
  repeat first|simp[h20']|refine sR ?_
  refine sC ?_;repeat first|simp|refine sR ?_
  refine sT (sH Hb Ht ?_);simp
 .have h20':¬(20:Int)<l.length:=by omega
  have hE:nG l=aA (iK l) l.length:=if_neg h20
  refine sI func282 ntmps282 fun Hb Ht=>?_
  repeat first|simp[h20']|refine sR ?_
  refine sC ?_;repeat first|simp|refine sR ?_
  refine sN ?_;refine sL (aPd l nb box tok nt) (fun i=>i<=l.length/\aA (iK l) i=0) (fun i=>l.length-i) 0 ⟨Nat.zero_le _,rfl⟩ (wM (nr0 _) rfl (by simp[ToL,lk]) trivial) ?_;rintro i S' ⟨hi,hok⟩ hS;simp only[aPd] at hS;subst hS;have hw:=sW (i:=i) (by omega);have hR:i<l.length->iK l i≠0->aA (iK l) l.length=iK l i:=fun hlt h0=>aL hok h0 l.length hlt
  repeat first|simp|refine sR ?_|refine sC ?_
  refine⟨fun hlt=>?_,fun hge=>?_⟩
  .have hg:l.getD i eB=l[i]:=by simp[hlt]
   have hA:iK l i=if cM l[i]=false then 2 else if oQ (l.take i) l[i]=true then 5 else 0:=by rw[iK,hg]
   have hn:=nM l[i] (Nat.le_trans (hl.s _ (List.getElem_mem hlt)) (by decide));have hc:=tR (l.take i) l[i] (by simp;omega);have hR:=hR hlt;repeat first|simp[hlt,aEV hlt]|refine sR ?_
   refine sD (hn _ _) ?_;simp;cases e1:cM l[i]
   .rw[e1,if_pos rfl] at hA;rw[hA] at hR;have hR:=hR (by decide);repeat first|simp|refine sR ?_
    refine sC ?_;repeat first|simp|refine sR ?_
    refine sT (sH Hb Ht ?_);simp[hE,hR]
   .rw[e1,if_neg (by simp)] at hA;repeat first|simp|refine sR ?_
    refine sC ?_;repeat first|simp|refine sR ?_
    refine⟨by omega,?_⟩;rw[aGl] at hc;refine sD (hc _ _) ?_;simp;cases e2:oQ (l.take i) l[i]
    .rw[e2,if_neg (by simp)] at hA;repeat first|simp[hw]|refine sR ?_|refine sC ?_
     refine sE ?_;exact⟨i+1,⟨hlt,by simp only[aA,hok,hA,↓reduceIte]⟩,by omega,wM (nr0 _) rfl (by simp[ToL,lk]) trivial⟩
    .rw[e2,if_pos rfl] at hA;rw[hA] at hR;have hR:=hR (by decide);repeat first|simp|refine sR ?_
     refine sC ?_;repeat first|simp|refine sR ?_
     refine sT (sH Hb Ht ?_);simp[hE,hR]
  .refine sX ?_;simp only[AU,↓reduceIte];repeat first|simp|refine sR ?_
   have:i=l.length:=by omega
   subst this;refine sT (sH Hb Ht ?_);simp[hE,hok]
theorem aGh(l:List ByteArray)(hl:aHK l):DC 253 [.d (lH l)] (I (nG l)):=by
 intro tok nt box nb;have hln:=hl.n;by_cases h20:20<l.length
 .have h20':(20:Int)<l.length:=by omega
  rw[show nG l=3 from if_pos h20];refine sI func253 ntmps253 fun Hb Ht=>?_
  repeat first|simp[h20']|refine sR ?_
  refine sC ?_;repeat first|simp|refine sR ?_
  refine sT (sH Hb Ht ?_);simp
 .have h20':¬(20:Int)<l.length:=by omega
  have hE:nG l=aA (iK l) l.length:=if_neg h20
  refine sI func253 ntmps253 fun Hb Ht=>?_
  repeat first|simp[h20']|refine sR ?_
  refine sC ?_;repeat first|simp|refine sR ?_
  refine sN ?_;refine sL (aLy l nb box tok nt) (fun i=>i<=l.length/\aA (iK l) i=0) (fun i=>l.length-i) 0 ⟨Nat.zero_le _,rfl⟩ (wM (nr0 _) rfl (by simp[ToL,lk]) trivial) ?_;rintro i S' ⟨hi,hok⟩ hS;simp only[aLy] at hS;subst hS;have hw:=sW (i:=i) (by omega);have hR:i<l.length->iK l i≠0->aA (iK l) l.length=iK l i:=fun hlt h0=>aL hok h0 l.length hlt
  repeat first|simp|refine sR ?_|refine sC ?_
  refine⟨fun hlt=>?_,fun hge=>?_⟩
  .have hg:l.getD i eB=l[i]:=by simp[hlt]
   have hA:iK l i=if cM l[i]=false then 2 else if oQ (l.take i) l[i]=true then 5 else 0:=by rw[iK,hg]
   have hn:=iM l[i] (Nat.le_trans (hl.s _ (List.getElem_mem hlt)) (by decide));have hR:=hR hlt;repeat first|simp[hlt,aEV hlt]|refine sR ?_
   refine sD (hn _ _) ?_;simp;cases e1:cM l[i]
   .rw[e1,if_pos rfl] at hA;rw[hA] at hR;have hR:=hR (by decide);repeat first|simp|refine sR ?_
    refine sC ?_;repeat first|simp|refine sR ?_
    refine sT (sH Hb Ht ?_);simp[hE,hR]
   .rw[e1,if_neg (by simp)] at hA;repeat first|simp|refine sR ?_
    refine sC ?_;repeat first|simp|refine sR ?_
    refine sN ?_;refine sL (aMi l i nb box tok nt) (fun k=>k<=i/\oQ (l.take k) l[i]=false) (fun k=>i-k) 0 ⟨Nat.zero_le _,rfl⟩ (wM (nr0 _) rfl (by simp[ToL,lk]) trivial) ?_;rintro k S' ⟨hk,hm⟩ hS;simp only[aMi] at hS;subst hS;have hwk:=sW (i:=k) (by omega);repeat first|simp|refine sR ?_|refine sC ?_
    refine⟨fun hlk=>?_,fun hge=>?_⟩
    .have hkl:k<l.length:=by omega
     by_cases e2:l[k]=l[i]
     .have b2:(l[k].toList==l[i].toList)=true:=by rw[cV];simp[e2]
      have hmm:=aId hkl hlk;rw[e2] at hmm;rw[if_pos hmm] at hA;rw[hA] at hR;have hR:=hR (by decide);repeat first|simp[hlt,hkl,b2]|refine sR ?_
      refine sC ?_;repeat first|simp|refine sR ?_
      refine sT (sH Hb Ht ?_);simp[hE,hR]
     .have b2:(l[k].toList==l[i].toList)=false:=by rw[cV];simp[e2]
      repeat first|simp[hlt,hkl,b2]|refine sR ?_
      refine sC ?_;simp;repeat first|simp[hwk]|refine sR ?_
      refine sE ?_;exact⟨k+1,⟨hlk,aGn hkl hm fun h=>e2 h.symm⟩,by omega,wM (nr0 _) rfl (by simp[ToL,lk]) trivial⟩
    .refine sX ?_;simp only[AU,↓reduceIte];have:k=i:=by omega
     subst this;rw[if_neg (by simp[hm])] at hA;repeat first|simp[hw]|refine sR ?_
     refine sE ?_;exact⟨k+1,⟨hlt,by simp only[aA,hok,hA,↓reduceIte]⟩,by omega,wM (nr0 _) rfl (by simp[ToL,lk]) trivial⟩
  .refine sX ?_;simp only[AU,↓reduceIte];repeat first|simp|refine sR ?_
   have:i=l.length:=by omega
   subst this;refine sT (sH Hb Ht ?_);simp[hE,hok]
abbrev At.av(a:At):AV:=.agg [Sb a.name,I a.lo,I a.hi,.d (lH a.names)]
abbrev NT.av(n:NT):AV:=.agg [Sb n.name,I n.par,B n.abs,.d (qZ n.own)]
abbrev ET.av(e:ET):AV:=.agg [Sb e.name,I e.fr,I e.to,I e.ol,I e.oh,I e.il,I e.ih]
theorem kM{α:Type}{p:α->Bool}{xs:List α}{i:Nat}(h:i<xs.length)(h1:∀x∈xs.take i,p x=false)(h2:p xs[i]=true):bB p xs=true/\xs.findIdx p=i:=by
 refine⟨List.any_eq_true.2 ⟨_,List.getElem_mem h,h2⟩,?_⟩;rw[List.findIdx_eq h];refine⟨h2,fun j hj=>?_⟩;have:=h1 xs[j] (by
  rw[List.mem_take_iff_getElem];exact⟨j,by omega,rfl⟩)
 simpa using this
def aPk(xs:List At)(f:FuncId)(caps:List AV)(nb:Nat)(box:Bxs)(tok:Tks)(nt:Nat)(i:Nat):AS:=⟨tl [(0,.d (qZ xs)),(1,.fn (.func f) caps),(7,I xs.length),(8,I i)],lb nb box [],tok,nt⟩
theorem aBo(xs:List At)(f:FuncId)(caps:List AV)(p:At->Bool)(hx:xs.length<=1000000)(box:Bxs)(nb:Nat)(tok:Tks)(nt:Nat)(hc:∀c∈caps,bF (fun k=>box k≠none) (fun _=>True) c)(hf:∀x∈xs,∀box' nb',Ext box box'->aD prog f (x.av::caps) ⟨box',nb',tok,nt⟩ fun v m=>v=B (p x)/\m=⟨box',nb',tok,nt⟩):
  aD prog 313 [.d (qZ xs),.fn (.func f) caps] ⟨box,nb,tok,nt⟩ fun v m=>v=I (if bB p xs=true then (xs.findIdx p:Nat) else -1)/\m=⟨box,nb,tok,nt⟩:=by
 refine sI func313 ntmps313 fun Hb Ht=>?_
 repeat first|simp|refine sR ?_
 refine sN ?_;refine sL (aPk xs f caps nb box tok nt) (fun i=>i<=xs.length/\∀x∈xs.take i,p x=false) (fun i=>xs.length-i) 0 ⟨Nat.zero_le _,by simp⟩ (wM (nr0 _) rfl (by simp[ToL];exact .same (lC hc Hb [] (by simp) rfl _)) trivial) ?_;rintro i S' ⟨hi,htk⟩ hS;simp only[aPk] at hS;subst hS;have hw:=sW (i:=i) (by omega);repeat first|simp|refine sR ?_|refine sC ?_
 refine⟨fun hlt=>?_,fun hge=>?_⟩
 .have hfx:=hf xs[i] (List.getElem_mem _);have hpx:p xs[i]=true->bB p xs=true/\(xs.findIdx p=i):=fun he=>kM hlt htk he
  have hmore:p xs[i]=false->∀x∈xs.take (i+1),p x=false:=fun he x hx=>by
   rw[List.take_succ_eq_append_getElem hlt] at hx;rcases List.mem_append.1 hx with hx|hx
   .exact htk x hx
   .simp at hx;rw[hx];exact he
  repeat first|simp[hlt]|refine sR ?_
  generalize xs[i]=x at *;refine aN.of_b (hfx _ _ ((Ext.refl box).lb Hb [])) ?_;simp;cases he:p x
  .refine sC ?_;simp;repeat first|simp[hw]|refine sR ?_
   refine sE ?_;refine⟨i+1,⟨hlt,?_⟩,by omega,wM (nr0 _) rfl (by simp[ToL];exact .same (lC hc Hb [] (by simp) rfl _)) trivial⟩;exact hmore he
  .obtain⟨h1,h2⟩:=hpx he;refine sC ?_;repeat first|simp|refine sR ?_
   refine sT (sH Hb Ht ?_);simp[h1,h2]
 .have hn:bB p xs=false:=by
   rw[List.take_of_length_le hge] at htk;simpa[bB] using htk
  refine sX ?_;simp only[AU,↓reduceIte];repeat first|simp|refine sR ?_
  refine sT (sH Hb Ht ?_);simp[hn]
theorem uD(xs:List At)(f:FuncId)(caps:List AV)(p:At->Bool)(hx:xs.length<=1000000)(box:Bxs)(nb:Nat)(tok:Tks)(nt:Nat)(hc:∀c∈caps,bF (fun k=>box k≠none) (fun _=>True) c)(hf:∀x∈xs,∀box' nb',Ext box box'->aD prog f (x.av::caps) ⟨box',nb',tok,nt⟩ fun v m=>v=B (p x)/\m=⟨box',nb',tok,nt⟩):
  aD prog 280 [.d (qZ xs),.fn (.func f) caps] ⟨box,nb,tok,nt⟩ fun v m=>v=B (bB p xs)/\m=⟨box,nb,tok,nt⟩:=by
 obtain⟨A,hany⟩:∃A,bB p xs=A:=⟨_,rfl⟩
 have hi:=fun b nb' h1 h2=>aBo xs f caps p hx b nb' tok nt h1 h2
 rw[hany];simp only[hany] at hi;refine sI func280 ntmps280 fun Hb Ht=>?_
 repeat first|simp|refine sR ?_
 refine aN.of_b (hi (lb nb box []) _ (fun c h=>(hc c h).mono (fun k hk=>by rw[Hb];exact hk) fun _ h=>h) (fun x hx' box' nb' he=>hf x hx' box' nb' (by rw[Hb] at he;exact he))) ?_;simp;cases A
 .repeat first|simp|refine sR ?_
  refine sT (sH Hb Ht ?_);simp
 .have h0:(0:Int)<=(xs.findIdx p:Nat):=by omega
  repeat first|simp|refine sR ?_
  refine sT (sH Hb Ht ?_);simp[h0]
def aPt(xs:List NT)(f:FuncId)(caps:List AV)(nb:Nat)(box:Bxs)(tok:Tks)(nt:Nat)(i:Nat):AS:=⟨tl [(0,.d (nts xs)),(1,.fn (.func f) caps),(7,I xs.length),(8,I i)],lb nb box [],tok,nt⟩
theorem aBn(xs:List NT)(f:FuncId)(caps:List AV)(p:NT->Bool)(hx:xs.length<=1000000)(box:Bxs)(nb:Nat)(tok:Tks)(nt:Nat)(hc:∀c∈caps,bF (fun k=>box k≠none) (fun _=>True) c)(hf:∀x∈xs,∀box' nb',Ext box box'->aD prog f (x.av::caps) ⟨box',nb',tok,nt⟩ fun v m=>v=B (p x)/\m=⟨box',nb',tok,nt⟩):
  aD prog 279 [.d (nts xs),.fn (.func f) caps] ⟨box,nb,tok,nt⟩ fun v m=>v=I (if bB p xs=true then (xs.findIdx p:Nat) else -1)/\m=⟨box,nb,tok,nt⟩:=by
 refine sI func279 ntmps279 fun Hb Ht=>?_
 repeat first|simp|refine sR ?_
 refine sN ?_;refine sL (aPt xs f caps nb box tok nt) (fun i=>i<=xs.length/\∀x∈xs.take i,p x=false) (fun i=>xs.length-i) 0 ⟨Nat.zero_le _,by simp⟩ (wM (nr0 _) rfl (by simp[ToL];exact .same (lC hc Hb [] (by simp) rfl _)) trivial) ?_;rintro i S' ⟨hi,htk⟩ hS;simp only[aPt] at hS;subst hS;have hw:=sW (i:=i) (by omega);repeat first|simp|refine sR ?_|refine sC ?_
 refine⟨fun hlt=>?_,fun hge=>?_⟩
 .have hfx:=hf xs[i] (List.getElem_mem _);have hpx:p xs[i]=true->bB p xs=true/\(xs.findIdx p=i):=fun he=>kM hlt htk he
  have hmore:p xs[i]=false->∀x∈xs.take (i+1),p x=false:=fun he x hx=>by
   rw[List.take_succ_eq_append_getElem hlt] at hx;rcases List.mem_append.1 hx with hx|hx
   .exact htk x hx
   .simp at hx;rw[hx];exact he
  repeat first|simp[hlt]|refine sR ?_
  generalize xs[i]=x at *;refine aN.of_b (hfx _ _ ((Ext.refl box).lb Hb [])) ?_;simp;cases he:p x
  .refine sC ?_;simp;repeat first|simp[hw]|refine sR ?_
   refine sE ?_;refine⟨i+1,⟨hlt,?_⟩,by omega,wM (nr0 _) rfl (by simp[ToL];exact .same (lC hc Hb [] (by simp) rfl _)) trivial⟩;exact hmore he
  .obtain⟨h1,h2⟩:=hpx he;refine sC ?_;repeat first|simp|refine sR ?_
   refine sT (sH Hb Ht ?_);simp[h1,h2]
 .have hn:bB p xs=false:=by
   rw[List.take_of_length_le hge] at htk;simpa[bB] using htk
  refine sX ?_;simp only[AU,↓reduceIte];repeat first|simp|refine sR ?_
  refine sT (sH Hb Ht ?_);simp[hn]
theorem lU(xs:List NT)(f:FuncId)(caps:List AV)(p:NT->Bool)(hx:xs.length<=1000000)(box:Bxs)(nb:Nat)(tok:Tks)(nt:Nat)(hc:∀c∈caps,bF (fun k=>box k≠none) (fun _=>True) c)(hf:∀x∈xs,∀box' nb',Ext box box'->aD prog f (x.av::caps) ⟨box',nb',tok,nt⟩ fun v m=>v=B (p x)/\m=⟨box',nb',tok,nt⟩):
  aD prog 235 [.d (nts xs),.fn (.func f) caps] ⟨box,nb,tok,nt⟩ fun v m=>v=B (bB p xs)/\m=⟨box,nb,tok,nt⟩:=by
 obtain⟨A,hany⟩:∃A,bB p xs=A:=⟨_,rfl⟩
 have hi:=fun b nb' h1 h2=>aBn xs f caps p hx b nb' tok nt h1 h2
 rw[hany];simp only[hany] at hi;refine sI func235 ntmps235 fun Hb Ht=>?_
 repeat first|simp|refine sR ?_
 refine aN.of_b (hi (lb nb box []) _ (fun c h=>(hc c h).mono (fun k hk=>by rw[Hb];exact hk) fun _ h=>h) (fun x hx' box' nb' he=>hf x hx' box' nb' (by rw[Hb] at he;exact he))) ?_;simp;cases A
 .repeat first|simp|refine sR ?_
  refine sT (sH Hb Ht ?_);simp
 .have h0:(0:Int)<=(xs.findIdx p:Nat):=by omega
  repeat first|simp|refine sR ?_
  refine sT (sH Hb Ht ?_);simp[h0]
def aLm(xs:List ET)(f:FuncId)(caps:List AV)(nb:Nat)(box:Bxs)(tok:Tks)(nt:Nat)(i:Nat):AS:=⟨tl [(0,.d (ets xs)),(1,.fn (.func f) caps),(7,I xs.length),(8,I i)],lb nb box [],tok,nt⟩
theorem yN(xs:List ET)(f:FuncId)(caps:List AV)(p:ET->Bool)(hx:xs.length<=1000000)(box:Bxs)(nb:Nat)(tok:Tks)(nt:Nat)(hc:∀c∈caps,bF (fun k=>box k≠none) (fun _=>True) c)(hf:∀x∈xs,∀box' nb',Ext box box'->aD prog f (x.av::caps) ⟨box',nb',tok,nt⟩ fun v m=>v=B (p x)/\m=⟨box',nb',tok,nt⟩):
  aD prog 283 [.d (ets xs),.fn (.func f) caps] ⟨box,nb,tok,nt⟩ fun v m=>v=I (if bB p xs=true then (xs.findIdx p:Nat) else -1)/\m=⟨box,nb,tok,nt⟩:=by
 refine sI func283 ntmps283 fun Hb Ht=>?_
 repeat first|simp|refine sR ?_
 refine sN ?_;refine sL (aLm xs f caps nb box tok nt) (fun i=>i<=xs.length/\∀x∈xs.take i,p x=false) (fun i=>xs.length-i) 0 ⟨Nat.zero_le _,by simp⟩ (wM (nr0 _) rfl (by simp[ToL];exact .same (lC hc Hb [] (by simp) rfl _)) trivial) ?_;rintro i S' ⟨hi,htk⟩ hS;simp only[aLm] at hS;subst hS;have hw:=sW (i:=i) (by omega);repeat first|simp|refine sR ?_|refine sC ?_
 refine⟨fun hlt=>?_,fun hge=>?_⟩
 .have hfx:=hf xs[i] (List.getElem_mem _);have hpx:p xs[i]=true->bB p xs=true/\(xs.findIdx p=i):=fun he=>kM hlt htk he
  have hmore:p xs[i]=false->∀x∈xs.take (i+1),p x=false:=fun he x hx=>by
   rw[List.take_succ_eq_append_getElem hlt] at hx;rcases List.mem_append.1 hx with hx|hx
   .exact htk x hx
   .simp at hx;rw[hx];exact he
  repeat first|simp[hlt]|refine sR ?_
  generalize xs[i]=x at *;refine aN.of_b (hfx _ _ ((Ext.refl box).lb Hb [])) ?_;simp;cases he:p x
  .refine sC ?_;simp;repeat first|simp[hw]|refine sR ?_
   refine sE ?_;refine⟨i+1,⟨hlt,?_⟩,by omega,wM (nr0 _) rfl (by simp[ToL];exact .same (lC hc Hb [] (by simp) rfl _)) trivial⟩;exact hmore he
  .obtain⟨h1,h2⟩:=hpx he;refine sC ?_;repeat first|simp|refine sR ?_
   refine sT (sH Hb Ht ?_);simp[h1,h2]
 .have hn:bB p xs=false:=by
   rw[List.take_of_length_le hge] at htk;simpa[bB] using htk
  refine sX ?_;simp only[AU,↓reduceIte];repeat first|simp|refine sR ?_
  refine sT (sH Hb Ht ?_);simp[hn]
theorem sK(xs:List ET)(f:FuncId)(caps:List AV)(p:ET->Bool)(hx:xs.length<=1000000)(box:Bxs)(nb:Nat)(tok:Tks)(nt:Nat)(hc:∀c∈caps,bF (fun k=>box k≠none) (fun _=>True) c)(hf:∀x∈xs,∀box' nb',Ext box box'->aD prog f (x.av::caps) ⟨box',nb',tok,nt⟩ fun v m=>v=B (p x)/\m=⟨box',nb',tok,nt⟩):
  aD prog 240 [.d (ets xs),.fn (.func f) caps] ⟨box,nb,tok,nt⟩ fun v m=>v=B (bB p xs)/\m=⟨box,nb,tok,nt⟩:=by
 obtain⟨A,hany⟩:∃A,bB p xs=A:=⟨_,rfl⟩
 have hi:=fun b nb' h1 h2=>yN xs f caps p hx b nb' tok nt h1 h2
 rw[hany];simp only[hany] at hi;refine sI func240 ntmps240 fun Hb Ht=>?_
 repeat first|simp|refine sR ?_
 refine aN.of_b (hi (lb nb box []) _ (fun c h=>(hc c h).mono (fun k hk=>by rw[Hb];exact hk) fun _ h=>h) (fun x hx' box' nb' he=>hf x hx' box' nb' (by rw[Hb] at he;exact he))) ?_;simp;cases A
 .repeat first|simp|refine sR ?_
  refine sT (sH Hb Ht ?_);simp
 .have h0:(0:Int)<=(xs.findIdx p:Nat):=by omega
  repeat first|simp|refine sR ?_
  refine sT (sH Hb Ht ?_);simp[h0]
abbrev At.row(a:At):List AV:=[Sb a.name,I a.lo,I a.hi,.d (lH a.names)]
theorem aJW(x y:At)(box:Bxs)(nb k:Nat)(tok:Tks)(nt:Nat)(h1:box k=some [x.row]):
  aD prog 281 [y.av,.ptr k 0 0] ⟨box,nb,tok,nt⟩ fun v m=>v=B (decide (y.name=x.name))/\m=⟨box,nb,tok,nt⟩:=by
 refine sI func281 ntmps281 fun Hb Ht=>?_
 have k1n:=bC Hb h1;rw[<-cV];repeat first|simp[lO k1n,h1]|refine sR ?_
 refine sT (sH Hb Ht ?_);simp
def jP(x:At):Bool:=if x.names.length=0 then decide (-1000000<=x.lo/\x.lo<=x.hi/\x.hi<=1000000) else decide (x.lo=0/\x.hi=(x.names.length:Int)-1)
def wC(x:At)(before:List At):Int:=if cM x.name=false then 2 else if bB (fun y=>decide (y.name=x.name)) before=true then 5 else if nG x.names≠0 then nG x.names else if jP x=true then 0 else 6
structure At.Fit (a:At):Prop where
 n:a.name.size<=1000000000000
 l:aHK a.names
theorem aCQ(x:At)(before:List At)(hx:x.Fit)(hb:before.length<=1000000):DC 238 [x.av,.d (qZ before)] (I (wC x before)):=by
 intro tok nt box nb;have h1:=nM x.name (Nat.le_trans hx.n (by decide));have h3:=aJB x.names hx.l;cases e1:cM x.name
 .rw[e1] at h1;rw[show wC x before=2 by rw[wC,if_pos e1]];refine sI func238 ntmps238 fun Hb Ht=>?_
  repeat first|simp|refine sR ?_
  refine sD (h1 _ _) ?_;repeat first|simp|refine sR ?_
  refine sC ?_;repeat first|simp|refine sR ?_
  refine sT (sH Hb Ht ?_);simp
 .rw[e1] at h1;have hA:wC x before=if bB (fun y=>decide (y.name=x.name)) before=true then 5 else if nG x.names≠0 then nG x.names else if jP x=true then 0 else 6:=by rw[wC,if_neg (by simp[e1])]
  obtain⟨N,hN⟩:∃N,wC x before=N:=⟨_,rfl⟩
  rw[hN] at hA ⊢;obtain⟨p,hp⟩:∃p:At->Bool,(fun y=>decide (y.name=x.name))=p:=⟨_,rfl⟩
  have h2:=fun y box nb k h=>aJW x y box nb k tok nt h
  have hpp:∀y:At,decide (y.name=x.name)=p y:=fun y=>by rw[<-hp]
  simp only[hpp] at h2;rw[hp] at hA;have hcap:∀c∈[AV.ptr (nb+2) 0 0],bF (fun k=>(lb nb box [(2,[x.row])]) k≠none) (fun _=>True) c:=by
   intro c hc;rw[List.mem_singleton.1 hc];simp[aQ]
  refine sI func238 ntmps238 fun Hb Ht=>?_
  repeat first|simp|refine sR ?_
  refine sD (h1 _ _) ?_;repeat first|simp|refine sR ?_
  refine sC ?_;repeat first|simp|refine sR ?_
  refine aN.of_b (uD before 281 [.ptr (nb+2) 0 0] p hb _ _ _ _ hcap (fun y hy box' nb' he=>h2 y box' nb' _ (he _ _ (by simp[aQ])))) ?_;repeat first|simp|refine sR ?_
  cases e2:bB p before
  .rw[e2,if_neg (by simp)] at hA;refine sC ?_;repeat first|simp|refine sR ?_
   refine sD (h3 _ _) ?_;repeat first|simp|refine sR ?_
   by_cases e3:nG x.names=0
   .rw[if_neg (by simp[e3])] at hA;simp only[e3];refine sC ?_;simp;by_cases c1 : -1000000<=x.lo
    .by_cases c2:x.lo<=x.hi
     .by_cases c3:x.hi<=1000000
      .repeat first|simp[c1,c2,c3]|refine sR ?_
       by_cases z:x.names.length=0
       .have z2:¬0<x.names.length:=by omega
        have hr:jP x=true:=by rw[jP,if_pos z];simp only[decide_eq_true_eq,decide_eq_false_iff_not];omega
        rw[hr] at hA;refine sC ?_;simp[z2];repeat first|simp|refine sR ?_
        refine sC ?_;repeat first|simp|refine sR ?_
        refine sT (sH Hb Ht ?_);simp[hA]
       .have z2:0<x.names.length:=by omega
        have hr:jP x=decide (x.lo=0/\x.hi=(x.names.length:Int)-1):=if_neg z
        rw[hr] at hA;have hln:=hx.l.n;have w:IntKind.i64.wrap ((x.names.length:Int)-1)=(x.names.length:Int)-1:=aM (by omega) (by omega)
        by_cases l0:x.lo=0
        .have b0:(x.lo==0)=true:=by simp[l0]
         by_cases h0:x.hi=(x.names.length:Int)-1
         .have b1:(x.hi==(x.names.length:Int)-1)=true:=by simp[h0]
          refine sC ?_;simp[z2];repeat first|simp[w,b0,b1]|refine sR ?_
          refine sC ?_;repeat first|simp|refine sR ?_
          refine sT (sH Hb Ht ?_);simp[hA,l0,h0]
         .have b1:(x.hi==(x.names.length:Int)-1)=false:=by simp[h0]
          refine sC ?_;simp[z2];repeat first|simp[w,b0,b1]|refine sR ?_
          refine sC ?_;repeat first|simp|refine sR ?_
          refine sT (sH Hb Ht ?_);simp[hA,l0,h0]
        .have b0:(x.lo==0)=false:=by simp[l0]
         refine sC ?_;simp[z2];repeat first|simp[w,b0]|refine sR ?_
         refine sC ?_;repeat first|simp|refine sR ?_
         refine sT (sH Hb Ht ?_);simp[hA,l0]
      .repeat first|simp[c1,c2,c3]|refine sR ?_
       by_cases z:x.names.length=0
       .have z2:¬0<x.names.length:=by omega
        have hr:jP x=false:=by rw[jP,if_pos z];simp only[decide_eq_true_eq,decide_eq_false_iff_not];omega
        rw[hr] at hA;refine sC ?_;simp[z2];repeat first|simp|refine sR ?_
        refine sC ?_;repeat first|simp|refine sR ?_
        refine sT (sH Hb Ht ?_);simp[hA]
       .have z2:0<x.names.length:=by omega
        have hr:jP x=decide (x.lo=0/\x.hi=(x.names.length:Int)-1):=if_neg z
        rw[hr] at hA;have hln:=hx.l.n;have w:IntKind.i64.wrap ((x.names.length:Int)-1)=(x.names.length:Int)-1:=aM (by omega) (by omega)
        by_cases l0:x.lo=0
        .have b0:(x.lo==0)=true:=by simp[l0]
         by_cases h0:x.hi=(x.names.length:Int)-1
         .have b1:(x.hi==(x.names.length:Int)-1)=true:=by simp[h0]
          refine sC ?_;simp[z2];repeat first|simp[w,b0,b1]|refine sR ?_
          refine sC ?_;repeat first|simp|refine sR ?_
          refine sT (sH Hb Ht ?_);simp[hA,l0,h0]
         .have b1:(x.hi==(x.names.length:Int)-1)=false:=by simp[h0]
          refine sC ?_;simp[z2];repeat first|simp[w,b0,b1]|refine sR ?_
          refine sC ?_;repeat first|simp|refine sR ?_
          refine sT (sH Hb Ht ?_);simp[hA,l0,h0]
        .have b0:(x.lo==0)=false:=by simp[l0]
         refine sC ?_;simp[z2];repeat first|simp[w,b0]|refine sR ?_
         refine sC ?_;repeat first|simp|refine sR ?_
         refine sT (sH Hb Ht ?_);simp[hA,l0]
     .repeat first|simp[c1,c2]|refine sR ?_
      by_cases z:x.names.length=0
      .have z2:¬0<x.names.length:=by omega
       have hr:jP x=false:=by rw[jP,if_pos z];simp only[decide_eq_true_eq,decide_eq_false_iff_not];omega
       rw[hr] at hA;refine sC ?_;simp[z2];repeat first|simp|refine sR ?_
       refine sC ?_;repeat first|simp|refine sR ?_
       refine sT (sH Hb Ht ?_);simp[hA]
      .have z2:0<x.names.length:=by omega
       have hr:jP x=decide (x.lo=0/\x.hi=(x.names.length:Int)-1):=if_neg z
       rw[hr] at hA;have hln:=hx.l.n;have w:IntKind.i64.wrap ((x.names.length:Int)-1)=(x.names.length:Int)-1:=aM (by omega) (by omega)
       by_cases l0:x.lo=0
       .have b0:(x.lo==0)=true:=by simp[l0]
        by_cases h0:x.hi=(x.names.length:Int)-1
        .have b1:(x.hi==(x.names.length:Int)-1)=true:=by simp[h0]
         refine sC ?_;simp[z2];repeat first|simp[w,b0,b1]|refine sR ?_
         refine sC ?_;repeat first|simp|refine sR ?_
         refine sT (sH Hb Ht ?_);simp[hA,l0,h0]
        .have b1:(x.hi==(x.names.length:Int)-1)=false:=by simp[h0]
         refine sC ?_;simp[z2];repeat first|simp[w,b0,b1]|refine sR ?_
         refine sC ?_;repeat first|simp|refine sR ?_
         refine sT (sH Hb Ht ?_);simp[hA,l0,h0]
       .have b0:(x.lo==0)=false:=by simp[l0]
        refine sC ?_;simp[z2];repeat first|simp[w,b0]|refine sR ?_
        refine sC ?_;repeat first|simp|refine sR ?_
        refine sT (sH Hb Ht ?_);simp[hA,l0]
    .repeat first|simp[c1]|refine sR ?_
     by_cases z:x.names.length=0
     .have z2:¬0<x.names.length:=by omega
      have hr:jP x=false:=by rw[jP,if_pos z];simp only[decide_eq_true_eq,decide_eq_false_iff_not];omega
      rw[hr] at hA;refine sC ?_;simp[z2];repeat first|simp|refine sR ?_
      refine sC ?_;repeat first|simp|refine sR ?_
      refine sT (sH Hb Ht ?_);simp[hA]
     .have z2:0<x.names.length:=by omega
      have hr:jP x=decide (x.lo=0/\x.hi=(x.names.length:Int)-1):=if_neg z
      rw[hr] at hA;have hln:=hx.l.n;have w:IntKind.i64.wrap ((x.names.length:Int)-1)=(x.names.length:Int)-1:=aM (by omega) (by omega)
      by_cases l0:x.lo=0
      .have b0:(x.lo==0)=true:=by simp[l0]
       by_cases h0:x.hi=(x.names.length:Int)-1
       .have b1:(x.hi==(x.names.length:Int)-1)=true:=by simp[h0]
        refine sC ?_;simp[z2];repeat first|simp[w,b0,b1]|refine sR ?_
        refine sC ?_;repeat first|simp|refine sR ?_
        refine sT (sH Hb Ht ?_);simp[hA,l0,h0]
       .have b1:(x.hi==(x.names.length:Int)-1)=false:=by simp[h0]
        refine sC ?_;simp[z2];repeat first|simp[w,b0,b1]|refine sR ?_
        refine sC ?_;repeat first|simp|refine sR ?_
        refine sT (sH Hb Ht ?_);simp[hA,l0,h0]
      .have b0:(x.lo==0)=false:=by simp[l0]
       refine sC ?_;simp[z2];repeat first|simp[w,b0]|refine sR ?_
       refine sC ?_;repeat first|simp|refine sR ?_
       refine sT (sH Hb Ht ?_);simp[hA,l0]
   .rw[if_pos e3] at hA;have b3:(nG x.names != 0)=true:=by simp[e3]
    simp only[b3];refine sC ?_;repeat first|simp|refine sR ?_
    refine sT (sH Hb Ht ?_);simp[hA]
  .rw[e2,if_pos rfl] at hA;refine sC ?_;repeat first|simp|refine sR ?_
   refine sT (sH Hb Ht ?_);simp[hA]
def inZ(n lo hi:Int):Bool:=decide (lo<=n/\n<=hi)
theorem jU(n lo hi:Int):DC 158 [I n,I lo,I hi] (B (inZ n lo hi)):=by
 intro tok nt box nb;by_cases h1:lo<=n
 .by_cases h2:n<=hi
  .refine sI func158 ntmps158 fun Hb Ht=>?_
   repeat first|simp[h1,h2]|refine sR ?_
   refine sT (sH Hb Ht ?_);simp[inZ,h1,h2]
  .refine sI func158 ntmps158 fun Hb Ht=>?_
   repeat first|simp[h1,h2]|refine sR ?_
   refine sT (sH Hb Ht ?_);simp[inZ,h1,h2]
 .refine sI func158 ntmps158 fun Hb Ht=>?_
  repeat first|simp[h1]|refine sR ?_
  refine sT (sH Hb Ht ?_);simp[inZ,h1]
def aKE(x:At):Int:=if nG x.names≠0 then nG x.names else if jP x=true then 0 else 6
theorem yA(x:At)(hx:x.Fit):DC 196 [x.av] (I (aKE x)):=by
 intro tok nt box nb;have h3:=aGh x.names hx.l;have i1:=jU x.lo (-1000000) 1000000;have i2:=jU x.hi x.lo 1000000;obtain⟨N,hN⟩:∃N,aKE x=N:=⟨_,rfl⟩
 rw[hN];unfold aKE at hN;by_cases z:x.names.length=0
 .have z0:nG x.names=0:=by
   have:x.names=[]:=List.length_eq_zero_iff.1 z
   rw[this];rfl
  rw[if_neg (by simp[z0])] at hN;have hr:jP x=decide (-1000000<=x.lo/\x.lo<=x.hi/\x.hi<=1000000):=by rw[jP,if_pos z]
  have zl:x.names=[]:=List.length_eq_zero_iff.1 z
  cases e1:inZ x.lo (-1000000) 1000000
  .have r1:jP x=false:=by
    rw[hr];simp only[inZ,decide_eq_false_iff_not] at e1 ⊢;omega
   rw[r1] at hN;rw[e1] at i1;refine sI func196 ntmps196 fun Hb Ht=>?_
   repeat first|simp[z,zl]|refine sR ?_|refine sC ?_
   refine sD (i1 _ _) ?_;repeat first|simp|refine sR ?_
   refine sC ?_;repeat first|simp|refine sR ?_
   refine sT (sH Hb Ht ?_);simp[<-hN]
  .cases e2:inZ x.hi x.lo 1000000
   .have r1:jP x=false:=by
     rw[hr];simp only[inZ,decide_eq_false_iff_not,decide_eq_true_eq] at e1 e2 ⊢;omega
    rw[r1] at hN;rw[e1] at i1;rw[e2] at i2;refine sI func196 ntmps196 fun Hb Ht=>?_
    repeat first|simp[z,zl]|refine sR ?_|refine sC ?_
    refine sD (i1 _ _) ?_;repeat first|simp|refine sR ?_
    refine sD (i2 _ _) ?_;repeat first|simp|refine sR ?_
    refine sC ?_;repeat first|simp|refine sR ?_
    refine sT (sH Hb Ht ?_);simp[<-hN]
   .have r1:jP x=true:=by
     rw[hr];simp only[inZ,decide_eq_true_eq] at e1 e2 ⊢;omega
    rw[r1] at hN;rw[e1] at i1;rw[e2] at i2;refine sI func196 ntmps196 fun Hb Ht=>?_
    repeat first|simp[z,zl]|refine sR ?_|refine sC ?_
    refine sD (i1 _ _) ?_;repeat first|simp|refine sR ?_
    refine sD (i2 _ _) ?_;repeat first|simp|refine sR ?_
    refine sC ?_;repeat first|simp|refine sR ?_
    refine sT (sH Hb Ht ?_);simp[<-hN]
 .have zl:¬x.names=[]:=fun h=>z (by rw[h];rfl)
  have hr:jP x=decide (x.lo=0/\x.hi=(x.names.length:Int)-1):=if_neg z
  rw[hr] at hN;have hln:=hx.l.n;have w:IntKind.i64.wrap ((x.names.length:Int)-1)=(x.names.length:Int)-1:=aM (by omega) (by omega)
  refine sI func196 ntmps196 fun Hb Ht=>?_
  repeat first|simp[z,zl]|refine sR ?_|refine sC ?_
  refine sD (h3 _ _) ?_;repeat first|simp|refine sR ?_
  by_cases e3:nG x.names=0
  .rw[if_neg (by simp[e3])] at hN;simp only[e3];refine sC ?_;simp;by_cases l0:x.lo=0
   .have b0:(x.lo != 0)=false:=by simp[l0]
    by_cases h0:x.hi=(x.names.length:Int)-1
    .have b1:(x.hi != (x.names.length:Int)-1)=false:=by simp[h0]
     repeat first|simp[w,b0,b1]|refine sR ?_
     refine sC ?_;repeat first|simp|refine sR ?_
     refine sT (sH Hb Ht ?_);simp[<-hN,l0,h0]
    .have b1:(x.hi != (x.names.length:Int)-1)=true:=by simp[h0]
     repeat first|simp[w,b0,b1]|refine sR ?_
     refine sC ?_;repeat first|simp|refine sR ?_
     refine sT (sH Hb Ht ?_);simp[<-hN,l0,h0]
   .have b0:(x.lo != 0)=true:=by simp[l0]
    repeat first|simp[w,b0]|refine sR ?_
    refine sC ?_;repeat first|simp|refine sR ?_
    refine sT (sH Hb Ht ?_);simp[<-hN,l0]
  .rw[if_pos e3] at hN;have b3:(nG x.names != 0)=true:=by simp[e3]
   simp only[b3];refine sC ?_;repeat first|simp|refine sR ?_
   refine sT (sH Hb Ht ?_);simp[<-hN]
instance:Inhabited NT:=⟨⟨eB,0,false,[]⟩⟩
def Ty.nd(t:Ty)(i:Nat):NT:=t.nodes.getD i default
def iY(t:Ty)(i:Nat):List At:=if h:0<=(t.nd i).par/\(t.nd i).par.toNat<i then iY t (t.nd i).par.toNat++(t.nd i).own else (t.nd i).own
termination_by i
decreasing_by exact h.2
theorem aBA{t:Ty}{i:Nat}(h:0<=(t.nd i).par)(h2:(t.nd i).par.toNat<i):iY t i=iY t (t.nd i).par.toNat++(t.nd i).own:=by rw[iY,dif_pos ⟨h,h2⟩]
theorem aCx{t:Ty}{i:Nat}(h:¬0<=(t.nd i).par):iY t i=(t.nd i).own:=by rw[iY,dif_neg fun h2=>h h2.1]
theorem nE{t:Ty}{M:Nat}(hM:∀i,(t.nd i).own.length<=M):∀n i,i<n->(iY t i).length<=(i+1)*M
 | 0,i,hi=>absurd hi (Nat.not_lt_zero _)
 | n+1,i,hi=>by
  have hm:=hM i;by_cases h:0<=(t.nd i).par/\(t.nd i).par.toNat<i
  .have ih:=nE hM n (t.nd i).par.toNat (by omega);rw[aBA h.1 h.2,List.length_append];have:((t.nd i).par.toNat+1)*M<=i*M:=Nat.mul_le_mul_right _ (by omega)
   rw[Nat.add_mul,Nat.one_mul];omega
  .rw[iY,dif_neg h];have:M<=(i+1)*M:=Nat.le_mul_of_pos_left _ (by omega)
   omega
structure Ty.Fit (t:Ty):Prop where
 n:t.nodes.length<=1000
 e:t.edges.length<=1000
 nn:∀x∈t.nodes,x.name.size<=1000000000000
 en:∀x∈t.edges,x.name.size<=1000000000000
 a:∀x∈t.nodes,x.own.length<=1000/\∀y∈x.own,y.Fit
theorem iE{t:Ty}{i:Nat}(h:i<t.nodes.length):t.nd i=t.nodes[i]:=by simp[Ty.nd,h]
theorem aFm(t:Ty)(ht:t.Fit)(hM:∀i,(t.nd i).own.length<=1000):∀(n i:Nat),i<n->i<t.nodes.length->(∀j,j<=i->(t.nd j).par<j)->∀(tok:Tks) (nt:Nat),∃tok' nt' o,((∀q,tok q=true->q<nt)->TK tok nt tok' nt' [o]) /\
  dI prog 237 [t.av,I i] tok nt (.osl 4 ((iY t i).map At.cells) o) tok' nt'
 | 0,i,hi,_,_,_,_=>absurd hi (Nat.not_lt_zero _)
 | n+1,i,hi,hlt,hp,tok,nt=>by
  have hnd:=iE hlt;by_cases h0:0<=(t.nd i).par
  .have hpi:=hp i (nr0 _);obtain⟨tok1,nt1,o1,hk,hc⟩:=aFm t ht hM n (t.nd i).par.toNat (by omega) (by omega) (fun j hj=>hp j (by omega)) tok nt;have hL:=aBA h0 (by omega);have hl1:=nE hM (i+1) (t.nd i).par.toNat (by omega);have hl2:=hM i;have hb:((t.nd i).par.toNat+1)*1000<=1000*1000:=Nat.mul_le_mul_right _ (by have:=ht.n;omega)
   refine⟨_,_,.tok nt1,fun h=>(hk h).app,?_⟩;rw[hL];rw[Int.toNat_of_nonneg h0] at hc;generalize iY t (t.nd i).par.toNat=Q at *;rw[hnd] at h0 hc hl2 ⊢;intro box nb;have hc:=hc;refine sI func237 ntmps237 fun Hb Ht=>?_
   have hkk:=hk Ht;repeat first|simp[hlt]|refine sR ?_
   refine sC ?_;simp[h0];repeat first|simp|refine sR ?_
   refine sD (hc) ?_;simp;repeat first|simp[hlt]|refine sR ?_
   refine⟨⟨by omega,hkk.live⟩,?_⟩;refine sN ?_;refine AL.ret ?_;try simp only[AU]
   refine⟨by simp,Fin.own (by simp[aP,bI];rfl) Hb rfl hkk.app.le ?_⟩;simp
  .have hL:=aCx h0;have hl2:=hM i;refine⟨_,_,.tok nt,fun h=>(TK.start h).full.app,?_⟩;rw[hL];rw[hnd] at h0 hl2 ⊢;intro box nb;refine sI func237 ntmps237 fun Hb Ht=>?_
   have hkk:=(TK.start Ht).full;repeat first|simp[hlt]|refine sR ?_
   refine sC ?_;simp[h0];repeat first|simp[hlt]|refine sR ?_
   refine⟨by omega,?_⟩;refine sN ?_;refine AL.ret ?_;try simp only[AU]
   refine⟨by simp,Fin.own (by simp[aP,bI];rfl) Hb rfl (by simp) ?_⟩;simp
theorem aEx(t:Ty)(a:Int)(h:a<0):DC 195 [t.av,I a] (.osl 0 [] .full):=by
 intro tok nt box nb;refine sI func195 ntmps195 fun Hb Ht=>?_
 repeat first|simp[h]|refine sR ?_|refine sC ?_
 refine sT (sH Hb Ht ?_);simp
theorem aAd(t:Ty)(ht:t.Fit)(hM:∀i,(t.nd i).own.length<=1000):∀(n i:Nat),i<n->i<t.nodes.length->(∀j,j<=i->(t.nd j).par<j)->∀(tok:Tks) (nt:Nat),∃tok' nt' o,((∀q,tok q=true->q<nt)->TK tok nt tok' nt' [o]) /\
  dI prog 195 [t.av,I i] tok nt (.osl 4 ((iY t i).map At.cells) o) tok' nt'
 | 0,i,hi,_,_,_,_=>absurd hi (Nat.not_lt_zero _)
 | n+1,i,hi,hlt,hp,tok,nt=>by
  have hnd:=iE hlt;have hi0:¬(i:Int)<0:=by omega
  by_cases h0:0<=(t.nd i).par
  .have hpi:=hp i (nr0 _);obtain⟨tok1,nt1,o1,hk,hc⟩:=aAd t ht hM n (t.nd i).par.toNat (by omega) (by omega) (fun j hj=>hp j (by omega)) tok nt;have hL:=aBA h0 (by omega);have hl1:=nE hM (i+1) (t.nd i).par.toNat (by omega);have hl2:=hM i;have hb:((t.nd i).par.toNat+1)*1000<=1000*1000:=Nat.mul_le_mul_right _ (by have:=ht.n;omega)
   refine⟨_,_,.tok (nt1+1),fun h=>(hk h).tail.full.app.app,?_⟩;rw[hL];rw[Int.toNat_of_nonneg h0] at hc;generalize iY t (t.nd i).par.toNat=Q at *;rw[hnd] at h0 hc hl2 ⊢;intro box nb;refine sI func195 ntmps195 fun Hb Ht=>?_
   have hkk:=hk Ht;repeat first|simp[hi0]|refine sR ?_
   refine sC ?_;simp[hi0];repeat first|simp[hlt]|refine sR ?_
   refine sD (hc) ?_;simp;repeat first|simp[hlt]|refine sR ?_
   first|refine⟨by omega,⟨by omega,uS _ _ _⟩,?_⟩|refine⟨⟨by omega,uS _ _ _⟩,?_⟩|refine⟨by omega,uS _ _ _,?_⟩|trace_state
   refine sN ?_;refine AL.ret ?_;try simp only[AU]
   refine⟨by simp,Fin.own (by simp[aP,bI];rfl) Hb rfl hkk.tail.full.app.app.le ?_⟩;simp
  .have hL:=aCx h0;have hl2:=hM i;have hc:=aEx t (t.nd i).par (by omega) tok nt;refine⟨_,_,.tok (nt+1),fun h=>(TK.start h).full.app.app,?_⟩;rw[hL];rw[hnd] at h0 hc hl2 ⊢;intro box nb;refine sI func195 ntmps195 fun Hb Ht=>?_
   have hkk:=(TK.start Ht).full;repeat first|simp[hi0]|refine sR ?_
   refine sC ?_;simp[hi0];repeat first|simp[hlt]|refine sR ?_
   refine sD (hc) ?_;simp;repeat first|simp[hlt]|refine sR ?_
   first|refine⟨by omega,⟨by omega,uS _ _ _⟩,?_⟩|refine⟨⟨by omega,uS _ _ _⟩,?_⟩|refine⟨by omega,uS _ _ _,?_⟩|trace_state
   refine sN ?_;refine AL.ret ?_;try simp only[AU]
   refine⟨by simp,Fin.own (by simp[aP,bI];rfl) Hb rfl hkk.app.app.le ?_⟩;simp
def kB(lo hi:Int):Bool:=decide (0<=lo/\lo<=40)&&(hi == -1||decide (lo<=hi/\hi<=40))
theorem aAo(lo hi:Int):DC 242 [I lo,I hi] (B (kB lo hi)):=by
 intro tok nt box nb;by_cases h1:0<=lo
 .by_cases h2:lo<=40
  .cases h3:(hi == -1)
   .by_cases h4:lo<=hi
    .by_cases h5:hi<=40
     .refine sI func242 ntmps242 fun Hb Ht=>?_
      repeat first|simp[h1,h2,h3,h4,h5]|refine sR ?_
      refine sT (sH Hb Ht ?_);simp[kB,h1,h2,h3,h4,h5]
     .refine sI func242 ntmps242 fun Hb Ht=>?_
      repeat first|simp[h1,h2,h3,h4,h5]|refine sR ?_
      refine sT (sH Hb Ht ?_);simp[kB,h1,h2,h3,h4,h5]
    .refine sI func242 ntmps242 fun Hb Ht=>?_
     repeat first|simp[h1,h2,h3,h4]|refine sR ?_
     refine sT (sH Hb Ht ?_);simp[kB,h1,h2,h3,h4]
   .refine sI func242 ntmps242 fun Hb Ht=>?_
    repeat first|simp[h1,h2,h3]|refine sR ?_
    refine sT (sH Hb Ht ?_);simp[kB,h1,h2,h3]
  .refine sI func242 ntmps242 fun Hb Ht=>?_
   repeat first|simp[h1,h2]|refine sR ?_
   refine sT (sH Hb Ht ?_);simp[kB,h1,h2]
 .refine sI func242 ntmps242 fun Hb Ht=>?_
  repeat first|simp[h1]|refine sR ?_
  refine sT (sH Hb Ht ?_);simp[kB,h1]
abbrev NT.row(n:NT):List AV:=[Sb n.name,I n.par,B n.abs,.d (qZ n.own)]
abbrev ET.row(e:ET):List AV:=[Sb e.name,I e.fr,I e.to,I e.ol,I e.oh,I e.il,I e.ih]
theorem aKT(x y:NT)(box:Bxs)(nb k:Nat)(tok:Tks)(nt:Nat)(h1:box k=some [x.row]):
  aD prog 236 [y.av,.ptr k 0 0] ⟨box,nb,tok,nt⟩ fun v m=>v=B (decide (y.name=x.name))/\m=⟨box,nb,tok,nt⟩:=by
 refine sI func236 ntmps236 fun Hb Ht=>?_
 have k1n:=bC Hb h1;rw[<-cV];repeat first|simp[lO k1n,h1]|refine sR ?_
 refine sT (sH Hb Ht ?_);simp
theorem aJO(x y:ET)(box:Bxs)(nb k:Nat)(tok:Tks)(nt:Nat)(h1:box k=some [x.row]):
  aD prog 241 [y.av,.ptr k 0 0] ⟨box,nb,tok,nt⟩ fun v m=>v=B (decide (y.name=x.name))/\m=⟨box,nb,tok,nt⟩:=by
 refine sI func241 ntmps241 fun Hb Ht=>?_
 have k1n:=bC Hb h1;rw[<-cV];repeat first|simp[lO k1n,h1]|refine sR ?_
 refine sT (sH Hb Ht ?_);simp
theorem aAs(lo hi:Int):DC 197 [I lo,I hi] (B (kB lo hi)):=by
 intro tok nt box nb;have i1:=jU lo 0 40;have i2:=jU hi lo 40;cases e1:inZ lo 0 40
 .rw[e1] at i1;have hb:kB lo hi=false:=by
   have:decide (0<=lo/\lo<=40)=false:=e1
   simp[kB,this]
  rw[hb];refine sI func197 ntmps197 fun Hb Ht=>?_
  repeat first|simp|refine sR ?_
  refine sD (i1 _ _) ?_;repeat first|simp|refine sR ?_
  refine sT (sH Hb Ht ?_);simp
 .rw[e1] at i1;have h1:decide (0<=lo/\lo<=40)=true:=e1
  cases h3:(hi == -1)
  .have hb:kB lo hi=inZ hi lo 40:=by
    simp only[kB,h1,h3,inZ,Bool.true_and,Bool.false_or]
   rw[hb];refine sI func197 ntmps197 fun Hb Ht=>?_
   repeat first|simp|refine sR ?_
   refine sD (i1 _ _) ?_;simp;repeat first|simp[h3]|refine sR ?_
   refine sD (i2 _ _) ?_;repeat first|simp|refine sR ?_
   refine sT (sH Hb Ht ?_);simp
  .have hb:kB lo hi=true:=by simp only[kB,h1,h3,Bool.true_and,Bool.true_or]
   rw[hb];refine sI func197 ntmps197 fun Hb Ht=>?_
   repeat first|simp|refine sR ?_
   refine sD (i1 _ _) ?_;simp;repeat first|simp[h3]|refine sR ?_
   refine sT (sH Hb Ht ?_);simp
def fQ(t:Ty)(n:Int):Bool:=decide (0<=n/\n<t.nodes.length)
theorem aEU(t:Ty)(n:Int)(box:Bxs)(nb k:Nat)(tok:Tks)(nt:Nat)(h1:box k=some [[.d (nts t.nodes),.d (ets t.edges)]]):
  aD prog 239 [I n,.ptr k 0 0] ⟨box,nb,tok,nt⟩ fun v m=>v=B (fQ t n)/\m=⟨box,nb,tok,nt⟩:=by
 by_cases h0:0<=n
 .refine sI func239 ntmps239 fun Hb Ht=>?_
  have k1n:=bC Hb h1;repeat first|simp[lO k1n,h1,h0]|refine sR ?_
  refine sT (sH Hb Ht ?_);simp[fQ,h0]
 .refine sI func239 ntmps239 fun Hb Ht=>?_
  have k1n:=bC Hb h1;repeat first|simp[lO k1n,h1,h0]|refine sR ?_
  refine sT (sH Hb Ht ?_);simp[fQ,h0]
def aM1(L:List At)(k:Nat):Int:=wC (L.getD k ⟨eB,0,0,[]⟩) (L.take k)
def vI(L:List At)(M k:Nat):Int:=if k+M<L.length then 0 else aM1 L k
def aMy(L:List At)(M:Nat):Int:=aA (vI L M) L.length
theorem pO(L:List At)(M:Nat):∀k,k+M<=L.length->aA (vI L M) k=0
 | 0,_=>rfl
 | k+1,h=>by
  simp only[aA,pO L M k (by omega),↓reduceIte,vI];rw[if_pos (by omega)]
theorem aDv{t:Ty}{i:Nat}:(t.nd i).own.length<=(iY t i).length:=by
 rw[iY];split
 .rw[List.length_append];omega
 .exact nr0 _
theorem vR{t:Ty}(ht:t.Fit):∀n i,i<n->∀x∈iY t i,x.Fit
 | 0,i,hi=>absurd hi (Nat.not_lt_zero _)
 | n+1,i,hi=>by
  have hown:∀x∈(t.nd i).own,x.Fit:=by
   by_cases h:i<t.nodes.length
   .rw[iE h];exact(ht.a _ (List.getElem_mem h)).2
   .intro x hx;simp only[Ty.nd,List.getD_eq_getElem?_getD,List.getElem?_eq_none (Nat.le_of_not_lt h),Option.getD_none] at hx;cases hx
  rw[iY];split
  .rename_i h;intro x hx;rcases List.mem_append.1 hx with hx|hx
   .exact vR ht n _ (by omega) x hx
   .exact hown x hx
  .exact hown
theorem aFv{L:List At}{k:Nat}(h:k<L.length):aM1 L k=wC L[k] (L.take k):=by simp[aM1,h]
theorem aF9(L:List At)(k:Nat):qZ (L.take k)=.sl 4 (List.take k (L.map At.cells)):=by rw[qZ,List.map_take]
theorem aBM{L:List At}{k:Nat}(h:k<L.length):(L.map At.cells)[k]?=some L[k].cells:=by simp[h]
def fI(t:Ty)(i:Nat):Int :=
 if cM (t.nd i).name=false then 2 else if bB (fun y=>decide (y.name=(t.nd i).name)) (t.nodes.take i)=true then 5
 else if (t.nd i).par < -1∨(i:Int)<=(t.nd i).par then 6 else if 4<(t.nd i).own.length then 3
 else if 8<(iY t i).length then 3 else aMy (iY t i) (t.nd i).own.length
def aPn(L:List At)(nb:Nat)(box:Bxs)(tok:Tks)(nt:Nat)(k:Nat):AS:=⟨tl [(7,I k),(6,.d (qZ L))],lb nb box [],tok,nt⟩
theorem aMG(t:Ty)(ht:t.Fit)(hM:∀i,(t.nd i).own.length<=1000)(i:Nat)(hi:i<t.nodes.length)(hp:∀j,j<i->(t.nd j).par<j):DC 182 [t.av,I i] (I (fI t i)):=by
 intro tok nt box nb;have hnd:=iE hi;have hmem:=List.getElem_mem hi;have h1:=nM (t.nd i).name (by rw[hnd];exact Nat.le_trans (ht.nn _ hmem) (by decide));obtain⟨N,hN⟩:∃N,fI t i=N:=⟨_,rfl⟩
 rw[hN];unfold fI at hN;rw[hnd] at h1 hN;cases e1:cM t.nodes[i].name
 .rw[e1] at h1 hN;rw[if_pos rfl] at hN;refine sI func182 ntmps182 fun Hb Ht=>?_
  repeat first|simp[hi]|refine sR ?_
  refine sD (h1 _ _) ?_;repeat first|simp|refine sR ?_
  refine sC ?_;repeat first|simp|refine sR ?_
  refine sT (sH Hb Ht ?_);simp[<-hN]
 .rw[e1] at h1 hN;rw[if_neg (by simp)] at hN;obtain⟨p,hpp⟩:∃p:NT->Bool,(fun y=>decide (y.name=t.nodes[i].name))=p:=⟨_,rfl⟩
  have h2:=fun y box nb k (hbk:box k=some [(t.nodes[i]'hi).row])=>aKT (t.nodes[i]'hi) y box nb k tok nt hbk
  have hpy:∀y:NT,decide (y.name=t.nodes[i].name)=p y:=fun y=>by rw[<-hpp]
  simp only[hpy] at h2;rw[hpp] at hN;refine sI func182 ntmps182 fun Hb Ht=>?_
  repeat first|simp[hi]|refine sR ?_
  refine sD (h1 _ _) ?_;repeat first|simp[hi]|refine sR ?_|refine sC ?_
  refine⟨by omega,?_⟩;have hcf:=fun (b:Bxs) nb' h3 h4=>lU (t.nodes.take i) 236 [.ptr (nb+5) 0 0] p (by simp;have:=ht.n;omega) b nb' tok nt h3 h4
  rw[show nts (t.nodes.take i)=.sl 4 (List.take i (t.nodes.map NT.cells)) by rw[nts,List.map_take]] at hcf;refine aN.of_b (hcf _ _ (fun c hc=>by rw[List.mem_singleton.1 hc];simp[aQ]) (fun y hy box' nb' he=>h2 y box' nb' _ (he _ _ (by simp[aQ])))) ?_;simp;cases e2:bB p (t.nodes.take i)
  .rw[e2,if_neg (by simp)] at hN;refine sC ?_;simp;by_cases e3:t.nodes[i].par < -1
   .rw[if_pos (.inl e3)] at hN;repeat first|simp[e3]|refine sR ?_
    refine sC ?_;repeat first|simp|refine sR ?_
    refine sT (sH Hb Ht ?_);simp[<-hN]
   .by_cases e4:(i:Int)<=t.nodes[i].par
    .rw[if_pos (.inr e4)] at hN;repeat first|simp[e3,e4]|refine sR ?_
     refine sC ?_;repeat first|simp|refine sR ?_
     refine sT (sH Hb Ht ?_);simp[<-hN]
    .rw[if_neg (by omega)] at hN;repeat first|simp[e3,e4]|refine sR ?_
     refine sC ?_;repeat first|simp|refine sR ?_
     by_cases e5:4<t.nodes[i].own.length
     .have e5':(4:Int)<t.nodes[i].own.length:=by omega
      rw[if_pos e5] at hN;refine sC ?_;simp[e5,e5'];repeat first|simp|refine sR ?_
      refine sT (sH Hb Ht ?_);simp[<-hN]
     .have e5':¬(4:Int)<t.nodes[i].own.length:=by omega
      rw[if_neg e5] at hN;obtain⟨tok1,nt1,o1,hk,hc⟩:=aFm t ht hM (i+1) i (Nat.lt_succ_self _) hi (fun j hj=>by
       by_cases e:j=i
       .subst e;rw[hnd];omega
       .exact hp j (by omega)) tok nt
      have hal:=nE hM (i+1) i (Nat.lt_succ_self _);have haf:=vR ht (i+1) i (Nat.lt_succ_self _);have hml:=aDv (t:=t) (i:=i);rw[hnd] at hml;have htn:=ht.n;have hal2:(iY t i).length<=1000000:=Nat.le_trans hal (by have:(i+1)*1000<=1000*1000:=Nat.mul_le_mul_right _ (by omega);omega)
      clear hal;generalize iY t i=L at *;refine sC ?_;simp[e5,e5'];repeat first|simp|refine sR ?_
      refine sD (hc) ?_;simp;have hkk:=hk Ht;repeat first|simp|refine sR ?_
      by_cases e6:8<L.length
      .have e6':(8:Int)<L.length:=by omega
       rw[if_pos e6] at hN;refine sC ?_;simp[e6,e6'];repeat first|simp|refine sR ?_
       refine sT (sG Hb Ht hkk.old hkk.le ?_);simp[<-hN]
      .have e6':¬(8:Int)<L.length:=by omega
       rw[if_neg e6] at hN;have hw0:IntKind.i64.wrap ((L.length:Int)-(t.nodes[i].own.length:Nat))=((L.length-t.nodes[i].own.length:Nat):Int):=by rw[aM (by omega) (by omega)];omega
       have hz:=pO L t.nodes[i].own.length (L.length-t.nodes[i].own.length) (by omega);unfold aMy at hN;obtain⟨f,hf⟩:∃f,vI L t.nodes[i].own.length=f:=⟨_,rfl⟩
       have hfk:∀k,(hk:k<L.length)->L.length-t.nodes[i].own.length<=k->f k=wC L[k] (L.take k):=fun k hk hge=>by
        rw[<-hf,vI,if_neg (by omega),aFv hk]
       rw[hf] at hN hz;refine sC ?_;simp[e6,e6'];repeat first|simp[hi,aQ,hw0]|refine sR ?_
       have hal3:L.length-t.nodes[i].own.length<=L.length:=Nat.sub_le _ _
       generalize L.length-t.nodes[i].own.length=a at *;refine sN ?_;refine sL (aPn L nb box tok1 nt1) (fun k=>a<=k/\k<=L.length/\aA f k=0) (fun k=>L.length-k) a ⟨nr0 _,by omega,hz⟩ (wM (by have:=hkk.le;omega) rfl (by simp[ToL,lk,To.data]) trivial) ?_;rintro k S' ⟨hak,hkl,hok⟩ hS;simp only[aPn] at hS;subst hS;have hw:=sW (i:=k) (by omega);repeat first|simp|refine sR ?_|refine sC ?_
       refine⟨fun hlt=>?_,fun hge=>?_⟩
       .have hA:=hfk k hlt hak;have hc2:=aCQ L[k] (L.take k) (haf _ (List.getElem_mem hlt)) (by simp;omega);rw[aF9,<-hA] at hc2;have hR:f k≠0->aA f L.length=f k:=fun h0=>aL hok h0 L.length hlt
        have hnx:f k=0->aA f (k+1)=0:=fun h0=>by simp only[aA,hok,h0,↓reduceIte]
        generalize f k=E at *;repeat first|simp[hlt,aBM hlt]|refine sR ?_
        try refine⟨by omega,?_⟩
        refine sD (hc2 _ _) ?_;repeat first|simp|refine sR ?_
        by_cases e7:E=0
        .refine sC ?_;simp[e7];repeat first|simp[hw]|refine sR ?_
         refine sE ?_;exact⟨k+1,⟨by omega,hlt,hnx e7⟩,by omega,wM (by have:=hkk.le;omega) rfl (by simp[ToL,lk]) trivial⟩
        .have b7:(E != 0)=true:=by simp[e7]
         refine sC ?_;simp[e7,b7];repeat first|simp|refine sR ?_
         refine sT (sG Hb Ht hkk.old hkk.le ?_);simp[<-hN,hR e7]
       .refine sX ?_;simp only[AU,↓reduceIte];repeat first|simp|refine sR ?_
        have:k=L.length:=by omega
        subst this;refine sT (sG Hb Ht hkk.old hkk.le ?_);simp[<-hN,hok]
  .rw[e2,if_pos rfl] at hN;refine sC ?_;repeat first|simp|refine sR ?_
   refine sT (sH Hb Ht ?_);simp[<-hN]
def aEJ(l:List NT)(s:ByteArray):Bool:=bB (fun y=>decide (y.name=s)) l
theorem aCB{l:List NT}{s:ByteArray}:aEJ l s=true↔∃x∈l,x.name=s:=by simp[aEJ,bB]
theorem aGa{l:List NT}{i:Nat}{s:ByteArray}(hi:i<l.length)(h:aEJ (l.take i) s=false)(hne:l[i].name≠s):aEJ (l.take (i+1)) s=false:=by
 rw[<-Bool.not_eq_true,aCB] at h ⊢;rintro⟨x,hx,he⟩;rw[List.take_succ_eq_append_getElem hi,List.mem_append,List.mem_singleton] at hx;rcases hx with hx|hx
 .exact h ⟨x,hx,he⟩
 .exact hne (by rw[<-hx];exact he)
theorem aIR{l:List NT}{k i:Nat}{s:ByteArray}(hk:k<l.length)(hki:k<i)(he:l[k].name=s):aEJ (l.take i) s=true :=
 aCB.2 ⟨l[k],by rw[List.mem_take_iff_getElem];exact⟨k,by omega,rfl⟩,he⟩
def vY(l:List At)(s:ByteArray):Bool:=bB (fun y=>decide (y.name=s)) l
theorem zU{l:List At}{s:ByteArray}:vY l s=true↔∃x∈l,x.name=s:=by simp[vY,bB]
theorem aDT{l:List At}{i:Nat}{s:ByteArray}(hi:i<l.length)(h:vY (l.take i) s=false)(hne:l[i].name≠s):vY (l.take (i+1)) s=false:=by
 rw[<-Bool.not_eq_true,zU] at h ⊢;rintro⟨x,hx,he⟩;rw[List.take_succ_eq_append_getElem hi,List.mem_append,List.mem_singleton] at hx;rcases hx with hx|hx
 .exact h ⟨x,hx,he⟩
 .exact hne (by rw[<-hx];exact he)
theorem aGV{l:List At}{k i:Nat}{s:ByteArray}(hk:k<l.length)(hki:k<i)(he:l[k].name=s):vY (l.take i) s=true :=
 zU.2 ⟨l[k],by rw[List.mem_take_iff_getElem];exact⟨k,by omega,rfl⟩,he⟩
theorem aF5(x:At)(b:List At):wC x b=if cM x.name=false then 2 else if vY b x.name=true then 5 else aKE x:=rfl
def aLK(t:Ty)(i:Nat)(n:NT)(nb:Nat)(box:Bxs)(tok:Tks)(nt:Nat)(k:Nat):AS:=⟨tl [(6,I k),(5,.ptr (nb+5) 0 0),(2,.ptr (nb+2) 0 0),(1,I i)],lb nb box [(5,[n.row]),(2,[[.d (nts t.nodes),.d (ets t.edges)]])],tok,nt⟩
def aMh(L:List At)(nb:Nat)(box:Bxs)(tok:Tks)(nt:Nat)(k:Nat):AS:=⟨tl [(8,I k),(7,.d (qZ L))],lb nb box [],tok,nt⟩
def aLq(L:List At)(k:Nat)(nb:Nat)(box:Bxs)(tok:Tks)(nt:Nat)(j:Nat):AS:=⟨tl [(9,I j),(8,I k),(7,.d (qZ L))],lb nb box [],tok,nt⟩
theorem aI4(t:Ty)(ht:t.Fit)(hM:∀i,(t.nd i).own.length<=1000)(i:Nat)(hi:i<t.nodes.length)(hp:∀j,j<i->(t.nd j).par<j):DC 128 [t.av,I i] (I (fI t i)):=by
 intro tok nt box nb;have hnd:=iE hi;have hmem:=List.getElem_mem hi;have htn:=ht.n;have h1:=iM (t.nd i).name (by rw[hnd];exact Nat.le_trans (ht.nn _ hmem) (by decide));obtain⟨N,hN⟩:∃N,fI t i=N:=⟨_,rfl⟩
 rw[hN];unfold fI at hN
 change (if cM (t.nd i).name=false then (2:Int) else if aEJ (t.nodes.take i) (t.nd i).name=true then 5 else _)=N at hN
 rw[hnd] at h1 hN;have hin:=jU t.nodes[i].par (-1) ((i:Int)-1);have hwi:IntKind.i64.wrap ((i:Int)-1)=(i:Int)-1:=by rw[aM (by omega) (by omega)]
 cases e1:cM t.nodes[i].name
 .rw[e1] at h1 hN;rw[if_pos rfl] at hN;refine sI func128 ntmps128 fun Hb Ht=>?_
  repeat first|simp[hi]|refine sR ?_
  refine sD (h1 _ _) ?_;repeat first|simp|refine sR ?_
  refine sC ?_;repeat first|simp|refine sR ?_
  refine sT (sH Hb Ht ?_);simp[<-hN]
 .rw[e1] at h1 hN;rw[if_neg (by simp)] at hN;refine sI func128 ntmps128 fun Hb Ht=>?_
  repeat first|simp[hi]|refine sR ?_
  refine sD (h1 _ _) ?_;repeat first|simp|refine sR ?_
  refine sC ?_;repeat first|simp|refine sR ?_
  refine sN ?_;refine sL (aLK t i t.nodes[i] nb box tok nt) (fun k=>k<=i/\aEJ (t.nodes.take k) t.nodes[i].name=false) (fun k=>i-k) 0 ⟨Nat.zero_le _,rfl⟩ wkA ?_;rintro k S' ⟨hk,hm⟩ hS;simp only[aLK] at hS;subst hS;have hwk:=sW (i:=k) (by omega);repeat first|simp|refine sR ?_|refine sC ?_
  refine⟨fun hlk=>?_,fun hge=>?_⟩
  .have hkl:k<t.nodes.length:=by omega
   by_cases e2:t.nodes[k].name=t.nodes[i].name
   .have b2:(t.nodes[k].name.toList==t.nodes[i].name.toList)=true:=by rw[cV];simp[e2]
    rw[if_pos (aIR hkl hlk e2)] at hN;repeat first|simp[hi,hkl,b2]|refine sR ?_
    refine sC ?_;simp[b2];repeat first|simp|refine sR ?_
    refine sT (sH Hb Ht ?_);simp[<-hN]
   .have b2:(t.nodes[k].name.toList==t.nodes[i].name.toList)=false:=by rw[cV];simp[e2]
    repeat first|simp[hi,hkl,b2]|refine sR ?_
    refine sC ?_;simp[b2];repeat first|simp[hwk]|refine sR ?_
    refine sE ?_;exact⟨k+1,⟨hlk,aGa hkl hm e2⟩,by omega,wkA⟩
  .refine sX ?_;simp only[AU,↓reduceIte];have:k=i:=by omega
   subst this;rw[hm,if_neg (by simp)] at hN;by_cases e3:t.nodes[k].par < -1∨(k:Int)<=t.nodes[k].par
   .rw[if_pos e3] at hN;have b3:inZ t.nodes[k].par (-1) ((k:Int)-1)=false:=by simp only[inZ,decide_eq_false_iff_not];omega
    rw[b3] at hin;repeat first|simp[hi,hwi]|refine sR ?_
    refine sD (hin _ _) ?_;repeat first|simp|refine sR ?_
    refine sC ?_;repeat first|simp|refine sR ?_
    refine sT (sH Hb Ht ?_);simp[<-hN]
   .rw[if_neg e3] at hN;have b3:inZ t.nodes[k].par (-1) ((k:Int)-1)=true:=by simp only[inZ,decide_eq_true_eq];omega
    rw[b3] at hin;obtain⟨tok1,nt1,o1,hk,hc⟩:=aAd t ht hM (k+1) k (Nat.lt_succ_self _) hi (fun j hj=>by
     by_cases e:j=k
     .subst e;rw[hnd];omega
     .exact hp j (by omega)) tok nt
    have hal:=nE hM (k+1) k (Nat.lt_succ_self _);have haf:=vR ht (k+1) k (Nat.lt_succ_self _);have hml:=aDv (t:=t) (i:=k);rw[hnd] at hml;have hal2:(iY t k).length<=1000000:=Nat.le_trans hal (by have:(k+1)*1000<=1000*1000:=Nat.mul_le_mul_right _ (by omega);omega)
    clear hal;generalize iY t k=L at *;have hw0:IntKind.i64.wrap ((L.length:Int)-(t.nodes[k].own.length:Nat))=((L.length-t.nodes[k].own.length:Nat):Int):=by rw[aM (by omega) (by omega)];omega
    have hz:=pO L t.nodes[k].own.length (L.length-t.nodes[k].own.length) (by omega);unfold aMy at hN;obtain⟨f,hf⟩:∃f,vI L t.nodes[k].own.length=f:=⟨_,rfl⟩
    have hfk:∀j,(hk:j<L.length)->L.length-t.nodes[k].own.length<=j->f j=wC L[j] (L.take j):=fun j hk hge=>by
     rw[<-hf,vI,if_neg (by omega),aFv hk]
    rw[hf] at hN hz;repeat first|simp[hi,hwi]|refine sR ?_
    refine sD (hin _ _) ?_;repeat first|simp[hi]|refine sR ?_|refine sC ?_
    refine sD (hc) ?_;simp;have hkk:=hk Ht;by_cases e5:4<t.nodes[k].own.length
    .have e5':(4:Int)<t.nodes[k].own.length:=by omega
     rw[if_pos e5] at hN;repeat first|simp[hi,e5,e5']|refine sR ?_
     refine sC ?_;simp[e5,e5'];repeat first|simp|refine sR ?_
     refine sT (sG Hb Ht hkk.old hkk.le ?_);simp[<-hN]
    .have e5':¬(4:Int)<t.nodes[k].own.length:=by omega
     rw[if_neg e5] at hN;by_cases e6:8<L.length
     .have e6':(8:Int)<L.length:=by omega
      rw[if_pos e6] at hN;repeat first|simp[hi,e5,e5',e6,e6']|refine sR ?_
      refine sC ?_;simp[e6,e6'];repeat first|simp|refine sR ?_
      refine sT (sG Hb Ht hkk.old hkk.le ?_);simp[<-hN]
     .have e6':¬(8:Int)<L.length:=by omega
      rw[if_neg e6] at hN;repeat first|simp[hi,e5,e5',e6,e6']|refine sR ?_
      refine sC ?_;simp[e6,e6'];repeat first|simp[hi,hw0]|refine sR ?_
      have hal3:L.length-t.nodes[k].own.length<=L.length:=Nat.sub_le _ _
      generalize L.length-t.nodes[k].own.length=a at *;refine sN ?_;refine sL (aMh L nb box tok1 nt1) (fun k=>a<=k/\k<=L.length/\aA f k=0) (fun k=>L.length-k) a ⟨nr0 _,by omega,hz⟩ (wM (by have:=hkk.le;omega) rfl (by simp[ToL,lk,To.data]) trivial) ?_;rintro k S' ⟨hak,hkl,hok⟩ hS;simp only[aMh] at hS;subst hS;have hw:=sW (i:=k) (by omega);repeat first|simp|refine sR ?_|refine sC ?_
      refine⟨fun hlt=>?_,fun hge=>?_⟩
      .have hA:=hfk k hlt hak;have hR:f k≠0->aA f L.length=f k:=fun h0=>aL hok h0 L.length hlt
       have hnx:f k=0->aA f (k+1)=0:=fun h0=>by simp only[aA,hok,h0,↓reduceIte]
       generalize f k=E at *;rw[aF5] at hA;have hfx:=haf _ (List.getElem_mem hlt);have hn:=iM L[k].name (Nat.le_trans hfx.n (by decide));have hc2:=yA L[k] hfx;repeat first|simp[hlt,aBM hlt]|refine sR ?_
       refine sD (hn _ _) ?_;simp;cases f1:cM L[k].name
       .rw[f1,if_pos rfl] at hA;repeat first|simp|refine sR ?_
        refine sC ?_;repeat first|simp|refine sR ?_
        refine sT (sG Hb Ht hkk.old hkk.le ?_);simp[<-hN,hR (by omega),hA]
       .rw[f1,if_neg (by simp)] at hA;repeat first|simp|refine sR ?_
        refine sC ?_;repeat first|simp|refine sR ?_
        refine sN ?_;refine sL (aLq L k nb box tok1 nt1) (fun j=>j<=k/\vY (L.take j) L[k].name=false) (fun j=>k-j) 0 ⟨Nat.zero_le _,rfl⟩ (wM (by have:=hkk.le;omega) rfl (by simp[ToL,lk]) trivial) ?_;rintro j S' ⟨hj,hm2⟩ hS;simp only[aLq] at hS;subst hS;have hwj:=sW (i:=j) (by omega);repeat first|simp|refine sR ?_|refine sC ?_
        refine⟨fun hlj=>?_,fun hgj=>?_⟩
        .have hjl:j<L.length:=by omega
         by_cases f2:L[j].name=L[k].name
         .have b2:(L[j].name.toList==L[k].name.toList)=true:=by rw[cV];simp[f2]
          rw[if_pos (aGV hjl hlj f2)] at hA;repeat first|simp[hlt,hjl,b2]|refine sR ?_
          refine sC ?_;simp[b2];repeat first|simp|refine sR ?_
          refine sT (sG Hb Ht hkk.old hkk.le ?_);simp[<-hN,hR (by omega),hA]
         .have b2:(L[j].name.toList==L[k].name.toList)=false:=by rw[cV];simp[f2]
          repeat first|simp[hlt,hjl,b2]|refine sR ?_
          refine sC ?_;simp[b2];repeat first|simp[hwj]|refine sR ?_
          refine sE ?_;exact⟨j+1,⟨hlj,aDT hjl hm2 f2⟩,by omega,wM (by have:=hkk.le;omega) rfl (by simp[ToL,lk]) trivial⟩
        .refine sX ?_;simp only[AU,↓reduceIte];have:j=k:=by omega
         subst this;rw[hm2,if_neg (by simp)] at hA;rw[<-hA] at hc2;repeat first|simp[hlt,aBM hlt]|refine sR ?_
         refine sD (hc2 _ _) ?_;repeat first|simp|refine sR ?_
         by_cases e7:E=0
         .refine sC ?_;simp[e7];repeat first|simp[hw]|refine sR ?_
          refine sE ?_;exact⟨j+1,⟨by omega,hlt,hnx e7⟩,by omega,wM (by have:=hkk.le;omega) rfl (by simp[ToL,lk]) trivial⟩
         .have b7:(E != 0)=true:=by simp[e7]
          refine sC ?_;simp[e7,b7];repeat first|simp|refine sR ?_
          refine sT (sG Hb Ht hkk.old hkk.le ?_);simp[<-hN,hR e7]
      .refine sX ?_;simp only[AU,↓reduceIte];repeat first|simp|refine sR ?_
       have:k=L.length:=by omega
       subst this;refine sT (sG Hb Ht hkk.old hkk.le ?_);simp[<-hN,hok]
instance:Inhabited ET:=⟨⟨eB,0,0,0,0,0,0⟩⟩
def Ty.ed(t:Ty)(i:Nat):ET:=t.edges.getD i default
theorem wB{t:Ty}{i:Nat}(h:i<t.edges.length):t.ed i=t.edges[i]:=by simp[Ty.ed,h]
def aCu(l:List ET)(s:ByteArray):Bool:=bB (fun y=>decide (y.name=s)) l
theorem aDb{l:List ET}{s:ByteArray}:aCu l s=true↔∃x∈l,x.name=s:=by simp[aCu,bB]
theorem aGb{l:List ET}{i:Nat}{s:ByteArray}(hi:i<l.length)(h:aCu (l.take i) s=false)(hne:l[i].name≠s):aCu (l.take (i+1)) s=false:=by
 rw[<-Bool.not_eq_true,aDb] at h ⊢;rintro⟨x,hx,he⟩;rw[List.take_succ_eq_append_getElem hi,List.mem_append,List.mem_singleton] at hx;rcases hx with hx|hx
 .exact h ⟨x,hx,he⟩
 .exact hne (by rw[<-hx];exact he)
theorem aI8{l:List ET}{k i:Nat}{s:ByteArray}(hk:k<l.length)(hki:k<i)(he:l[k].name=s):aCu (l.take i) s=true :=
 aDb.2 ⟨l[k],by rw[List.mem_take_iff_getElem];exact⟨k,by omega,rfl⟩,he⟩
def edR(t:Ty)(x:ET):Int:=if fQ t x.fr=false then 6 else if fQ t x.to=false then 6 else if kB x.ol x.oh=false then 6 else if kB x.il x.ih=false then 6 else 0
def fY(t:Ty)(i:Nat):Int :=
 if cM (t.ed i).name=false then 2 else if aCu (t.edges.take i) (t.ed i).name=true then 5 else edR t (t.ed i)
set_option maxRecDepth 100000 in
theorem aM9(t:Ty)(ht:t.Fit)(i:Nat)(hi:i<t.edges.length):DC 183 [t.av,I i] (I (fY t i)):=by
 intro tok nt box nb;have hnd:=wB hi;have hmem:=List.getElem_mem hi;have hte:=ht.e;have h1:=nM (t.ed i).name (by rw[hnd];exact Nat.le_trans (ht.en _ hmem) (by decide));obtain⟨N,hN⟩:∃N,fY t i=N:=⟨_,rfl⟩
 rw[hN];unfold fY at hN;rw[hnd] at h1 hN;cases e1:cM t.edges[i].name
 .rw[e1] at h1 hN;rw[if_pos rfl] at hN;refine sI func183 ntmps183 fun Hb Ht=>?_
  repeat first|simp[hi]|refine sR ?_
  refine sD (h1 _ _) ?_;repeat first|simp|refine sR ?_
  refine sC ?_;repeat first|simp|refine sR ?_
  refine sT (sH Hb Ht ?_);simp[<-hN]
 .rw[e1] at h1 hN;rw[if_neg (by simp)] at hN;unfold aCu at hN;obtain⟨p,hpp⟩:∃p:ET->Bool,(fun y=>decide (y.name=t.edges[i].name))=p:=⟨_,rfl⟩
  have h2:=fun y box nb k (hbk:box k=some [(t.edges[i]'hi).row])=>aJO (t.edges[i]'hi) y box nb k tok nt hbk
  have hpy:∀y:ET,decide (y.name=t.edges[i].name)=p y:=fun y=>by rw[<-hpp]
  simp only[hpy] at h2;rw[hpp] at hN;refine sI func183 ntmps183 fun Hb Ht=>?_
  repeat first|simp[hi]|refine sR ?_
  refine sD (h1 _ _) ?_;repeat first|simp[hi]|refine sR ?_|refine sC ?_
  try refine⟨by omega,?_⟩
  have hcf:=fun (b:Bxs) nb' h3 h4=>sK (t.edges.take i) 241 [.ptr (nb+5) 0 0] p (by simp;have:=ht.e;omega) b nb' tok nt h3 h4
  rw[show ets (t.edges.take i)=.sl 7 (List.take i (t.edges.map ET.cells)) by rw[ets,List.map_take]] at hcf;refine aN.of_b (hcf _ _ (fun c hc=>by rw[List.mem_singleton.1 hc];simp[aQ]) (fun y hy box' nb' he=>h2 y box' nb' _ (he _ _ (by simp[aQ])))) ?_;simp;cases e2:bB p (t.edges.take i)
  .rw[e2,if_neg (by simp)] at hN;unfold edR at hN;have b1:=aAo t.edges[i].ol t.edges[i].oh;have b2:=aAo t.edges[i].il t.edges[i].ih;refine sC ?_;repeat first|simp|refine sR ?_
   refine aN.of_b (aEU t t.edges[i].fr _ _ (nb+2) _ _ (by simp[aQ])) ?_;simp;cases g1:fQ t t.edges[i].fr
   .rw[g1,if_pos rfl] at hN;repeat first|simp|refine sR ?_
    refine sC ?_;repeat first|simp|refine sR ?_
    refine sC ?_;repeat first|simp|refine sR ?_
    refine sT (sH Hb Ht ?_);simp[<-hN]
   .rw[g1,if_neg (by simp)] at hN;repeat first|simp|refine sR ?_
    refine aN.of_b (aEU t t.edges[i].to _ _ (nb+2) _ _ (by simp[aQ])) ?_;simp;cases g2:fQ t t.edges[i].to
    .rw[g2,if_pos rfl] at hN;repeat first|simp|refine sR ?_
     refine sC ?_;repeat first|simp|refine sR ?_
     refine sC ?_;repeat first|simp|refine sR ?_
     refine sT (sH Hb Ht ?_);simp[<-hN]
    .rw[g2,if_neg (by simp)] at hN;repeat first|simp|refine sR ?_
     refine sC ?_;repeat first|simp|refine sR ?_
     refine sD (b1 _ _) ?_;simp;cases g3:kB t.edges[i].ol t.edges[i].oh
     .rw[g3,if_pos rfl] at hN;repeat first|simp|refine sR ?_
      refine sC ?_;repeat first|simp|refine sR ?_
      refine sT (sH Hb Ht ?_);simp[<-hN]
     .rw[g3,if_neg (by simp)] at hN;repeat first|simp|refine sR ?_
      refine sD (b2 _ _) ?_;simp;cases g4:kB t.edges[i].il t.edges[i].ih
      .rw[g4,if_pos rfl] at hN;repeat first|simp|refine sR ?_
       refine sC ?_;repeat first|simp|refine sR ?_
       refine sT (sH Hb Ht ?_);simp[<-hN]
      .rw[g4,if_neg (by simp)] at hN;repeat first|simp|refine sR ?_
       refine sC ?_;repeat first|simp|refine sR ?_
       refine sT (sH Hb Ht ?_);simp[<-hN]
  .rw[e2,if_pos rfl] at hN;refine sC ?_;repeat first|simp|refine sR ?_
   refine sT (sH Hb Ht ?_);simp[<-hN]
theorem xx:True:=trivial
def aPG(t:Ty)(i:Nat)(x:ET)(nb:Nat)(box:Bxs)(tok:Tks)(nt:Nat)(k:Nat):AS:=⟨tl [(6,I k),(5,.ptr (nb+5) 0 0),(2,.ptr (nb+2) 0 0),(1,I i)],lb nb box [(5,[x.row]),(2,[[.d (nts t.nodes),.d (ets t.edges)]])],tok,nt⟩
theorem aJf(t:Ty)(ht:t.Fit)(i:Nat)(hi:i<t.edges.length):DC 129 [t.av,I i] (I (fY t i)):=by
 intro tok nt box nb;have hnd:=wB hi;have hmem:=List.getElem_mem hi;have hte:=ht.e;have htn:=ht.n;have h1:=iM (t.ed i).name (by rw[hnd];exact Nat.le_trans (ht.en _ hmem) (by decide));obtain⟨N,hN⟩:∃N,fY t i=N:=⟨_,rfl⟩
 rw[hN];unfold fY at hN;rw[hnd] at h1 hN;have i1:=jU t.edges[i].fr 0 ((t.nodes.length:Int)-1);have i2:=jU t.edges[i].to 0 ((t.nodes.length:Int)-1);have b1:=aAs t.edges[i].ol t.edges[i].oh;have b2:=aAs t.edges[i].il t.edges[i].ih;have hins:∀n:Int,inZ n 0 ((t.nodes.length:Int)-1)=fQ t n:=fun n=>by simp only[inZ,fQ];congr 1;simp only[eq_iff_iff];omega
 rw[hins] at i1 i2;have hw0:IntKind.i64.wrap ((t.nodes.length:Int)-1)=(t.nodes.length:Int)-1:=by rw[aM (by omega) (by omega)]
 cases e1:cM t.edges[i].name
 .rw[e1] at h1 hN;rw[if_pos rfl] at hN;refine sI func129 ntmps129 fun Hb Ht=>?_
  repeat first|simp[hi]|refine sR ?_
  refine sD (h1 _ _) ?_;repeat first|simp|refine sR ?_
  refine sC ?_;repeat first|simp|refine sR ?_
  refine sT (sH Hb Ht ?_);simp[<-hN]
 .rw[e1] at h1 hN;rw[if_neg (by simp)] at hN;refine sI func129 ntmps129 fun Hb Ht=>?_
  repeat first|simp[hi]|refine sR ?_
  refine sD (h1 _ _) ?_;repeat first|simp|refine sR ?_
  refine sC ?_;repeat first|simp|refine sR ?_
  refine sN ?_;refine sL (aPG t i t.edges[i] nb box tok nt) (fun k=>k<=i/\aCu (t.edges.take k) t.edges[i].name=false) (fun k=>i-k) 0 ⟨Nat.zero_le _,rfl⟩ wkA ?_;rintro k S' ⟨hk,hm⟩ hS;simp only[aPG] at hS;subst hS;have hwk:=sW (i:=k) (by omega);repeat first|simp|refine sR ?_|refine sC ?_
  refine⟨fun hlk=>?_,fun hge=>?_⟩
  .have hkl:k<t.edges.length:=by omega
   by_cases e2:t.edges[k].name=t.edges[i].name
   .have b2:(t.edges[k].name.toList==t.edges[i].name.toList)=true:=by rw[cV];simp[e2]
    rw[if_pos (aI8 hkl hlk e2)] at hN;repeat first|simp[hi,hkl,b2]|refine sR ?_
    refine sC ?_;simp[b2];repeat first|simp|refine sR ?_
    refine sT (sH Hb Ht ?_);simp[<-hN]
   .have b2:(t.edges[k].name.toList==t.edges[i].name.toList)=false:=by rw[cV];simp[e2]
    repeat first|simp[hi,hkl,b2]|refine sR ?_
    refine sC ?_;simp[b2];repeat first|simp[hwk]|refine sR ?_
    refine sE ?_;exact⟨k+1,⟨hlk,aGb hkl hm e2⟩,by omega,wkA⟩
  .refine sX ?_;simp only[AU,↓reduceIte];have:k=i:=by omega
   subst this;rw[hm,if_neg (by simp)] at hN;unfold edR at hN;repeat first|simp[hi,hw0]|refine sR ?_
   refine sD (i1 _ _) ?_;simp;cases g1:fQ t t.edges[k].fr
   .rw[g1,if_pos rfl] at hN;repeat first|simp|refine sR ?_
    refine sC ?_;repeat first|simp|refine sR ?_
    refine sT (sH Hb Ht ?_);simp[<-hN]
   .rw[g1,if_neg (by simp)] at hN;repeat first|simp|refine sR ?_
    refine sD (i2 _ _) ?_;simp;cases g2:fQ t t.edges[k].to
    .rw[g2,if_pos rfl] at hN;repeat first|simp|refine sR ?_
     refine sC ?_;repeat first|simp|refine sR ?_
     refine sT (sH Hb Ht ?_);simp[<-hN]
    .rw[g2,if_neg (by simp)] at hN;repeat first|simp|refine sR ?_
     refine sD (b1 _ _) ?_;simp;cases g3:kB t.edges[k].ol t.edges[k].oh
     .rw[g3,if_pos rfl] at hN;repeat first|simp|refine sR ?_
      refine sC ?_;repeat first|simp|refine sR ?_
      refine sT (sH Hb Ht ?_);simp[<-hN]
     .rw[g3,if_neg (by simp)] at hN;repeat first|simp|refine sR ?_
      refine sD (b2 _ _) ?_;simp;cases g4:kB t.edges[k].il t.edges[k].ih
      .rw[g4,if_pos rfl] at hN;repeat first|simp|refine sR ?_
       refine sC ?_;repeat first|simp|refine sR ?_
       refine sT (sH Hb Ht ?_);simp[<-hN]
      .rw[g4,if_neg (by simp)] at hN;repeat first|simp|refine sR ?_
       refine sC ?_;repeat first|simp|refine sR ?_
       refine sT (sH Hb Ht ?_);simp[<-hN]
def iL(f:Nat->Int)(g:Nat->ByteArray):Nat->ByteArray
 | 0=>eB
 | n+1=>if aA f n=0 then (if f n=0 then eB else g n) else iL f g n
theorem gL{f:Nat->Int}{g:Nat->ByteArray}{i:Nat}(h0:aA f i=0)(h:f i≠0):∀n,i<n->iL f g n=g i
 | 0,hi=>absurd hi (Nat.not_lt_zero _)
 | n+1,hi=>by
  simp only[iL];by_cases e:i=n
  .subst e;rw[if_pos h0,if_neg h]
  .have:=aL h0 h n (by omega)
   rw[if_neg (by rw[this];exact h),gL h0 h n (by omega)]
theorem tI{f:Nat->Int}{g:Nat->ByteArray}:∀n,aA f n=0->iL f g n=eB
 | 0,_=>rfl
 | n+1,h=>by
  simp only[aA] at h;split at h
  .rename_i h1;rw[iL,if_pos h1,if_pos h]
  .rename_i h1;exact absurd h h1
def tyE(t:Ty):Int :=
 if t.nodes.length=0 then 7 else if 12<t.nodes.length then 3 else if 20<t.edges.length then 3
 else if aA (fI t) t.nodes.length≠0 then aA (fI t) t.nodes.length else aA (fY t) t.edges.length
def tyN(t:Ty):ByteArray :=
 if t.nodes.length=0 then eB else if 12<t.nodes.length then eB else if 20<t.edges.length then eB
 else if aA (fI t) t.nodes.length≠0 then iL (fI t) (fun i=>(t.nd i).name) t.nodes.length else iL (fY t) (fun i=>(t.ed i).name) t.edges.length
theorem vQ{t:Ty}{i:Nat}(h:fI t i=0):(t.nd i).par<i:=by
 unfold fI at h;split at h
 .cases h
 .split at h
  .cases h
  .split at h
   .cases h
   .omega
theorem dU{f:Nat->Int}:∀n,aA f n=0->∀i,i<n->f i=0
 | 0,_,i,hi=>absurd hi (Nat.not_lt_zero _)
 | n+1,h,i,hi=>by
  simp only[aA] at h;split at h
  .rename_i h1;by_cases e:i=n
   .subst e;exact h
   .exact dU n h1 i (by omega)
  .rename_i h1;exact absurd h h1
def aLN(t:Ty)(nb:Nat)(box:Bxs)(tok:Tks)(nt:Nat)(i:Nat):AS:=⟨tl [(4,I i),(1,.ptr (nb+1) 0 0)],lb nb box [(1,[[.d (nts t.nodes),.d (ets t.edges)]])],tok,nt⟩
def aLF(t:Ty)(nb:Nat)(box:Bxs)(tok:Tks)(nt:Nat)(i:Nat):AS:=⟨tl [(6,I i),(1,.ptr (nb+1) 0 0)],lb nb box [(1,[[.d (nts t.nodes),.d (ets t.edges)]])],tok,nt⟩
theorem kD(t:Ty)(ht:t.Fit)(hM:∀i,(t.nd i).own.length<=1000):DC 77 [t.av] (.tup [Sb (tyN t),I (tyE t)]):=by
 intro tok nt box nb;have htn:=ht.n;have hte:=ht.e;obtain⟨N,hN⟩:∃N,tyE t=N:=⟨_,rfl⟩
 obtain⟨Z,hZ⟩:∃Z,tyN t=Z:=⟨_,rfl⟩
 rw[hN,hZ];unfold tyE at hN;unfold tyN at hZ;by_cases e1:t.nodes.length=0
 .have e1':t.nodes=[]:=List.length_eq_zero_iff.1 e1
  rw[if_pos e1] at hN hZ;refine sI func77 ntmps77 fun Hb Ht=>?_
  repeat first|simp[e1']|refine sR ?_|refine sC ?_
  refine sT (sH Hb Ht ?_);simp[<-hN,<-hZ]
 .have e1':¬t.nodes=[]:=fun h=>e1 (by rw[h];rfl)
  rw[if_neg e1] at hN hZ;by_cases e2:12<t.nodes.length
  .have e2':(12:Int)<t.nodes.length:=by omega
   rw[if_pos e2] at hN hZ;refine sI func77 ntmps77 fun Hb Ht=>?_
   repeat first|simp[e1',e2,e2']|refine sR ?_
   refine sC ?_;simp[e1',e2,e2'];repeat first|simp[e2,e2']|refine sR ?_|refine sC ?_
   refine sT (sH Hb Ht ?_);simp[<-hN,<-hZ]
  .have e2':¬(12:Int)<t.nodes.length:=by omega
   rw[if_neg e2] at hN hZ;by_cases e3:20<t.edges.length
   .have e3':(20:Int)<t.edges.length:=by omega
    rw[if_pos e3] at hN hZ;refine sI func77 ntmps77 fun Hb Ht=>?_
    repeat first|simp[e1',e2,e2',e3,e3']|refine sR ?_
    refine sC ?_;simp[e1',e2,e2'];repeat first|simp[e2,e2',e3,e3']|refine sR ?_|refine sC ?_
    refine sT (sH Hb Ht ?_);simp[<-hN,<-hZ]
   .have e3':¬(20:Int)<t.edges.length:=by omega
    rw[if_neg e3] at hN hZ;refine sI func77 ntmps77 fun Hb Ht=>?_
    repeat first|simp[e1',e2,e2',e3,e3']|refine sR ?_
    refine sC ?_;simp[e1',e2,e2'];repeat first|simp[e2,e2',e3,e3']|refine sR ?_|refine sC ?_
    refine sN ?_;refine sL (aLN t nb box tok nt) (fun i=>i<=t.nodes.length/\aA (fI t) i=0) (fun i=>t.nodes.length-i) 0 ⟨Nat.zero_le _,rfl⟩ wkA ?_;rintro i S' ⟨hi,hok⟩ hS;simp only[aLN] at hS;subst hS;have hw:=sW (i:=i) (by omega);repeat first|simp|refine sR ?_|refine sC ?_
    refine⟨fun hlt=>?_,fun hge=>?_⟩
    .have hc:=aI4 t ht hM i hlt (fun j hj=>vQ (dU i hok j hj));have hR:fI t i≠0->aA (fI t) t.nodes.length=fI t i:=fun h0=>aL hok h0 _ hlt
     have hR2:fI t i≠0->iL (fI t) (fun i=>(t.nd i).name) t.nodes.length=t.nodes[i].name:=fun h0=>by rw[gL hok h0 _ hlt,iE hlt]
     have hnx:fI t i=0->aA (fI t) (i+1)=0:=fun h0=>by simp only[aA,hok,h0,↓reduceIte]
     generalize fI t i=E at *;repeat first|simp[hlt]|refine sR ?_
     refine sD (hc _ _) ?_;repeat first|simp|refine sR ?_
     by_cases e7:E=0
     .refine sC ?_;simp[e7];repeat first|simp[hw]|refine sR ?_
      refine sE ?_;exact⟨i+1,⟨hlt,hnx e7⟩,by omega,wkA⟩
     .have b7:(E != 0)=true:=by simp[e7]
      rw[hR e7,if_pos e7] at hN hZ;rw[hR2 e7] at hZ;refine sC ?_;simp[e7,b7];repeat first|simp[hlt]|refine sR ?_
      refine sT (sH Hb Ht ?_);simp[<-hN,<-hZ]
    .refine sX ?_;simp only[AU,↓reduceIte];have:i=t.nodes.length:=by omega
     subst this;rw[if_neg (by rw[hok];simp)] at hN hZ;repeat first|simp|refine sR ?_
     refine sN ?_;refine sL (aLF t nb box tok nt) (fun i=>i<=t.edges.length/\aA (fY t) i=0) (fun i=>t.edges.length-i) 0 ⟨Nat.zero_le _,rfl⟩ wkA ?_;rintro i S' ⟨hi,hok2⟩ hS;simp only[aLF] at hS;subst hS;have hw:=sW (i:=i) (by omega);repeat first|simp|refine sR ?_|refine sC ?_
     refine⟨fun hlt=>?_,fun hge=>?_⟩
     .have hc:=aJf t ht i hlt;have hR:fY t i≠0->aA (fY t) t.edges.length=fY t i:=fun h0=>aL hok2 h0 _ hlt
      have hR2:fY t i≠0->iL (fY t) (fun i=>(t.ed i).name) t.edges.length=t.edges[i].name:=fun h0=>by rw[gL hok2 h0 _ hlt,wB hlt]
      have hnx:fY t i=0->aA (fY t) (i+1)=0:=fun h0=>by simp only[aA,hok2,h0,↓reduceIte]
      generalize fY t i=E at *;repeat first|simp[hlt]|refine sR ?_
      refine sD (hc _ _) ?_;repeat first|simp|refine sR ?_
      by_cases e7:E=0
      .refine sC ?_;simp[e7];repeat first|simp[hw]|refine sR ?_
       refine sE ?_;exact⟨i+1,⟨hlt,hnx e7⟩,by omega,wkA⟩
      .have b7:(E != 0)=true:=by simp[e7]
       rw[hR e7] at hN;rw[hR2 e7] at hZ;refine sC ?_;simp[e7,b7];repeat first|simp[hlt]|refine sR ?_
       refine sT (sH Hb Ht ?_);simp[<-hN,<-hZ]
     .refine sX ?_;simp only[AU,↓reduceIte];have:i=t.edges.length:=by omega
      subst this;rw[hok2] at hN;rw[tI _ hok2] at hZ;repeat first|simp|refine sR ?_
      refine sT (sH Hb Ht ?_);simp[<-hN,<-hZ]
def aPC(t:Ty)(nb:Nat)(box:Bxs)(tok:Tks)(nt:Nat)(i:Nat):AS:=⟨tl [(29,I i),(28,I t.nodes.length),(27,.d (nts t.nodes)),(1,.ptr (nb+1) 0 0)],lb nb box [(1,[[.d (nts t.nodes),.d (ets t.edges)]])],tok,nt⟩
def aOo(t:Ty)(nb:Nat)(box:Bxs)(tok:Tks)(nt:Nat)(i:Nat):AS:=⟨tl [(46,I i),(45,I t.edges.length),(44,.d (ets t.edges)),(1,.ptr (nb+1) 0 0)],lb nb box [(1,[[.d (nts t.nodes),.d (ets t.edges)]])],tok,nt⟩
theorem nC(t:Ty)(ht:t.Fit)(hM:∀i,(t.nd i).own.length<=1000):DC 119 [t.av] (.tup [Sb (tyN t),I (tyE t)]):=by
 intro tok nt box nb;have htn:=ht.n;have hte:=ht.e;obtain⟨N,hN⟩:∃N,tyE t=N:=⟨_,rfl⟩
 obtain⟨Z,hZ⟩:∃Z,tyN t=Z:=⟨_,rfl⟩
 rw[hN,hZ];unfold tyE at hN;unfold tyN at hZ;by_cases e1:t.nodes.length=0
 .have e1':t.nodes=[]:=List.length_eq_zero_iff.1 e1
  rw[if_pos e1] at hN hZ;refine sI func119 ntmps119 fun Hb Ht=>?_
  repeat first|simp[e1']|refine sR ?_|refine sC ?_
  refine sT (sH Hb Ht ?_);simp[<-hN,<-hZ]
 .have e1':¬t.nodes=[]:=fun h=>e1 (by rw[h];rfl)
  rw[if_neg e1] at hN hZ;by_cases e2:12<t.nodes.length
  .have e2':(12:Int)<t.nodes.length:=by omega
   rw[if_pos e2] at hN hZ;refine sI func119 ntmps119 fun Hb Ht=>?_
   repeat first|simp[e1',e2,e2']|refine sR ?_
   refine sC ?_;simp[e1',e2,e2'];repeat first|simp[e2,e2']|refine sR ?_|refine sC ?_
   refine sT (sH Hb Ht ?_);simp[<-hN,<-hZ]
  .have e2':¬(12:Int)<t.nodes.length:=by omega
   rw[if_neg e2] at hN hZ;by_cases e3:20<t.edges.length
   .have e3':(20:Int)<t.edges.length:=by omega
    rw[if_pos e3] at hN hZ;refine sI func119 ntmps119 fun Hb Ht=>?_
    repeat first|simp[e1',e2,e2',e3,e3']|refine sR ?_
    refine sC ?_;simp[e1',e2,e2'];repeat first|simp[e2,e2',e3,e3']|refine sR ?_|refine sC ?_
    refine sT (sH Hb Ht ?_);simp[<-hN,<-hZ]
   .have e3':¬(20:Int)<t.edges.length:=by omega
    rw[if_neg e3] at hN hZ;refine sI func119 ntmps119 fun Hb Ht=>?_
    repeat first|simp[e1',e2,e2',e3,e3']|refine sR ?_
    refine sC ?_;simp[e1',e2,e2'];repeat first|simp[e2,e2',e3,e3']|refine sR ?_|refine sC ?_
    refine sN ?_;refine sL (aPC t nb box tok nt) (fun i=>i<=t.nodes.length/\aA (fI t) i=0) (fun i=>t.nodes.length-i) 0 ⟨Nat.zero_le _,rfl⟩ wkA ?_;rintro i S' ⟨hi,hok⟩ hS;simp only[aPC] at hS;subst hS;have hw:=sW (i:=i) (by omega);repeat first|simp|refine sR ?_|refine sC ?_
    refine⟨fun hlt=>?_,fun hge=>?_⟩
    .have hc:=aMG t ht hM i hlt (fun j hj=>vQ (dU i hok j hj));have hR:fI t i≠0->aA (fI t) t.nodes.length=fI t i:=fun h0=>aL hok h0 _ hlt
     have hR2:fI t i≠0->iL (fI t) (fun i=>(t.nd i).name) t.nodes.length=t.nodes[i].name:=fun h0=>by rw[gL hok h0 _ hlt,iE hlt]
     have hnx:fI t i=0->aA (fI t) (i+1)=0:=fun h0=>by simp only[aA,hok,h0,↓reduceIte]
     generalize fI t i=E at *;repeat first|simp[hlt]|refine sR ?_
     refine sD (hc _ _) ?_;repeat first|simp|refine sR ?_
     by_cases e7:E=0
     .refine sC ?_;simp[e7];repeat first|simp[hw]|refine sR ?_
      refine sE ?_;exact⟨i+1,⟨hlt,hnx e7⟩,by omega,wkA⟩
     .have b7:(E != 0)=true:=by simp[e7]
      rw[hR e7,if_pos e7] at hN hZ;rw[hR2 e7] at hZ;refine sC ?_;simp[e7,b7];repeat first|simp[hlt]|refine sR ?_
      refine sT (sH Hb Ht ?_);simp[<-hN,<-hZ]
    .refine sX ?_;simp only[AU,↓reduceIte];have:i=t.nodes.length:=by omega
     subst this;rw[if_neg (by rw[hok];simp)] at hN hZ;repeat first|simp|refine sR ?_
     refine sN ?_;refine sL (aOo t nb box tok nt) (fun i=>i<=t.edges.length/\aA (fY t) i=0) (fun i=>t.edges.length-i) 0 ⟨Nat.zero_le _,rfl⟩ wkA ?_;rintro i S' ⟨hi,hok2⟩ hS;simp only[aOo] at hS;subst hS;have hw:=sW (i:=i) (by omega);repeat first|simp|refine sR ?_|refine sC ?_
     refine⟨fun hlt=>?_,fun hge=>?_⟩
     .have hc:=aM9 t ht i hlt;have hR:fY t i≠0->aA (fY t) t.edges.length=fY t i:=fun h0=>aL hok2 h0 _ hlt
      have hR2:fY t i≠0->iL (fY t) (fun i=>(t.ed i).name) t.edges.length=t.edges[i].name:=fun h0=>by rw[gL hok2 h0 _ hlt,wB hlt]
      have hnx:fY t i=0->aA (fY t) (i+1)=0:=fun h0=>by simp only[aA,hok2,h0,↓reduceIte]
      generalize fY t i=E at *;repeat first|simp[hlt]|refine sR ?_
      refine sD (hc _ _) ?_;repeat first|simp|refine sR ?_
      by_cases e7:E=0
      .refine sC ?_;simp[e7];repeat first|simp[hw]|refine sR ?_
       refine sE ?_;exact⟨i+1,⟨hlt,hnx e7⟩,by omega,wkA⟩
      .have b7:(E != 0)=true:=by simp[e7]
       rw[hR e7] at hN;rw[hR2 e7] at hZ;refine sC ?_;simp[e7,b7];repeat first|simp[hlt]|refine sR ?_
       refine sT (sH Hb Ht ?_);simp[<-hN,<-hZ]
     .refine sX ?_;simp only[AU,↓reduceIte];have:i=t.edges.length:=by omega
      subst this;rw[hok2] at hN;rw[tI _ hok2] at hZ;repeat first|simp|refine sR ?_
      refine sT (sH Hb Ht ?_);simp[<-hN,<-hZ]
structure Ru where
 name:ByteArray
 lg:Gr
 lsl:List Sl
 lv:Int
 lte:List Te
 rg:Gr
 rsl:List Sl
 rv:Int
 rte:List Te
 k:Mo
 i:Mo
 inj:Bool
 c:Cd
abbrev Ru.row(r:Ru):List AV:=[.d (.raw (.string r.name)),.d (ints r.lg.nodes),.d (AM.edges r.lg.edges),.d (gS r.lsl),I r.lv,.d (gR r.lte),.d (ints r.rg.nodes),.d (AM.edges r.rg.edges),.d (gS r.rsl),I r.rv,.d (gR r.rte),
 .d (ints r.k.nodes),.d (ints r.k.edges),.d (ints r.i.nodes),.d (ints r.i.edges),B r.inj,I r.c.kind,.d (aAE r.c.kids),.d (ints r.c.m.nodes),.d (ints r.c.m.edges),.d (ints r.c.g.nodes),.d (AM.edges r.c.g.edges),.d (gS r.c.sl),I r.c.vars,.d (gR r.c.te)]
abbrev Ru.av(r:Ru):AV:=.agg r.row
structure Ru.Fit (r:Ru):Prop where
 lg:r.lg.Fit
 rg:r.rg.Fit
 k:r.k.Fit
 i:r.i.Fit
 ls:r.lsl.length<=dN
 lt:r.lte.length<=dN
 rs:r.rsl.length<=dN
 rt:r.rte.length<=dN
def Ru.sp(r:Ru):Sp:=⟨r.lg,r.rg,r.k,r.i⟩
def Ru.plainL(r:Ru):Prop:=r.lsl.length+r.lte.length=0/\r.lv=0
def Ru.plainR(r:Ru):Prop:=r.rsl.length+r.rte.length=0/\r.rv=0
instance (r:Ru):Decidable r.plainL:=inferInstanceAs (Decidable (_/\_))
instance (r:Ru):Decidable r.plainR:=inferInstanceAs (Decidable (_/\_))
def cN(r:Ru):Int :=
 if vG r.lg≠0 then vG r.lg else if vG r.rg≠0 then vG r.rg else if cR r.lg r.k≠0 then cR r.lg r.k
 else if aG (exG r.lg r.k) r.rg r.i≠0 then aG (exG r.lg r.k) r.rg r.i else if fV (exG r.lg r.k) r.rg r.i=false then 11
 else if r.plainL/\r.plainR/\r.inj=true then 0 else 8
theorem gD{r:Ru}(h:cN r=0):aBe r.sp/\vG r.lg=0/\vG r.rg=0:=by
 unfold cN at h;split at h
 .contradiction
 .split at h
  .contradiction
  .split at h
   .contradiction
   .split at h
    .contradiction
    .split at h
     .cases h
     .rename_i h1 h2 h3 h4 h5;exact⟨⟨VP.of (Decidable.not_not.1 h3),Emb.of (show fV (exG r.lg r.k) r.rg r.i=true by simpa using h5)⟩,Decidable.not_not.1 h1,Decidable.not_not.1 h2⟩
end Go.AM
