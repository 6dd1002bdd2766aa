import Derived.Test.YtchfmhhbiealcaaGreatDoorPIC14
set_option linter.unusedSimpArgs false
set_option linter.unusedVariables false
namespace Go.AM
open Go Go.Proofs
open Go.Proofs.Tryz
def aOm(t:Ty)(p g:Gr)(m:Mo)(nb:Nat)(box:Bxs)(tok:Tks)(nt:Nat)(i:Nat):AS :=
 ⟨tl [(37,I i),(36,I m.nodes.length),(35,.d (ints m.nodes)),(9,.d (isD t)),(7,.ptr (nb+7) 0 0),(6,.ptr (nb+6) 0 0),(5,.ptr (nb+5) 0 0)],lb nb box [(7,[[.d (ints m.nodes),.d (ints m.edges)]]),(6,[[.d (ints g.nodes),.d (AM.edges g.edges)]]),(5,[[.d (ints p.nodes),.d (AM.edges p.edges)]])],tok,nt⟩
def aNF(p g:Gr)(m:Mo)(nb:Nat)(box:Bxs)(tok:Tks)(nt:Nat)(i:Nat):AS :=
 ⟨tl [(71,I i),(70,I m.edges.length),(69,.d (ints m.edges)),(7,.ptr (nb+7) 0 0),(6,.ptr (nb+6) 0 0),(5,.ptr (nb+5) 0 0)],lb nb box [(7,[[.d (ints m.nodes),.d (ints m.edges)]]),(6,[[.d (ints g.nodes),.d (AM.edges g.edges)]]),(5,[[.d (ints p.nodes),.d (AM.edges p.edges)]])],tok,nt⟩
set_option maxRecDepth 100000 in
theorem aI4(t:Ty)(ht:t.Fit)(p g:Gr)(hp:p.Fit)(hg:g.Fit)(h0:kO t p g=0)(m:Mo):DC 151 [t.av,p.av,g.av,m.av] (I (gN t p g m)):=by
 intro tok nt box nb;have v6:=hp.n;have s8:=hp.e;have sc:=hg.n;have hge:=hg.e;obtain⟨hT,A2,Eb,typ,tyg⟩:=nF h0;have yu:=aD A2;have AO:=gB typ;have uy:=gB tyg;have hb:=aC9 t ht hT;refine sI func151 ntmps151 fun Hb Ht=>?_
 by_cases l1:m.nodes.length=p.nodes.length
 case neg =>
  have hR:gN t p g m=20:=by unfold gN;rw[af (.inl l1)]
  have b1:((m.nodes.length:Int) != (p.nodes.length:Int))=true:=by simp;omega
  rw[hR];try (simp[b1])
  repeat ((first|refine sR ?_|apply sC|apply sX);simp[b1])
  refine sT (sH ?_);simp
 by_cases l2:m.edges.length=p.edges.length
 case neg =>
  have hR:gN t p g m=20:=by unfold gN;rw[af (.inr l2)]
  have b1:((m.nodes.length:Int) != (p.nodes.length:Int))=false:=by simp;omega
  have b2:((m.edges.length:Int) != (p.edges.length:Int))=true:=by simp;omega
  rw[hR];try (simp[b1,b2])
  repeat ((first|refine sR ?_|apply sC|apply sX);simp[b1,b2])
  refine sT (sH ?_);simp
 have b1:((m.nodes.length:Int) != (p.nodes.length:Int))=false:=by simp;omega
 have b2:((m.edges.length:Int) != (p.edges.length:Int))=false:=by simp;omega
 try (simp[b1,b2])
 repeat ((first|refine sR ?_|apply sC|apply sX);simp[b1,b2])
 refine sD (hb _ _) ?_;simp;try (simp)
 repeat ((first|refine sR ?_|apply sC|apply sX);simp)
 apply sN;have rj:∀i,i<m.nodes.length->aA (iX t p g m) i=0->∀e,iX t p g m i=e->e≠0->gN t p g m=e:=fun i hi h1 e h2 h3=>by
  rw[aHB l1 l2 h1 hi (by rw[h2];exact h3),h2]
 refine sL (aOm t p g m nb box tok nt) (fun i=>i<=m.nodes.length/\aA (iX t p g m) i=0) (fun i=>m.nodes.length-i) 0 ⟨ai _,rfl⟩ wkA ?_;rintro i S ⟨hi,gt⟩ hS;simp only[aOm] at hS;subst hS;have hw:=sW (i:=i) (by omega);by_cases hlt:i<m.nodes.length
 .have j4:i<p.nodes.length:=by omega
  have j7:m.nodes.getD i 0=m.nodes[i]:=by simp[hlt]
  have l8:p.nodes.getD i 0=p.nodes[i]:=by simp[j4]
  have yl:=AO _ (aa j4);obtain⟨v,hv⟩:∃v,m.nodes[i]=v:=⟨_,rfl⟩
  obtain⟨z,hz⟩:∃z,p.nodes[i]=z:=⟨_,rfl⟩
  rw[hv] at j7;rw[hz] at l8 yl;by_cases g8:v<0
  .have hR:=rj i hlt gt 6 (by simp only[iX,j7];rw[af (.inl g8)]) (by decide);rw[hR];try (simp[hlt,hv,g8])
   repeat ((first|refine sR ?_|apply sC|apply sX);simp[hlt,hv,g8])
   refine sT (sH ?_);simp
  by_cases hbig:(g.nodes.length:Int)<=v
  .have hR:=rj i hlt gt 6 (by simp only[iX,j7];rw[af (.inr hbig)]) (by decide);rw[hR];try (simp[hlt,hv,g8,hbig])
   repeat ((first|refine sR ?_|apply sC|apply sX);simp[hlt,hv,g8,hbig])
   refine sT (sH ?_);simp
  have iv:v.toNat<g.nodes.length:=by omega
  have uu:0<=v:=by omega
  have py:v<(g.nodes.length:Int):=by omega
  have lq:g.nodes.getD v.toNat 0=g.nodes[v.toNat]:=by simp[iv]
  have og:=uy _ (aa iv);obtain⟨y,hy⟩:∃y,g.nodes[v.toNat]=y:=⟨_,rfl⟩
  rw[hy] at og lq;obtain⟨q,rfl⟩:=ch yl.1;obtain⟨u,rfl⟩:=ch og.1;have nu:q<t.nodes.length:=by omega
  have pc:u<t.nodes.length:=by omega
  have k7:(lP t).length=t.nodes.length:=by simp[lP]
  have ja:(eO t q).length=t.nodes.length:=by simp[eO]
  have hrow:(lP t)[q]'(by rw[k7];exact nu)=eO t q:=aAz nu
  have hcol:(eO t q)[u]'(by rw[ja];exact pc)=isB t (u:Int) (q:Int):=by simp[eO]
  cases hB:isB t (u:Int) (q:Int)
  .have hR:=rj i hlt gt 13 (by simp only[iX,j7,l8,lq];rw[ac (by omega),ac (by simp[hB])]) (by decide);rw[hR];try (simp[hlt,hv,g8,hbig,iv,uu,py,j4,hz,hy,nu,pc,isD,k7,ja,hrow,hcol,hB])
   repeat ((first|refine sR ?_|apply sC|apply sX);simp[hlt,hv,g8,hbig,iv,uu,py,j4,hz,hy,nu,pc,isD,k7,ja,hrow,hcol,hB])
   refine sT (sH ?_);simp
  .have hN:iX t p g m i=0:=by simp only[iX,j7,l8,lq];rw[ac (by omega),af hB]
   try (simp[hlt,hv,g8,hbig,iv,uu,py,j4,hz,hy,nu,pc,isD,k7,ja,hrow,hcol,hB,hw])
   repeat ((first|refine sR ?_|apply sC|apply sX);simp[hlt,hv,g8,hbig,iv,uu,py,j4,hz,hy,nu,pc,isD,k7,ja,hrow,hcol,hB,hw])
   apply sE;refine⟨i+1,⟨hlt,?_⟩,by omega,wM (nr0 _) rfl (by simp[ToL,lk,isD]) (by simp[aE,lk])⟩;simp only[aA,gt,hN,↓reduceIte]
 .have i6:i=m.nodes.length:=by omega
  subst i6;try (simp)
  repeat ((first|refine sR ?_|apply sC|apply sX);simp)
  apply sN;have oi:∀i,i<m.edges.length->aA (gZ p g m) i=0->∀e,gZ p g m i=e->e≠0->gN t p g m=e:=fun i hi h1 e h2 h3=>by
   rw[aH4 l1 l2 gt h1 hi (by rw[h2];exact h3),h2]
  refine sL (aNF p g m nb box tok nt) (fun i=>i<=m.edges.length/\aA (gZ p g m) i=0) (fun i=>m.edges.length-i) 0 ⟨ai _,rfl⟩ wkA ?_;rintro i S ⟨hi,i8⟩ hS;simp only[aNF] at hS;subst hS;have hw:=sW (i:=i) (by omega);by_cases hlt:i<m.edges.length
  .have j4:i<p.edges.length:=by omega
   have j7:m.edges.getD i 0=m.edges[i]:=by simp[hlt]
   have l8:p.edges.getD i default=p.edges[i]:=by simp[j4]
   obtain⟨x1,x2,x3,x4⟩:=yu _ (aa j4);obtain⟨v,hv⟩:∃v,m.edges[i]=v:=⟨_,rfl⟩
   obtain⟨x,hx⟩:∃x,p.edges[i]=x:=⟨_,rfl⟩
   rw[hv] at j7;rw[hx] at l8 x1 x2 x3 x4;rw[<-l1] at x2 x4;have y1:x.fr.toNat<m.nodes.length:=by omega
   have y2:x.to.toNat<m.nodes.length:=by omega
   have mt:m.nodes.getD x.fr.toNat 0=m.nodes[x.fr.toNat]:=by simp[y1]
   have nq:m.nodes.getD x.to.toNat 0=m.nodes[x.to.toNat]:=by simp[y2]
   by_cases g8:v<0
   .have hR:=oi i hlt i8 6 (by simp only[gZ,j7];rw[af (.inl g8)]) (by decide);rw[hR];try (simp[hlt,hv,g8])
    repeat ((first|refine sR ?_|apply sC|apply sX);simp[hlt,hv,g8])
    refine sT (sH ?_);simp
   by_cases hbig:(g.edges.length:Int)<=v
   .have hR:=oi i hlt i8 6 (by simp only[gZ,j7];rw[af (.inr hbig)]) (by decide);rw[hR];try (simp[hlt,hv,g8,hbig])
    repeat ((first|refine sR ?_|apply sC|apply sX);simp[hlt,hv,g8,hbig])
    refine sT (sH ?_);simp
   have iv:v.toNat<g.edges.length:=by omega
   have uu:0<=v:=by omega
   have py:v<(g.edges.length:Int):=by omega
   have lq:g.edges.getD v.toNat default=g.edges[v.toNat]:=by simp[iv]
   have hnn:¬(v<0∨(g.edges.length:Int)<=v):=by omega
   obtain⟨y,hy⟩:∃y,g.edges[v.toNat]=y:=⟨_,rfl⟩
   rw[hy] at lq;refine sR ?_;simp[hlt,hv,g8,hbig];apply sC;simp[hlt];refine sR ?_;simp[hlt,hv,g8,hbig];refine sR ?_;simp[hlt,hv,g8,hbig];apply sC;simp;apply sN;refine AL.region2 cC (nr0 _) (by kernel_rfl) (rF.of (by simp)) ?_;simp[iv,uu,py,j4,hlt,hv,hx,hy];refine sR ?_;simp;apply sC;simp;refine⟨fun oj=>?_,fun oj=>?_⟩
   .have hR:=oi i hlt i8 13 (by simp only[gZ,j7,l8,lq];rw[ac hnn,af oj]) (by decide);rw[hR];try (simp)
    repeat ((first|refine sR ?_|apply sC|apply sX);simp)
    refine sT (sH ?_);simp
   .by_cases kw:m.nodes[x.fr.toNat]=y.fr
    .have jz:(m.nodes[x.fr.toNat] != y.fr)=false:=by simp[kw]
     by_cases hto:m.nodes[x.to.toNat]=y.to
     .have hb2:(m.nodes[x.to.toNat] != y.to)=false:=by simp[hto]
      have hN:gZ p g m i=0:=by simp only[gZ,j7,l8,lq,mt,nq];rw[ac hnn,ac (by simpa using oj),ac (by simp[kw,hto])]
      try (simp[x1,x2,x3,x4,y1,y2,jz,hb2,hw])
      repeat ((first|refine sR ?_|apply sC|apply sX);simp[x1,x2,x3,x4,y1,y2,jz,hb2,hw])
      apply sE;refine⟨i+1,⟨hlt,?_⟩,by omega,wkA⟩;simp only[aA,i8,hN,↓reduceIte]
     .have hb2:(m.nodes[x.to.toNat] != y.to)=true:=by simp[hto]
      have hR:=oi i hlt i8 11 (by simp only[gZ,j7,l8,lq,mt,nq];rw[ac hnn,ac (by simpa using oj),af (.inr hto)]) (by decide);rw[hR];try (simp[x1,x2,x3,x4,y1,y2,jz,hb2])
      repeat ((first|refine sR ?_|apply sC|apply sX);simp[x1,x2,x3,x4,y1,y2,jz,hb2])
      refine sT (sH ?_);simp
    .have jz:(m.nodes[x.fr.toNat] != y.fr)=true:=by simp[kw]
     have hR:=oi i hlt i8 11 (by simp only[gZ,j7,l8,lq,mt,nq];rw[ac hnn,ac (by simpa using oj),af (.inl kw)]) (by decide);rw[hR];try (simp[x1,x2,x3,x4,y1,y2,jz])
     repeat ((first|refine sR ?_|apply sC|apply sX);simp[x1,x2,x3,x4,y1,y2,jz])
     refine sT (sH ?_);simp
  .have i6:i=m.edges.length:=by omega
   subst i6;have C1:gN t p g m=0:=by
    unfold gN;rw[ac (by omega),ac (by simp[gt]),i8]
   rw[C1];try (simp)
   repeat ((first|refine sR ?_|apply sC|apply sX);simp)
   refine sT (sH ?_);simp
theorem aHb(t:Ty)(ht:t.Fit)(p g:Gr)(hp:p.Fit)(hg:g.Fit)(m:Mo)(inj:Bool):DC 95 [t.av,p.av,g.av,m.av,B inj] (I (xC t p g m inj)):=by
 intro tok nt box nb;have rm:=aCL t ht p g hp hg;obtain⟨R,hR⟩:∃R,xC t p g m inj=R:=⟨_,rfl⟩
 rw[hR];unfold xC vA at hR;refine sI func95 ntmps95 fun Hb Ht=>?_
 repeat first|simp|refine sR ?_
 refine sD (rm _ _) ?_;simp;by_cases c1:kO t p g=0
 .rw[ac (by simp[c1])] at hR;have hm:=aI4 t ht p g hp hg c1 m;try (simp[c1])
  repeat ((first|refine sR ?_|apply sC|apply sX);simp[c1])
  refine sD (hm _ _) ?_;simp;by_cases c2:gN t p g m=0
  .rw[ac (by simp[c2])] at hR;have hl:m.nodes.length=p.nodes.length/\m.edges.length=p.edges.length:=by
    unfold gN at c2;split at c2
    .cases c2
    .omega
   have v6:=hp.n;have s8:=hp.e;have t1:=aFB m.nodes (by omega);have t2:=aFB m.edges (by omega);have k1:=aFo m.nodes;have k2:=aFo m.edges;cases inj
   .rw[ac (by simp)] at hR;try (simp[c2])
    repeat ((first|refine sR ?_|apply sC|apply sX);simp[c2])
    refine sT (sH ?_);simp[<-hR]
   .try (simp[c2])
    repeat ((first|refine sR ?_|apply sC|apply sX);simp[c2])
    refine sD (t1 _ _) ?_;simp;cases e1:twK m.nodes
    .rw[e1] at k1;try (simp)
     repeat ((first|refine sR ?_|apply sC|apply sX);simp)
     refine sD (t2 _ _) ?_;simp;cases e2:twK m.edges
     .rw[e2] at k2;rw[ac (by rintro⟨_,h|h⟩;exact absurd (k1.2 h) (by simp);exact absurd (k2.2 h) (by simp))] at hR;try (simp)
      repeat ((first|refine sR ?_|apply sC|apply sX);simp)
      refine sT (sH ?_);simp[<-hR]
     .rw[af ⟨rfl,.inr (k2.1 e2)⟩] at hR;try (simp)
      repeat ((first|refine sR ?_|apply sC|apply sX);simp)
      refine sT (sH ?_);simp[<-hR]
    .rw[af ⟨rfl,.inl (k1.1 e1)⟩] at hR;try (simp)
     repeat ((first|refine sR ?_|apply sC|apply sX);simp)
     refine sT (sH ?_);simp[<-hR]
  .rw[af c2] at hR;try (simp[c2])
   repeat ((first|refine sR ?_|apply sC|apply sX);simp[c2])
   refine sT (sH ?_);simp[<-hR]
 .rw[af c1] at hR;try (simp[c1])
  repeat ((first|refine sR ?_|apply sC|apply sX);simp[c1])
  refine sT (sH ?_);simp[<-hR]
def aLA(xs ys:List Int)(nb:Nat)(box:Bxs)(tok:Tks)(nt:Nat)(i:Nat):AS :=
 ⟨tl [(0,.d (ints xs)),(1,.d (ints ys)),(12,I xs.length),(13,I i)],lb nb box [],tok,nt⟩
set_option maxRecDepth 100000 in
theorem aDg(xs ys:List Int)(hx:xs.length<=1000000):DC 36 [.d (ints xs),.d (ints ys)] (B (decide (xs=ys))):=by
 intro tok nt box nb;refine sI func36 ntmps36 fun Hb Ht=>?_
 by_cases hl:xs.length=ys.length
 .have kj:(xs.length:Int)=ys.length:=by omega
  try (simp[kj])
  repeat ((first|refine sR ?_|apply sC|apply sX);simp[kj])
  apply sN;refine sL (aLA xs ys nb box tok nt) (fun i=>i<=xs.length/\xs.take i=ys.take i) (fun i=>xs.length-i) 0 ⟨ai _,by simp⟩ (wM (nr0 _) rfl (by simp[ToL,lk,hl]) trivial) ?_;rintro i S' ⟨hi,htk⟩ hS;simp only[aLA] at hS;subst hS;have hw:=sW (i:=i) (by omega);by_cases hlt:i<xs.length
  .have ja:i<ys.length:=by omega
   by_cases he:xs[i]=ys[i]
   .have b2:(xs[i] != ys[i])=false:=by simp[he]
    try (simp[hlt,ja,b2,he,hw])
    repeat ((first|refine sR ?_|apply sC|apply sX);simp[hlt,ja,b2,he,hw])
    apply sE;refine⟨i+1,⟨hlt,?_⟩,by omega,wM (nr0 _) rfl (by simp[ToL,lk]) trivial⟩;rw[ah hlt,ah ja,htk,he]
   .have b2:(xs[i] != ys[i])=true:=by simp[he]
    have hne:¬xs=ys:=fun e=>he (by subst e;rfl)
    try (simp[hlt,ja,b2,he])
    repeat ((first|refine sR ?_|apply sC|apply sX);simp[hlt,ja,b2,he])
    refine sT (sH ?_);simp[hne]
  .have AH:xs=ys:=by rw[ak (by omega),ak (by omega)] at htk;exact htk
   try (simp[hlt])
   repeat ((first|refine sR ?_|apply sC|apply sX);simp[hlt])
   refine sT (sH ?_);simp[AH]
 .have kj:¬(xs.length:Int)=ys.length:=by omega
  have hne:¬xs=ys:=fun e=>hl (by rw[e])
  have b2:((xs.length:Int) != ys.length)=true:=by simp[kj]
  try (simp[kj,b2,hl])
  repeat ((first|refine sR ?_|apply sC|apply sX);simp[kj,b2,hl])
  refine sT (sH ?_);simp[hne]
def aLF(xs ys:List E)(nb:Nat)(box:Bxs)(tok:Tks)(nt:Nat)(i:Nat):AS :=
 ⟨tl [(0,.d (AM.edges xs)),(1,.d (AM.edges ys)),(12,I xs.length),(13,I i)],lb nb box [],tok,nt⟩
set_option maxRecDepth 100000 in
theorem aGT(xs ys:List E)(hx:xs.length<=1000000):DC 150 [.d (AM.edges xs),.d (AM.edges ys)] (B (decide (xs=ys))):=by
 intro tok nt box nb;refine sI func150 ntmps150 fun Hb Ht=>?_
 by_cases hl:xs.length=ys.length
 .have kj:(xs.length:Int)=ys.length:=by omega
  try (simp[kj])
  repeat ((first|refine sR ?_|apply sC|apply sX);simp[kj])
  apply sN;refine sL (aLF xs ys nb box tok nt) (fun i=>i<=xs.length/\xs.take i=ys.take i) (fun i=>xs.length-i) 0 ⟨ai _,by simp⟩ (wM (nr0 _) rfl (by simp[ToL,lk,hl]) trivial) ?_;rintro i S' ⟨hi,htk⟩ hS;simp only[aLF] at hS;subst hS;have hw:=sW (i:=i) (by omega);by_cases hlt:i<xs.length
  .have ja:i<ys.length:=by omega
   have mo:xs[i]=ys[i]↔xs[i].ty=ys[i].ty/\xs[i].fr=ys[i].fr/\xs[i].to=ys[i].to:=by cases xs[i];cases ys[i];simp
   refine sR ?_;simp[hlt];apply sC;simp[hlt];refine sR ?_;simp[hlt];refine sR ?_;simp[hlt,ja];apply sC;simp;refine⟨fun hne=>?_,fun e1 e2 e3=>?_⟩
   .have:¬xs=ys:=fun e=>by
     have e2:xs[i]=ys[i]:=by simp[e]
     have e3:=mo.1 e2;simp[e3] at hne
    try (simp)
    repeat ((first|refine sR ?_|apply sC|apply sX);simp)
    refine sT (sH ?_);simp[this]
   .try (simp[hw])
    repeat ((first|refine sR ?_|apply sC|apply sX);simp[hw])
    apply sE;refine⟨i+1,⟨hlt,?_⟩,by omega,wM (nr0 _) rfl (by simp[ToL,lk]) trivial⟩;rw[ah hlt,ah ja,htk,mo.2 ⟨e1,e2,e3⟩]
  .have AH:xs=ys:=by rw[ak (by omega),ak (by omega)] at htk;exact htk
   try (simp[hlt])
   repeat ((first|refine sR ?_|apply sC|apply sX);simp[hlt])
   refine sT (sH ?_);simp[AH]
 .have kj:¬(xs.length:Int)=ys.length:=by omega
  have hne:¬xs=ys:=fun e=>hl (by rw[e])
  have b2:((xs.length:Int) != ys.length)=true:=by simp[kj]
  try (simp[kj,b2,hl])
  repeat ((first|refine sR ?_|apply sC|apply sX);simp[kj,b2,hl])
  refine sT (sH ?_);simp[hne]
theorem aJU(a b:Gr)(ha:a.Fit):DC 94 [a.av,b.av] (B (decide (a=b))):=by
 intro tok nt box nb;have c1:=aDg a.nodes b.nodes ha.n;have c2:=aGT a.edges b.edges ha.e;have sy:a=b↔a.nodes=b.nodes/\a.edges=b.edges:=by cases a;cases b;simp
 refine sI func94 ntmps94 fun Hb Ht=>?_
 repeat first|simp|refine sR ?_
 refine sD (c1 _ _) ?_;simp;by_cases h1:a.nodes=b.nodes
 .try (simp[h1])
  repeat ((first|refine sR ?_|apply sC|apply sX);simp[h1])
  refine sD (c2 _ _) ?_;simp;try (simp)
  repeat ((first|refine sR ?_|apply sC|apply sX);simp)
  refine sT (sH ?_);simp[sy,h1]
 .try (simp[h1])
  repeat ((first|refine sR ?_|apply sC|apply sX);simp[h1])
  refine sT (sH ?_);simp[sy,h1]
theorem aMy(a b:Ob):obE a b=(decide (a.ru=b.ru)&&(decide (a.con=b.con)&&(decide (a.way=b.way)&&decide (a.g=b.g)))):=by unfold obE;simp only[Bool.and_assoc]
set_option maxRecDepth 100000 in
theorem aIx(t:Ty)(ht:t.Fit)(l:List Co)(hl:l.length<=1000000)(hc:∀c∈l,c.g.Fit)(d:Du)(hd:d.o.g.Fit)(x:Dc)(hx:x.Fit):DC 53 [t.av,.d (bV l),d.av,x.av] (B (rN t l d x)):=by
 intro tok nt box nb;have Az:=aJU x.o.g d.o.g hx.g;have w6:=hx.m.n;have BQ:=hx.m.e;obtain⟨R,hR⟩:∃R,rN t l d x=R:=⟨_,rfl⟩
 rw[hR];unfold rN at hR;rw[aMy] at hR;refine sI func53 ntmps53 fun Hb Ht=>?_
 by_cases e1:x.o.ru=d.o.ru
 case neg =>
  have b1:(x.o.ru != d.o.ru)=true:=by simp[e1]
  rw[ca e1] at hR;simp at hR;subst hR;try (simp[b1])
  repeat ((first|refine sR ?_|apply sC|apply sX);simp[b1])
  refine sT (sH ?_);simp
 by_cases e2:x.o.con=d.o.con
 case neg =>
  have b1:(x.o.ru != d.o.ru)=false:=by simp[e1]
  have b2:(x.o.con != d.o.con)=true:=by simp[e2]
  rw[ca e2] at hR;simp at hR;subst hR;try (simp[b1,b2])
  repeat ((first|refine sR ?_|apply sC|apply sX);simp[b1,b2])
  refine sT (sH ?_);simp
 by_cases e3:x.o.way=d.o.way
 case neg =>
  have b1:(x.o.ru != d.o.ru)=false:=by simp[e1]
  have b2:(x.o.con != d.o.con)=false:=by simp[e2]
  have b3:(x.o.way != d.o.way)=true:=by simp[e3]
  rw[ca e3] at hR;simp at hR;subst hR;try (simp[b1,b2,b3])
  repeat ((first|refine sR ?_|apply sC|apply sX);simp[b1,b2,b3])
  refine sT (sH ?_);simp
 have b1:(x.o.ru != d.o.ru)=false:=by simp[e1]
 have b2:(x.o.con != d.o.con)=false:=by simp[e2]
 have b3:(x.o.way != d.o.way)=false:=by simp[e3]
 rw[ct e1,ct e2,ct e3,cq,cq,cq] at hR;try (simp[b1,b2,b3])
 repeat ((first|refine sR ?_|apply sC|apply sX);simp[b1,b2,b3])
 refine sD (Az _ _) ?_;simp;by_cases e4:x.o.g=d.o.g
 case neg =>
  rw[ca e4] at hR;simp at hR;subst hR;try (simp[e4])
  repeat ((first|refine sR ?_|apply sC|apply sX);simp[e4])
  refine sT (sH ?_);simp
 rw[ct e4,cq] at hR;cases hs:d.step
 .rw[hs,ac (by simp)] at hR;have hw:IntKind.i64.wrap ((x.m.nodes.length:Int)+(x.m.edges.length:Int))=((x.m.nodes.length+x.m.edges.length:Nat):Int):=by rw[aL (by omega) (by omega)];rfl
  by_cases e5:x.con = -1
  .have b5:(x.con == -1)=true:=by simp[e5]
   rw[ct e5,cq] at hR;have y7:((x.m.nodes.length:Int)+(x.m.edges.length:Int)==0)=(decide (x.m.nodes=[])&&decide (x.m.edges=[])):=by
    rw[dl,gr,bd,au,au,<-List.length_eq_zero_iff,<-List.length_eq_zero_iff];omega
   try (simp[e4,hs,b5,hw])
   repeat ((first|refine sR ?_|apply sC|apply sX);simp[e4,hs,b5,hw])
   refine sT (sH ?_);simp[<-hR,y7]
  .have b5:(x.con == -1)=false:=by simp[e5]
   rw[ca e5,dc] at hR;subst hR;try (simp[e4,hs,b5])
   repeat ((first|refine sR ?_|apply sC|apply sX);simp[e4,hs,b5])
   refine sT (sH ?_);simp
 .rw[hs,af rfl] at hR;by_cases e5:0<=x.con/\x.con<l.length
  .obtain⟨e5,e6⟩:=e5;rw[ct ⟨e5,e6⟩,cq] at hR;have hk:x.con.toNat<l.length:=by omega
   have gx:l[x.con.toNat]?=some l[x.con.toNat]:=ab hk
   rw[gx] at hR;have my:=hc _ (aa hk);obtain⟨c,hcc⟩:∃c,l[x.con.toNat]=c:=⟨_,rfl⟩
   rw[hcc] at hR my gx;have C2:=aHb t ht c.g d.o.g my hd x.m true;try (simp[e4,hs,e5,e6,hk,gx,hcc])
   repeat ((first|refine sR ?_|apply sC|apply sX);simp[e4,hs,e5,e6,hk,gx,hcc])
   refine sD (C2 _ _) ?_;simp;have y7:(xC t c.g d.o.g x.m true==0)=decide (xC t c.g d.o.g x.m true=0):=rfl
   try (simp)
   repeat ((first|refine sR ?_|apply sC|apply sX);simp)
   refine sT (sH ?_);simp[<-hR,y7]
  .rw[ca e5,dc] at hR;subst hR;by_cases e6:0<=x.con
   .have e7:¬x.con<(l.length:Int):=fun h=>e5 ⟨e6,h⟩
    try (simp[e4,hs,e6,e7])
    repeat ((first|refine sR ?_|apply sC|apply sX);simp[e4,hs,e6,e7])
    refine sT (sH ?_);simp
   .try (simp[e4,hs,e6])
    repeat ((first|refine sR ?_|apply sC|apply sX);simp[e4,hs,e6])
    refine sT (sH ?_);simp
def aNY(t:Ty)(l:List Co)(D:List Du)(p:List Dc)(nb:Nat)(box:Bxs)(tok:Tks)(nt:Nat)(i:Nat):AS :=
 ⟨tl [(32,I i),(31,I D.length),(30,.d (pO D)),(7,.ptr (nb+7) 0 0),(2,.d (bV l)),(4,.ptr (nb+4) 0 0)],lb nb box [(7,[[.d (tY p)]]),(4,[fQ t])],tok,nt⟩
theorem aGV{D:List Dc}{i:Nat}(h:i<D.length):(D.map Dc.cells)[i]?=some D[i].cells:=by simp[h]
set_option maxRecDepth 100000 in
theorem aIN(t:Ty)(L:List Ru)(l:List Co)(h:cA t L l)(hL:L.length<=1000000)(hl:l.length<=1000000)(hD:qJ (fG t L l).1)(p:List Dc)(hp:∀x∈p,x.Fit):DC 23 [t.av,.d (fF L),.d (bV l),.agg [.d (tY p)]] (B (aGE t L l p)):=by
 intro tok nt box nb;have ha:=aBj t L l h hL hl;obtain⟨R,hR⟩:∃R,aGE t L l p=R:=⟨_,rfl⟩
 rw[hR];unfold aGE at hR;obtain⟨⟨D,e⟩,hA⟩:∃A,fG t L l=A:=⟨_,rfl⟩
 rw[hA] at hR ha hD;simp only at hR ha hD;have C0:=hD.n;refine sI func23 ntmps23 fun Hb Ht=>?_
 repeat first|simp|refine sR ?_
 refine sD (ha _ _) ?_;simp;by_cases e1:e=0
 case neg =>
  have hb:(e != 0)=true:=by simp[e1]
  rw[ca e1,dc,dc] at hR;subst hR;try (simp[hb])
  repeat ((first|refine sR ?_|apply sC|apply sX);simp[hb])
  refine sT (sH ?_);simp
 subst e1;rw[ct rfl,cq] at hR;by_cases e2:D.length=p.length
 case neg =>
  have hb:((D.length:Int) != (p.length:Int))=true:=by simp;omega
  rw[ca e2,dc] at hR;subst hR;try (simp[hb])
  repeat ((first|refine sR ?_|apply sC|apply sX);simp[hb])
  refine sT (sH ?_);simp
 have hb:((D.length:Int) != (p.length:Int))=false:=by simp;omega
 rw[ct e2,cq] at hR;try (simp[hb])
 repeat ((first|refine sR ?_|apply sC|apply sX);simp[hb])
 apply sN;refine sL (aNY t l D p nb box tok nt) (fun i=>i<=D.length/\∀j,j<i->(match D[j]?,p[j]? with|some d,some x=>rN t l d x|_,_=>false)=true) (fun i=>D.length-i) 0 ⟨ai _,fun j hj=>absurd hj (b9 _)⟩ wkA ?_;rintro i S ⟨hi,gt⟩ hS;simp only[aNY] at hS;subst hS;have hw:=sW (i:=i) (by omega);by_cases hlt:i<D.length
 .have nz:i<p.length:=by omega
  have gx:=aER hlt;have y8:=aGV nz;have mt:D[i]?=some D[i]:=ab hlt
  have nq:p[i]?=some p[i]:=ab nz
  have ut:=hD.g _ (aa hlt);have yc:=hp _ (aa nz);obtain⟨d,rr⟩:∃d,D[i]=d:=⟨_,rfl⟩
  obtain⟨x,y9⟩:∃x,p[i]=x:=⟨_,rfl⟩
  rw[rr] at gx mt ut;rw[y9] at y8 nq yc;have hr:=aIx t h.t l hl (fun c hc=>(h.l c hc).g) d ut x yc;have hm:(match D[i]?,p[i]? with|some d,some x=>rN t l d x|_,_=>false)=rN t l d x:=by rw[mt,nq]
  try (simp[hlt,gx,nz,y8,rr,y9])
  repeat ((first|refine sR ?_|apply sC|apply sX);simp[hlt,gx,nz,y8,rr,y9])
  refine sD (hr _ _) ?_;simp;cases e3:rN t l d x
  .have:R=false:=by
    rw[<-hR,d8];exact⟨i,ba.2 nz,by simp only[mt,nq,e3];simp⟩
   subst this;try (simp)
   repeat ((first|refine sR ?_|apply sC|apply sX);simp)
   refine sT (sH ?_);simp
  .try (simp[hw])
   repeat ((first|refine sR ?_|apply sC|apply sX);simp[hw])
   apply sE;refine⟨i+1,⟨hlt,fun j hj=>?_⟩,by omega,wkA⟩;by_cases ej:j=i
   .subst ej;simp only[mt,nq,e3]
   .exact gt j (by omega)
 .have:i=D.length:=by omega
  subst this;have:R=true:=by
   rw[<-hR,ax];exact fun j hj=>gt j (by rw[e2];exact ba.1 hj)
  subst this;try (simp)
  repeat ((first|refine sR ?_|apply sC|apply sX);simp)
  refine sT (sH ?_);simp
theorem aHO(t:Ty)(l:List Co)(o:Ob):eT t l [o]=if l.any (pD t o.g)=true then (l,0) else if l.length=8∨6<o.g.nodes.length∨8<o.g.edges.length then ([],3) else (l++[aKQ l.length o.g],0):=rfl
theorem aOe{D:List Ob}{i:Nat}(h:i<D.length):(D.map Ob.cells)[i]?=some D[i].cells:=by simp[h]
set_option maxRecDepth 100000 in
theorem aI8(t:Ty)(ht:t.Fit)(l:List Co)(hl:l.length<=8)(Ec:∀c∈l,c.Fit)(os:List Ob)(hos:os.length<=100000000)(yw:∀o∈os,o.g.Fit)(own:Own)(box:Bxs)(nb:Nat)(mtok:Tks)(nt0:Nat)(tok:Tks)(nt:Nat)(htk:TK mtok nt0 tok nt [own]):
  aC prog 46 [t.av,.osl 5 (rCo l) own,.d (aI0 os)] ⟨box,nb,tok,nt⟩ (QLo (eT t l os) box nb mtok nt0):=by
 obtain⟨R,hR⟩:∃R,eT t l os=R:=⟨_,rfl⟩
 rw[hR];refine sI func46 ntmps46 fun Hb Ht=>?_
 repeat first|simp|refine sR ?_
 apply sN;refine sL (aN7 t l os nb box) (fun x=>x.i<=os.length/\(eT t l (os.take x.i)).2=0/\TK mtok nt0 x.tok x.nt [x.o]/\nt<=x.nt) (fun x=>os.length-x.i) ⟨0,own,tok,nt⟩ ⟨ai _,rfl,htk,nr0 _⟩ (wM (nr0 _) rfl (by simp[ToL,lk,eT]) (by simp[aE,lk])) ?_;rintro⟨i,o1,iy,kv⟩ S ⟨hi,gt,jh,pu⟩ hS;simp only[aN7] at hS hi gt jh pu;subst hS;have hw:=sW (i:=i) (by omega);by_cases hlt:i<os.length
 .have gx:=aOe hlt;have nj:=ah hlt;have xh:=yw _ (aa hlt);obtain⟨o,ho⟩:∃o,os[i]=o:=⟨_,rfl⟩
  rw[ho] at gx nj xh;have jb:=qX t (os.take i) [o] l;rw[ac (by simp[gt]),<-nj,aHO] at jb;have Dd:=mR (t:=t) (xs:=os.take i) hl;have Ed:=lS (t:=t) (xs:=os.take i) hl Ec (fun o h=>yw o (bq h));have oo:(eT t l (os.take (i+1))).2≠0->R=([],3):=fun h=>by
   have h2:=qX t (os.take (i+1)) (os.drop (i+1)) l;rw[cc,af h,pQ h,hR] at h2;exact h2
  generalize (eT t l (os.take i)).1=X at *;have jr:bA (pD t o.g) X=X.any (pD t o.g):=rfl
  try (simp[hlt,gx,ho])
  repeat ((first|refine sR ?_|apply sC|apply sX);simp[hlt,gx,ho])
  refine aT.sub (args':=[.d (bV X),.fn (.func 86) [.ptr (nb+3) 0 0,.ptr (nb+10) 0 0]]) ⟨Sub.data _ _ _,Sub.refl _,trivial⟩ ?_;refine aT.of_b (rG X 86 [.ptr (nb+3) 0 0,.ptr (nb+10) 0 0] (pD t o.g) (by omega) _ _ _ _ (by intro c hc;simp only[cj,List.not_mem_nil,or_false] at hc;rcases hc with rfl|rfl<;>simp[aN]) (fun x hx box' nb' he=>aGI t ht o.g xh x (Ed x hx).g box' nb' (nb+3) (nb+10) _ _ (he _ _ (by simp[aN])) (he _ _ (by simp[aN])))) ?_;rw[jr];cases e:X.any (pD t o.g)
  case true =>
   rw[af e] at jb;try (simp[hw])
   repeat ((first|refine sR ?_|apply sC|apply sX);simp[hw])
   apply sE;exact⟨⟨i+1,o1,iy,kv⟩,⟨hlt,by rw[jb],jh,pu⟩,by simp only;omega,wM pu rfl (by simp[ToL,lk,jb]) (by simp[aE,lk])⟩
  rw[ac (by simp[e])] at jb;have rq:X.length=8∨6<o.g.nodes.length∨8<o.g.edges.length->R=([],3):=fun h=>by
   rw[af h] at jb;exact oo (by rw[jb];decide)
  by_cases d1:X.length=8
  .have:=rq (.inl d1)
   subst this;have f1:(X.length:Int)=8:=by omega
   have g1:((X.length:Int)==8)=true:=by simpa using f1
   try (simp[f1,g1])
   repeat ((first|refine sR ?_|apply sC|apply sX);simp[f1,g1])
   refine sT ?_;try simp only[AU]
   exact⟨by simp,(Fin.gen (av:=.tup [.osl 0 [] .full,I 3]) (by simp[aV,bQ];rfl) Hb pu (nr0 _) (fun t h=>⟨h,.inl rfl⟩) (fun k rows _ h=>.inl h) (by simp)).mono fun v m hq=>⟨iy,kv,hq.2,.inr ⟨by decide,hq.1,jh.tail⟩⟩⟩
  have f1:¬(X.length:Int)=8:=by omega
  have g1:((X.length:Int)==8)=false:=by simpa using f1
  by_cases d2:6<o.g.nodes.length
  .have:=rq (.inr (.inl d2))
   subst this;have f2:(6:Int)<o.g.nodes.length:=by omega
   try (simp[f1,g1,f2])
   repeat ((first|refine sR ?_|apply sC|apply sX);simp[f1,g1,f2])
   refine sT ?_;try simp only[AU]
   exact⟨by simp,(Fin.gen (av:=.tup [.osl 0 [] .full,I 3]) (by simp[aV,bQ];rfl) Hb pu (nr0 _) (fun t h=>⟨h,.inl rfl⟩) (fun k rows _ h=>.inl h) (by simp)).mono fun v m hq=>⟨iy,kv,hq.2,.inr ⟨by decide,hq.1,jh.tail⟩⟩⟩
  have f2:¬(6:Int)<o.g.nodes.length:=by omega
  by_cases d3:8<o.g.edges.length
  .have:=rq (.inr (.inr d3))
   subst this;have f3:(8:Int)<o.g.edges.length:=by omega
   try (simp[f1,g1,f2,f3])
   repeat ((first|refine sR ?_|apply sC|apply sX);simp[f1,g1,f2,f3])
   refine sT ?_;try simp only[AU]
   exact⟨by simp,(Fin.gen (av:=.tup [.osl 0 [] .full,I 3]) (by simp[aV,bQ];rfl) Hb pu (nr0 _) (fun t h=>⟨h,.inl rfl⟩) (fun k rows _ h=>.inl h) (by simp)).mono fun v m hq=>⟨iy,kv,hq.2,.inr ⟨by decide,hq.1,jh.tail⟩⟩⟩
  have f3:¬(8:Int)<o.g.edges.length:=by omega
  rw[ac (by omega)] at jb;have Ee:=aKg X.length (by omega);have hsz:=(aHk X.length (by omega)).2;have hd:dgB X.length=dgB X.length:=rfl
  try (simp[f1,g1,f2,f3])
  repeat ((first|refine sR ?_|apply sC|apply sX);simp[f1,g1,f2,f3])
  refine sD (Ee _ _) ?_;simp;try (simp)
  repeat ((first|refine sR ?_|apply sC|apply sX);simp)
  have hsz2:(⟨#[115]⟩:ByteArray).size+(dgB X.length).size=2:=by rw[<-ByteArray.size_append];exact hsz
  refine⟨by omega,⟨by omega,jh.live⟩,?_⟩;try (simp[hw])
  repeat ((first|refine sR ?_|apply sC|apply sX);simp[hw])
  apply sE;exact⟨⟨i+1,_,_,kv+1⟩,⟨hlt,by rw[jb],jh.app,by simp only;omega⟩,by simp only;omega,wM (by omega) rfl (by simp[ToL,lk,jb];exact aJ9 (by simp[aKQ,sNm,ints,AM.edges];exact .emp) _) (by simp[aE,lk])⟩
 .have:i=os.length:=by omega
  subst this;rw[bh] at gt;rw[bh,hR];try (simp)
  repeat ((first|refine sR ?_|apply sC|apply sX);simp)
  refine sT ?_;try simp only[AU]
  rw[hR] at gt;exact⟨by simp,(Fin.gen (av:=.tup [.osl 5 (rCo R.1) o1,I 0]) (by simp[aV,bQ];rfl) Hb pu (nr0 _) (fun t h=>⟨h,.inl rfl⟩) (fun k rows _ h=>.inl h) (by simp)).mono fun v m hq=>⟨iy,kv,hq.2,.inl ⟨gt,o1,hq.1,jh⟩⟩⟩
def aCO(t:Ty)(L:List Ru)(l:List Co)(rounds:Int)(D:List Du)(nb:Nat)(box:Bxs)(x:DuA):AS :=
 ⟨tl [(34,I x.i),(33,I l.length),(32,.d (bV l)),(12,.osl 5 (rCo (l.take x.i)) x.o),(11,I 0),(10,.d (pO D)),(3,I rounds),(2,.d (bV l)),(1,.d (fF L)),(4,.ptr (nb+4) 0 0)],lb nb box [(4,[fQ t])],x.tok,x.nt⟩
structure SgA where
 n:Nat
 l:List Co
 D:List Du
 o:Own
 tok:Nat->Bool
 nt:Nat
def aB7(t:Ty)(L:List Ru)(nb:Nat)(box:Bxs)(x:SgA):AS :=
 ⟨tl [(12,.osl 5 (rCo x.l) x.o),(11,I 0),(10,.d (pO x.D)),(3,I x.n),(1,.d (fF L)),(4,.ptr (nb+4) 0 0)],lb nb box [(4,[fQ t])],x.tok,x.nt⟩
theorem aMh{t:Ty}{c:Co}(h:cnE t c=0)(hk:c.kind=1):c.exts=[]:=by
 unfold cnE at h;split at h
 .rename_i h1;exact absurd h h1
 .split at h
  .rename_i h1 h2;exact absurd h h2
  .rename_i h1 h2;have hs:kT c=0:=by simpa using h2
   have:=(rS hs).2.1
   unfold kdE at this;rw[af hk] at this;split at this
   .assumption
   .cases this
theorem aFr{t:Ty}{l:List Co}{D:List Du}(h:qJ D):(lU t l D).length<=100000000/\∀o∈lU t l D,o.g.Fit:=by
 unfold lU;refine⟨?_,fun o ho=>?_⟩
 .rw[br];exact bz (di _ _) h.n
 .obtain⟨d,hd,rfl⟩:=bc.1 ho;exact h.g d (b8.1 hd).1
set_option maxRecDepth 100000 in
theorem yF(t:Ty)(L:List Ru)(l:List Co)(h:cA t L l)(hL:L.length<=1000000)(hl:l.length<=1000000)(n:Int):DC 18 [t.av,.d (fF L),.d (bV l),I n] (.tup [.d (bV (jA t L l n).1),I (jA t L l n).2]):=by
 intro tok nt box nb;have ha:=aBj t L l h hL hl;obtain⟨R,hR⟩:∃R,jA t L l n=R:=⟨_,rfl⟩
 rw[hR];unfold jA at hR;refine sI func18 ntmps18 fun Hb Ht=>?_
 repeat first|simp|refine sR ?_
 refine sD (ha _ _) ?_;simp;by_cases e1:(fG t L l).2=0
 case neg =>
  rw[af e1] at hR;subst hR;have hb:((fG t L l).2 != 0)=true:=by simp[e1]
  try (simp[hb])
  repeat ((first|refine sR ?_|apply sC|apply sX);simp[hb])
  refine sT (sH ?_);simp[bV]
 rw[ac (by simp[e1])] at hR;have hD:=nV h;have rm:gE t L l=0:=dq fun hne=>by
  unfold fG at e1;rw[af hne] at e1;exact hne e1
 obtain⟨hT,m7,Ef,h6,h8⟩:=mT rm;generalize (fG t L l).1=D at *;by_cases e2:n<0
 .rw[af (.inl e2)] at hR;subst hR;have g2:decide (n<0)=true:=by simp[e2]
  try (simp[e1,e2])
  repeat ((first|refine sR ?_|apply sC|apply sX);simp[e1,e2])
  refine sT (sH ?_);simp[bV]
 by_cases e3:4<n
 .rw[af (.inr e3)] at hR;subst hR;have g2:decide (n<0)=false:=by simp;omega
  try (simp[e1,e2,e3])
  repeat ((first|refine sR ?_|apply sC|apply sX);simp[e1,e2,e3])
  refine sT (sH ?_);simp[bV]
 rw[ac (by omega)] at hR;obtain⟨k,rfl⟩:∃k:Nat,n=k:=⟨n.toNat,by omega⟩
 rw[bv] at hR;try (simp[e1,e2,e3])
 repeat ((first|refine sR ?_|apply sC|apply sX);simp[e1,e2,e3])
 apply sN;refine sL (aCO t L l k D nb box) (fun x=>x.i<=l.length/\TK tok nt x.tok x.nt [x.o]) (fun x=>l.length-x.i) ⟨0,.full,tok,nt⟩ ⟨ai _,(TK.start Ht).full⟩ wkA ?_;rintro⟨i,o1,iy,kv⟩ S ⟨hi,jh⟩ hS;simp only[aCO] at hS hi jh;subst hS;have hw:=sW (i:=i) (by omega);by_cases hlt:i<l.length
 .have gx:l[i]?=some l[i]:=ab hlt
  have nj:=ah hlt;have my:=h.l _ (aa hlt);have wh:=Ef _ (aa hlt);obtain⟨c,hc⟩:∃c,l[i]=c:=⟨_,rfl⟩
  rw[hc] at gx nj my wh;have hown:=aM1 c my (aMh wh.1 wh.2);try (simp[hlt,gx,hc])
  repeat ((first|refine sR ?_|apply sC|apply sX);simp[hlt,gx,hc])
  refine sD (hown _ _) ?_;simp;try (simp)
  repeat ((first|refine sR ?_|apply sC|apply sX);simp)
  refine⟨⟨by omega,jh.live⟩,?_⟩;try (simp[hw])
  repeat ((first|refine sR ?_|apply sC|apply sX);simp[hw])
  apply sE;exact⟨⟨i+1,_,_,_⟩,⟨hlt,jh.app⟩,by simp only;omega,wM jh.app.le rfl (by simp[ToL,lk,nj]) (by simp[aE,lk])⟩
 .have:i=l.length:=by omega
  subst this;try (simp)
  repeat ((first|refine sR ?_|apply sC|apply sX);simp)
  apply sN;refine sL (aB7 t L nb box) (fun x=>x.n<=4/\yJ t L x.n x.l x.D=R/\x.l.length<=8/\(∀c∈x.l,c.Fit)/\qJ x.D/\TK tok nt x.tok x.nt [x.o]) (fun x=>x.n) ⟨k,l,D,o1,iy,kv⟩ ⟨by simp only;omega,by simpa using hR,h8,h.l,hD,jh⟩ (wM jh.le rfl (by simp[ToL,lk]) (by simp[aE,lk])) ?_;rintro⟨n,l2,D2,o2,ib,io⟩ S ⟨hn,m8,hl2,tg,C3,gw⟩ hS;simp only[aB7] at hS hn m8 hl2 tg C3 gw;subst hS;have ju:=aJe t h.t l2 (by omega) (fun c hc=>(tg c hc).g) D2 C3;obtain⟨Bh,yw⟩:=aFr (t:=t) (l:=l2) C3;obtain⟨O,hO⟩:∃O,lU t l2 D2=O:=⟨_,rfl⟩
  rw[hO] at ju Bh yw;try (simp)
  repeat ((first|refine sR ?_|apply sC|apply sX);simp)
  refine aT.sub (args':=[t.av,.d (bV l2),.d (pO D2)]) ⟨Sub.refl _,Sub.data _ _ _,Sub.refl _,trivial⟩ ?_;refine sD (ju _ _) ?_;simp;by_cases c1:O=[]
  .have:R=(l2,0):=by
    rw[<-m8];cases n<;>rw[yJ,af (by rw[hO,c1])]
   subst this;subst c1;try (simp)
   repeat ((first|refine sR ?_|apply sC|apply sX);simp)
   refine sT (sG Hb Ht gw.old gw.le ?_);simp[bV]
  have c2:¬(O.length:Int)=0:=fun e=>c1 (bf (by omega))
  have c3:((O.length:Int)==0)=false:=by simpa using c2
  cases n with
  | zero =>
   have:R=([],10):=by rw[<-m8,yJ,ac (by rw[hO];exact c1)]
   subst this;try (simp[c1,c2,c3])
   repeat ((first|refine sR ?_|apply sC|apply sX);simp[c1,c2,c3])
   refine sT (sG Hb Ht gw.old gw.le ?_);simp[bV]
  | succ n =>
   rw[yJ,ac (by rw[hO];exact c1),hO] at m8;have c4:¬(n:Int)+1=0:=by omega
   have c5:((n:Int)+1==0)=false:=by simpa using c4
   have pz:=fun box' nb'=>aI8 t h.t l2 hl2 tg O Bh yw o2 box' nb' tok nt ib io gw
   have AX:=mR (t:=t) (xs:=O) hl2;have Bm:=lS (t:=t) (xs:=O) hl2 tg yw;have Au:=pQ (t:=t) (xs:=O) (l:=l2);obtain⟨⟨l3,e⟩,hP⟩:∃P,eT t l2 O=P:=⟨_,rfl⟩
   rw[hP] at m8 pz AX Bm Au;simp only at m8 pz AX Bm Au;try (simp[c1,c2,c3,c4,c5])
   repeat ((first|refine sR ?_|apply sC|apply sX);simp[c1,c2,c3,c4,c5])
   refine aT.of_a (pz _ _) ?_;rintro v m' ⟨i7,ka,rfl,⟨he,jf,rfl,ig⟩|⟨he,rfl,ig⟩⟩
   .simp only at he;subst he;rw[ac (by simp)] at m8;have h3:cA t L l3:=⟨h.t,h.L,Bm⟩
    have za:=zU t L l3 h3 hT m7 h6 AX;have C4:=uB h3 hT m7 h6 AX;obtain⟨⟨D3,e⟩,hE⟩:∃E,lN t L l3=E:=⟨_,rfl⟩
    rw[hE] at m8 za C4;simp only at m8 za C4;try (simp)
    repeat ((first|refine sR ?_|apply sC|apply sX);simp)
    refine aT.sub (args':=[t.av,.d (fF L),.d (bV l3)]) ⟨Sub.refl _,Sub.refl _,Sub.data _ _ _,trivial⟩ ?_;refine sD (za _ _) ?_;simp;by_cases d1:e=0
    .rw[ac (by simp[d1])] at m8;subst d1;have hw:IntKind.i64.wrap (n:Int)=(n:Int):=aL (by omega) (by omega)
     try (simp[hw])
     repeat ((first|refine sR ?_|apply sC|apply sX);simp[hw])
     apply sE;exact⟨⟨n,l3,D3,jf,i7,ka⟩,⟨by simp only;omega,m8,AX,Bm,C4,ig⟩,by simp only;omega,wM ig.le rfl (by simp[ToL,lk]) (by simp[aE,lk])⟩
    .rw[af d1] at m8;subst m8;have hb:(e != 0)=true:=by simp[d1]
     try (simp[hb])
     repeat ((first|refine sR ?_|apply sC|apply sX);simp[hb])
     refine sT (sG Hb Ht ig.old ig.le ?_);simp[bV]
   .simp only at he;have h3:=Au he;rw[af he] at m8;subst m8;have:e=3:=fp Prod.snd h3
    subst this;try (simp)
    repeat ((first|refine sR ?_|apply sC|apply sX);simp)
    refine sT (sG Hb Ht ig.old ig.le ?_);simp[bV]
set_option maxRecDepth 100000 in
theorem aG5(a b:Ob)(ha:a.g.Fit):DC 41 [a.av,b.av] (B (obE a b)):=by
 intro tok nt box nb;have hs:=aHG a.g b.g ha;obtain⟨R,hR⟩:∃R,obE a b=R:=⟨_,rfl⟩
 rw[hR];unfold obE at hR;refine sI func41 ntmps41 fun Hb Ht=>?_
 by_cases e1:a.ru=b.ru
 case neg =>
  have b1:(a.ru==b.ru)=false:=by simp[e1]
  rw[ca e1] at hR;simp at hR;subst hR;try (simp[b1])
  repeat ((first|refine sR ?_|apply sC|apply sX);simp[b1])
  refine sT (sH ?_);simp
 have b1:(a.ru==b.ru)=true:=by simp[e1]
 by_cases e2:a.con=b.con
 case neg =>
  have b2:(a.con==b.con)=false:=by simp[e2]
  rw[ca e2] at hR;simp at hR;subst hR;try (simp[b1,b2])
  repeat ((first|refine sR ?_|apply sC|apply sX);simp[b1,b2])
  refine sT (sH ?_);simp
 have b2:(a.con==b.con)=true:=by simp[e2]
 by_cases e3:a.way=b.way
 case neg =>
  have b3:(a.way==b.way)=false:=by simp[e3]
  rw[ca e3] at hR;simp at hR;subst hR;try (simp[b1,b2,b3])
  repeat ((first|refine sR ?_|apply sC|apply sX);simp[b1,b2,b3])
  refine sT (sH ?_);simp
 have b3:(a.way==b.way)=true:=by simp[e3]
 rw[ct e1,ct e2,ct e3,cq,cq,cq] at hR;try (simp[b1,b2,b3])
 repeat ((first|refine sR ?_|apply sC|apply sX);simp[b1,b2,b3])
 refine sD (hs _ _) ?_;simp;rw[hR];try (simp)
 repeat ((first|refine sR ?_|apply sC|apply sX);simp)
 refine sT (sH ?_);simp
set_option maxRecDepth 100000 in
theorem aJT(t:Ty)(ht:t.Fit)(l:List Co)(hl:l.length<=1000000)(hc:∀c∈l,c.g.Fit)(d:Du)(hd:d.o.g.Fit)(x:Dc)(hx:x.Fit):DC 56 [t.av,.d (bV l),d.av,x.av] (B (rN t l d x)):=by
 intro tok nt box nb;have Az:=aG5 d.o x.o hd;have w6:=hx.m.n;have BQ:=hx.m.e;have hcm:obE x.o d.o=obE d.o x.o:=by
  unfold obE;simp only[eq_comm]
 obtain⟨R,hR⟩:∃R,rN t l d x=R:=⟨_,rfl⟩
 rw[hR];unfold rN at hR;rw[hcm] at hR;refine sI func56 ntmps56 fun Hb Ht=>?_
 try (simp)
 repeat ((first|refine sR ?_|apply sC|apply sX);simp)
 refine sD (Az _ _) ?_;simp;cases e1:obE d.o x.o
 .rw[e1,dc] at hR;subst hR;try (simp)
  repeat ((first|refine sR ?_|apply sC|apply sX);simp)
  refine sT (sH ?_);simp
 rw[e1,cq] at hR;cases hs:d.step
 .rw[hs,ac (by simp)] at hR;have hw:IntKind.i64.wrap ((x.m.nodes.length:Int)+(x.m.edges.length:Int))=((x.m.nodes.length+x.m.edges.length:Nat):Int):=by rw[aL (by omega) (by omega)];rfl
  by_cases e5:x.con = -1
  .have b5:(x.con == -1)=true:=by simp[e5]
   rw[ct e5,cq] at hR;have y7:((x.m.nodes.length:Int)+(x.m.edges.length:Int)==0)=(decide (x.m.nodes=[])&&decide (x.m.edges=[])):=by
    rw[dl,gr,bd,au,au,<-List.length_eq_zero_iff,<-List.length_eq_zero_iff];omega
   try (simp[hs,b5,hw])
   repeat ((first|refine sR ?_|apply sC|apply sX);simp[hs,b5,hw])
   refine sT (sH ?_);simp[<-hR,y7]
  .have b5:(x.con == -1)=false:=by simp[e5]
   rw[ca e5,dc] at hR;subst hR;try (simp[hs,b5])
   repeat ((first|refine sR ?_|apply sC|apply sX);simp[hs,b5])
   refine sT (sH ?_);simp
 .rw[hs,af rfl] at hR;by_cases e5:0<=x.con
  case neg =>
   rw[ca (fun h=>e5 h.1),dc] at hR;subst hR;try (simp[hs,e5])
   repeat ((first|refine sR ?_|apply sC|apply sX);simp[hs,e5])
   refine sT (sH ?_);simp
  by_cases e6:x.con<l.length
  case neg =>
   rw[ca (fun h=>e6 h.2),dc] at hR;subst hR;try (simp[hs,e5,e6])
   repeat ((first|refine sR ?_|apply sC|apply sX);simp[hs,e5,e6])
   refine sT (sH ?_);simp
  rw[ct ⟨e5,e6⟩,cq] at hR;have hk:x.con.toNat<l.length:=by omega
  have gx:l[x.con.toNat]?=some l[x.con.toNat]:=ab hk
  rw[gx] at hR;have my:=hc _ (aa hk);obtain⟨c,hcc⟩:∃c,l[x.con.toNat]=c:=⟨_,rfl⟩
  rw[hcc] at hR my gx;have C2:=aGt t ht c.g d.o.g my hd x.m true;try (simp[hs,e5,e6,hk,gx,hcc])
  repeat ((first|refine sR ?_|apply sC|apply sX);simp[hs,e5,e6,hk,gx,hcc])
  refine sD (C2 _ _) ?_;simp;have y7:(xC t c.g d.o.g x.m true==0)=decide (xC t c.g d.o.g x.m true=0):=rfl
  try (simp)
  repeat ((first|refine sR ?_|apply sC|apply sX);simp)
  refine sT (sH ?_);simp[<-hR,y7]
def aNG(t:Ty)(l:List Co)(D:List Du)(p:List Dc)(nb:Nat)(box:Bxs)(tok:Tks)(nt:Nat)(i:Nat):AS :=
 ⟨tl [(11,I i),(9,.d (pO D)),(7,.ptr (nb+7) 0 0),(2,.d (bV l)),(4,.ptr (nb+4) 0 0)],lb nb box [(7,[[.d (tY p)]]),(4,[fQ t])],tok,nt⟩
set_option maxRecDepth 100000 in
theorem aFJ(t:Ty)(L:List Ru)(l:List Co)(h:cA t L l)(hL:L.length<=1000000)(hl:l.length<=1000000)(p:List Dc)(hp:∀x∈p,x.Fit):DC 25 [t.av,.d (fF L),.d (bV l),.agg [.d (tY p)]] (B (aGE t L l p)):=by
 intro tok nt box nb;have hg:=aGk t L l h hL hl;obtain⟨R,hR⟩:∃R,aGE t L l p=R:=⟨_,rfl⟩
 rw[hR];unfold aGE fG at hR;refine sI func25 ntmps25 fun Hb Ht=>?_
 repeat first|simp|refine sR ?_
 refine sD (hg _ _) ?_;simp;by_cases e:gE t L l=0
 case neg =>
  have hb:(gE t L l != 0)=true:=by simp[e]
  rw[af e,ca e,dc,dc] at hR;subst hR;try (simp[hb])
  repeat ((first|refine sR ?_|apply sC|apply sX);simp[hb])
  refine sT (sH ?_);simp
 rw[ac (by simp[e])] at hR;obtain⟨hT,m7,_,h6,h8⟩:=mT e;have za:=aEk t L l h hT m7 h6 h8;have hD:=uB h hT m7 h6 h8;obtain⟨⟨D,e7⟩,hE⟩:∃E,lN t L l=E:=⟨_,rfl⟩
 rw[hE] at hR za hD;simp only at hR za hD;have C0:=hD.n;try (simp[e])
 repeat ((first|refine sR ?_|apply sC|apply sX);simp[e])
 refine sD (za _ _) ?_;simp;by_cases e1:e7=0
 case neg =>
  have hb:(e7 != 0)=true:=by simp[e1]
  rw[ca e1,dc,dc] at hR;subst hR;try (simp[hb])
  repeat ((first|refine sR ?_|apply sC|apply sX);simp[hb])
  refine sT (sH ?_);simp
 subst e1;rw[ct rfl,cq] at hR;by_cases e2:D.length=p.length
 case neg =>
  have hb:((D.length:Int) != (p.length:Int))=true:=by simp;omega
  rw[ca e2,dc] at hR;subst hR;try (simp[hb])
  repeat ((first|refine sR ?_|apply sC|apply sX);simp[hb])
  refine sT (sH ?_);simp
 have hb:((D.length:Int) != (p.length:Int))=false:=by simp;omega
 rw[ct e2,cq] at hR;try (simp[hb])
 repeat ((first|refine sR ?_|apply sC|apply sX);simp[hb])
 apply sN;refine sL (aNG t l D p nb box tok nt) (fun i=>i<=D.length/\∀j,j<i->(match D[j]?,p[j]? with|some d,some x=>rN t l d x|_,_=>false)=true) (fun i=>D.length-i) 0 ⟨ai _,fun j hj=>absurd hj (b9 _)⟩ wkA ?_;rintro i S ⟨hi,gt⟩ hS;simp only[aNG] at hS;subst hS;have hw:=sW (i:=i) (by omega);by_cases hlt:i<D.length
 .have nz:i<p.length:=by omega
  have gx:=aER hlt;have y8:=aGV nz;have mt:D[i]?=some D[i]:=ab hlt
  have nq:p[i]?=some p[i]:=ab nz
  have ut:=hD.g _ (aa hlt);have yc:=hp _ (aa nz);obtain⟨d,rr⟩:∃d,D[i]=d:=⟨_,rfl⟩
  obtain⟨x,y9⟩:∃x,p[i]=x:=⟨_,rfl⟩
  rw[rr] at gx mt ut;rw[y9] at y8 nq yc;have hr:=aJT t h.t l hl (fun c hc=>(h.l c hc).g) d ut x yc;try (simp[hlt,gx,nz,y8,rr,y9])
  repeat ((first|refine sR ?_|apply sC|apply sX);simp[hlt,gx,nz,y8,rr,y9])
  refine sD (hr _ _) ?_;simp;cases e3:rN t l d x
  .have:R=false:=by
    rw[<-hR,d8];exact⟨i,ba.2 nz,by simp only[mt,nq,e3];simp⟩
   subst this;try (simp)
   repeat ((first|refine sR ?_|apply sC|apply sX);simp)
   refine sT (sH ?_);simp
  .try (simp[hw])
   repeat ((first|refine sR ?_|apply sC|apply sX);simp[hw])
   apply sE;refine⟨i+1,⟨hlt,fun j hj=>?_⟩,by omega,wkA⟩;by_cases ej:j=i
   .subst ej;simp only[mt,nq,e3]
   .exact gt j (by omega)
 .have:i=D.length:=by omega
  subst this;have:R=true:=by
   rw[<-hR,ax];exact fun j hj=>gt j (by rw[e2];exact ba.1 hj)
  subst this;try (simp)
  repeat ((first|refine sR ?_|apply sC|apply sX);simp)
  refine sT (sH ?_);simp
def aFF(x:Xt):Bool:=if nX x.g=true then qD x.m 140 else false
def aEu(c:Co):Bool:=if 60<c.name.size then false else if 10<c.exts.length then false else if nX c.g=true then cJ aFF c.exts else false
theorem aG7{α:Type}{p:α->Bool}{l:List α}(h:cJ p l=true):∀x∈l,p x=true:=ax.1 h
theorem aCf{c:Co}(h:aEu c=true):c.Fit/\c.exts.length<=10:=by
 unfold aEu at h;split at h
 .cases h
 rename_i h1;split at h
 .cases h
 rename_i h2;split at h
 .rename_i h3;refine⟨⟨by omega,mQ h3,by omega,fun x hx=>?_⟩,by omega⟩;have:=aG7 h x hx
  unfold aFF at this;split at this
  .rename_i h4;exact⟨nP this,mQ h4⟩
  .cases this
 .cases h
def aKH(c:Co)(nb:Nat)(box:Bxs)(tok:Tks)(nt:Nat)(i:Nat):AS :=
 ⟨tl [(3,I i),(1,.ptr (nb+1) 0 0)],lb nb box [(1,[c.row])],tok,nt⟩
theorem aJP(c:Co)(hc:c.Big):DC 107 [c.av] (B (aEu c)):=by
 intro tok nt box nb;have hn:=hc.n;rw[bI] at hn;have Be:=hc.name;have h1:=qF c.g;obtain⟨N,hN⟩:∃N,aEu c=N:=⟨_,rfl⟩
 rw[hN];unfold aEu at hN;by_cases e1:60<c.name.size
 .have jt:(60:Int)<c.name.size:=by omega
  rw[af e1] at hN;refine sI func107 ntmps107 fun Hb Ht=>?_
  try (simp[e1,jt])
  repeat ((first|refine sR ?_|apply sC|apply sX);simp[e1,jt])
  refine sT (sH ?_);simp[<-hN]
 .have jt:¬(60:Int)<c.name.size:=by omega
  rw[ac e1] at hN;by_cases e2:10<c.exts.length
  .have ji:(10:Int)<c.exts.length:=by omega
   rw[af e2] at hN;refine sI func107 ntmps107 fun Hb Ht=>?_
   try (simp[e1,jt,e2,ji])
   repeat ((first|refine sR ?_|apply sC|apply sX);simp[e1,jt,e2,ji])
   refine sT (sH ?_);simp[<-hN]
  .have ji:¬(10:Int)<c.exts.length:=by omega
   rw[ac e2] at hN;refine sI func107 ntmps107 fun Hb Ht=>?_
   try (simp[e1,jt,e2,ji])
   repeat ((first|refine sR ?_|apply sC|apply sX);simp[e1,jt,e2,ji])
   refine sD (h1 _ _) ?_;simp;cases e3:nX c.g
   .rw[e3,ac (by simp)] at hN;try (simp)
    repeat ((first|refine sR ?_|apply sC|apply sX);simp)
    refine sT (sH ?_);simp[<-hN]
   .rw[e3,af rfl] at hN;try (simp)
    repeat ((first|refine sR ?_|apply sC|apply sX);simp)
    apply sN;refine sL (aKH c nb box tok nt) (fun i=>i<=c.exts.length/\cJ aFF (c.exts.take i)=true) (fun i=>c.exts.length-i) 0 ⟨ai _,by simp[cJ]⟩ wkA ?_;rintro i S' ⟨hi,gt⟩ hS;simp only[aKH] at hS;subst hS;have hw:=sW (i:=i) (by omega);repeat first|simp|refine sR ?_|apply sC
    refine⟨fun hlt=>?_,fun hge=>?_⟩
    .have jq:=fun h=>fL (p:=aFF) hlt h
     have jg:=fun h=>cW (p:=aFF) hlt gt h
     have hb:=hc.exts _ (aa hlt);have b1:=hb.mn;have b2:=hb.me;rw[bI] at b1 b2;have c1:=qF c.exts[i].g;have c2:=aAB c.exts[i].m 140 (by omega) (by omega);have hd:aFF c.exts[i]=if nX c.exts[i].g=true then qD c.exts[i].m 140 else false:=rfl
     repeat first|simp[hlt]|refine sR ?_
     refine sD (c1 _ _) ?_;simp;cases e4:nX c.exts[i].g
     .rw[e4,ac (by simp)] at hd;rw[jq hd] at hN;try (simp)
      repeat ((first|refine sR ?_|apply sC|apply sX);simp)
      refine sT (sH ?_);simp[<-hN]
     .rw[e4,af rfl] at hd;try (simp[hlt])
      repeat ((first|refine sR ?_|apply sC|apply sX);simp[hlt])
      refine sD (c2 _ _) ?_;simp;cases e5:qD c.exts[i].m 140
      .rw[e5] at hd;rw[jq hd] at hN;try (simp)
       repeat ((first|refine sR ?_|apply sC|apply sX);simp)
       refine sT (sH ?_);simp[<-hN]
      .rw[e5] at hd;try (simp[hw])
       repeat ((first|refine sR ?_|apply sC|apply sX);simp[hw])
       apply sE;exact⟨i+1,⟨hlt,jg hd⟩,by omega,wkA⟩
    .apply sX;simp only[AU,↓reduceIte];have:i=c.exts.length:=by omega
     subst this;rw[bh] at gt;rw[gt] at hN;repeat first|simp|refine sR ?_
     refine sT (sH ?_);simp[<-hN]
def aHX(x:Xt):Bool:=if 3<x.g.nodes.length then false else if 3<x.g.edges.length then false else true
def aCb(c:Co):Bool:=if aEu c=true then (if kT c≠0 then true else if 3<c.g.nodes.length then false else if 2<c.g.edges.length then false else if 2<c.exts.length then false else cJ aHX c.exts) else false
theorem aGp(c:Co)(hb:c.Big):DC 64 [c.av] (B (aCb c)):=by
 intro tok nt box nb;have h1:=aJP c hb;obtain⟨N,hN⟩:∃N,aCb c=N:=⟨_,rfl⟩
 rw[hN];unfold aCb at hN;have hf:=@aCf c;refine sI func64 ntmps64 fun Hb Ht=>?_
 repeat first|simp|refine sR ?_
 refine sD (h1 _ _) ?_;simp;cases e0:aEu c
 .rw[e0,ac (by simp)] at hN;try (simp)
  repeat ((first|refine sR ?_|apply sC|apply sX);simp)
  refine sT (sH ?_);simp[<-hN]
 .rw[e0,af rfl] at hN;obtain⟨hc,hx10⟩:=hf e0;have h2:=aIO c hc;have sc:=hc.g.n;have hge:=hc.g.e;try (simp)
  repeat ((first|refine sR ?_|apply sC|apply sX);simp)
  refine sD (h2 _ _) ?_;simp;by_cases e1:kT c=0
  .rw[ac (by simp[e1])] at hN;by_cases s1:3<c.g.nodes.length
   .have s1':(3:Int)<c.g.nodes.length:=by omega
    rw[af s1] at hN;try (simp[e1,s1,s1'])
    repeat ((first|refine sR ?_|apply sC|apply sX);simp[e1,s1,s1'])
    refine sT (sH ?_);simp[<-hN]
   .have s1':¬(3:Int)<c.g.nodes.length:=by omega
    rw[ac s1] at hN;by_cases s2:2<c.g.edges.length
    .have s2':(2:Int)<c.g.edges.length:=by omega
     rw[af s2] at hN;try (simp[e1,s1,s1',s2,s2'])
     repeat ((first|refine sR ?_|apply sC|apply sX);simp[e1,s1,s1',s2,s2'])
     refine sT (sH ?_);simp[<-hN]
    .have s2':¬(2:Int)<c.g.edges.length:=by omega
     rw[ac s2] at hN;by_cases s3:2<c.exts.length
     .have s3':(2:Int)<c.exts.length:=by omega
      rw[af s3] at hN;try (simp[e1,s1,s1',s2,s2',s3,s3'])
      repeat ((first|refine sR ?_|apply sC|apply sX);simp[e1,s1,s1',s2,s2',s3,s3'])
      refine sT (sH ?_);simp[<-hN]
     .have s3':¬(2:Int)<c.exts.length:=by omega
      rw[ac s3] at hN;try (simp[e1,s1,s1',s2,s2',s3,s3'])
      repeat ((first|refine sR ?_|apply sC|apply sX);simp[e1,s1,s1',s2,s2',s3,s3'])
      apply sN;refine sL (aKH c nb box tok nt) (fun i=>i<=c.exts.length/\cJ aHX (c.exts.take i)=true) (fun i=>c.exts.length-i) 0 ⟨ai _,by simp[cJ]⟩ wkA ?_;rintro i S' ⟨hi,gt⟩ hS;simp only[aKH] at hS;subst hS;have hw:=sW (i:=i) (by omega);repeat first|simp|refine sR ?_|apply sC
      refine⟨fun hlt=>?_,fun hge=>?_⟩
      .have jq:=fun h=>fL (p:=aHX) hlt h
       have jg:=fun h=>cW (p:=aHX) hlt gt h
       have hd:aHX c.exts[i]=if 3<c.exts[i].g.nodes.length then false else if 3<c.exts[i].g.edges.length then false else true:=rfl
       by_cases t1:3<c.exts[i].g.nodes.length
       .have t1':(3:Int)<c.exts[i].g.nodes.length:=by omega
        rw[af t1] at hd;rw[jq hd] at hN;try (simp[hlt,t1,t1'])
        repeat ((first|refine sR ?_|apply sC|apply sX);simp[hlt,t1,t1'])
        refine sT (sH ?_);simp[<-hN]
       .have t1':¬(3:Int)<c.exts[i].g.nodes.length:=by omega
        rw[ac t1] at hd;by_cases t2:3<c.exts[i].g.edges.length
        .have t2':(3:Int)<c.exts[i].g.edges.length:=by omega
         rw[af t2] at hd;rw[jq hd] at hN;try (simp[hlt,t1,t1',t2,t2'])
         repeat ((first|refine sR ?_|apply sC|apply sX);simp[hlt,t1,t1',t2,t2'])
         refine sT (sH ?_);simp[<-hN]
        .have t2':¬(3:Int)<c.exts[i].g.edges.length:=by omega
         rw[ac t2] at hd;try (simp[hlt,t1,t1',t2,t2',hw])
         repeat ((first|refine sR ?_|apply sC|apply sX);simp[hlt,t1,t1',t2,t2',hw])
         apply sE;exact⟨i+1,⟨hlt,jg hd⟩,by omega,wkA⟩
      .apply sX;simp only[AU,↓reduceIte];have:i=c.exts.length:=by omega
       subst this;rw[bh] at gt;rw[gt] at hN;repeat first|simp|refine sR ?_
       refine sT (sH ?_);simp[<-hN]
  .have b1:(kT c != 0)=true:=by simp[e1]
   rw[af e1] at hN;try (simp[b1])
   repeat ((first|refine sR ?_|apply sC|apply sX);simp[b1])
   refine sT (sH ?_);simp[<-hN]
def aDt(r:Ru):Bool:=if aAK r=true then (if cN r=0 then (if r.lg.nodes.length<=4 then (if r.lg.edges.length<=4 then (if r.rg.nodes.length<=4 then decide (r.rg.edges.length<=4) else false) else false) else false) else true) else false
theorem aCN{r:Ru}(hb:r.Big)(h:aDt r=true):r.Fit:=by
 unfold aDt at h;split at h
 .rename_i h1;exact aCs hb h1
 .cases h
theorem aFG(r:Ru)(hb:r.Big):DC 62 [r.av] (B (aDt r)):=by
 intro tok nt box nb;have h1:=aKj r hb;have hf:=@aCs r hb;obtain⟨N,hN⟩:∃N,aDt r=N:=⟨_,rfl⟩
 rw[hN];unfold aDt at hN;refine sI func62 ntmps62 fun Hb Ht=>?_
 repeat first|simp|refine sR ?_
 refine sD (h1 _ _) ?_;simp;cases e0:aAK r
 .rw[e0,ac (by simp)] at hN;try (simp)
  repeat ((first|refine sR ?_|apply sC|apply sX);simp)
  refine sT (sH ?_);simp[<-hN]
 .rw[e0,af rfl] at hN;have h2:=fU r (hf e0);try (simp)
  repeat ((first|refine sR ?_|apply sC|apply sX);simp)
  refine sD (h2 _ _) ?_;simp;by_cases e1:cN r=0
  .rw[af e1] at hN;have w:∀n:Nat,((n:Int)<=4)↔n<=4:=fun n=>by omega
   by_cases s1:r.lg.nodes.length<=4
   .have s1':=(w _).2 s1
    rw[af s1] at hN;by_cases s2:r.lg.edges.length<=4
    .have s2':=(w _).2 s2
     rw[af s2] at hN;by_cases s3:r.rg.nodes.length<=4
     .have s3':=(w _).2 s3
      rw[af s3] at hN;by_cases s4:r.rg.edges.length<=4
      .have s4':=(w _).2 s4
       rw[ct s4] at hN;try (simp[e1,s1,s1',s2,s2',s3,s3',s4,s4'])
       repeat ((first|refine sR ?_|apply sC|apply sX);simp[e1,s1,s1',s2,s2',s3,s3',s4,s4'])
       refine sT (sH ?_);simp[<-hN,s4']
      .have s4':¬(r.rg.edges.length:Int)<=4:=fun h=>s4 ((w _).1 h)
       rw[ca s4] at hN;try (simp[e1,s1,s1',s2,s2',s3,s3',s4,s4'])
       repeat ((first|refine sR ?_|apply sC|apply sX);simp[e1,s1,s1',s2,s2',s3,s3',s4,s4'])
       refine sT (sH ?_);simp[<-hN,s4']
     .have s3':¬(r.rg.nodes.length:Int)<=4:=fun h=>s3 ((w _).1 h)
      rw[ac s3] at hN;try (simp[e1,s1,s1',s2,s2',s3,s3'])
      repeat ((first|refine sR ?_|apply sC|apply sX);simp[e1,s1,s1',s2,s2',s3,s3'])
      refine sT (sH ?_);simp[<-hN]
    .have s2':¬(r.lg.edges.length:Int)<=4:=fun h=>s2 ((w _).1 h)
     rw[ac s2] at hN;try (simp[e1,s1,s1',s2,s2'])
     repeat ((first|refine sR ?_|apply sC|apply sX);simp[e1,s1,s1',s2,s2'])
     refine sT (sH ?_);simp[<-hN]
   .have s1':¬(r.lg.nodes.length:Int)<=4:=fun h=>s1 ((w _).1 h)
    rw[ac s1] at hN;try (simp[e1,s1,s1'])
    repeat ((first|refine sR ?_|apply sC|apply sX);simp[e1,s1,s1'])
    refine sT (sH ?_);simp[<-hN]
  .have b1:(cN r != 0)=true:=by simp[e1]
   rw[ac e1] at hN;try (simp[b1,e1])
   repeat ((first|refine sR ?_|apply sC|apply sX);simp[b1,e1])
   refine sT (sH ?_);simp[<-hN]
theorem aJd{c:Co}(h:aCb c=true):c.Fit:=by
 unfold aCb at h;split at h
 .rename_i h1;exact(aCf h1).1
 .cases h
theorem AL.cut_aux{P:Program}{cx:Cx}{nt0:Nat}{K K':Exit->AS->Prop}{R:List CI}(hn:∀S,K' .normal S->AL P cx nt0 K R S)(he:∀e S,e≠.normal->K' e S->AU P cx nt0 K R e S):
  ∀l:List CI,(∀S,AL P cx nt0 K' l S->AL P cx nt0 K (l++R) S)/\∀e S,e≠.normal->AU P cx nt0 K' l e S->AU P cx nt0 K (l++R) e S
 | []=>⟨fun S h=>hn S (by simpa only[AL] using h),fun e S h1 h=>he e S h1 (by simpa only[AU] using h)⟩
 | .c c::l=>by
  obtain⟨i1,i2⟩:=AL.cut_aux hn he l;refine⟨fun S h=>?_,fun e S h1 h=>?_⟩
  .simp only[AL,ga] at h ⊢;refine h.mono fun e S' h=>?_
   cases e with
   | normal=>exact i1 S' h
   | _=>exact i2 _ _ (by simp) h
  .simp only[AU,ga] at h ⊢;exact i2 e S h1 h
 | .blk id::l=>by
  obtain⟨i1,i2⟩:=AL.cut_aux hn he l;refine⟨fun S h=>?_,fun e S h1 h=>?_⟩
  .simp only[AL,ga] at h ⊢;exact i1 S h
  .cases e with
   | normal=>exact absurd rfl h1
   | exit j =>
    simp only[AU,ga] at h ⊢;split
    .rename_i hj;rw[af hj] at h;exact i1 S h
    .rename_i hj;rw[ac hj] at h;exact i2 _ S h1 h
   | _ =>
    simp only[AU,ga] at h ⊢;exact i2 _ S h1 h
theorem AL.cut{P:Program}{cx:Cx}{nt0:Nat}{K:Exit->AS->Prop}{l r:List CI}{S:AS}{y:Code}{α:Type}(T:α->AS)(inv:α->Prop)(h1:AL P cx nt0 (fun e S'=>match e with
   | .normal=>∃a,inv a/\bB cx nt0 S' (T a)
   | e=>AU P cx nt0 K (.c y::r) e S') l S)(h2:∀a,inv a->AL P cx nt0 K (.c y::r) (T a)):AL P cx nt0 K (l++.c y::r) S:=by
 refine(AL.cut_aux ?_ ?_ l).1 S h1
 .rintro S ⟨a,ha,hw⟩;exact AL.weak hw (h2 a ha)
 .intro e S hne h;cases e with
  | normal=>exact absurd rfl hne
  | _=>exact h
theorem AL.cutP{P:Program}{cx:Cx}{nt0:Nat}{K:Exit->AS->Prop}{l r:List CI}{S:AS}{y:Code}(T:AS)(p:Prop)(h1:AL P cx nt0 (fun e S'=>match e with
   | .normal=>p/\bB cx nt0 S' T
   | e=>AU P cx nt0 K (.c y::r) e S') l S)(h2:p->AL P cx nt0 K (.c y::r) T):AL P cx nt0 K (l++.c y::r) S:=by
 refine(AL.cut_aux ?_ ?_ l).1 S h1
 .rintro S ⟨ha,hw⟩;exact AL.weak hw (h2 ha)
 .intro e S hne h;cases e with
  | normal=>exact absurd rfl hne
  | _=>exact h
def yG(r:Ru):Bool:=aDt r&&!(decide (cN r=0)&&decide (5<r.rg.nodes.length+r.rg.edges.length))
def wJ(n a b c:Nat):Bool:=(decide (a<n)&&decide (n<=b))||decide (c<n)
def aEj(t:Ty)(L:List Ru)(l:List Co):Bool:=aDp t&&(!wJ L.length 3 6 8&&(!wJ l.length 3 8 10&&(L.all yG&&l.all aCb)))
structure pU (t:Ty) (L:List Ru) (l:List Co):Prop where
 nL:L.length<=2000000000000
 nl:l.length<=2000000000000
 t:t.Big
 L:∀r∈L,r.Big
 l:∀c∈l,c.Big
theorem aG3{t:Ty}{L:List Ru}{l:List Co}(h:pU t L l)(hl:aEj t L l=true):cA t L l/\L.length<=8/\l.length<=10:=by
 unfold aEj at hl;simp only[bd,db,wJ,Bool.or_eq_false_iff,bo,ax] at hl;obtain⟨h1,⟨_,h2⟩,⟨_,h3⟩,h4,h5⟩:=hl;refine⟨⟨aHJ h1,fun r hr=>?_,fun c hc=>aJd (h5 c hc)⟩,by omega,by omega⟩;have:=h4 r hr
 unfold yG at this;rw[bd] at this;exact aCN (h.L r hr) this.1
def xT(t:Ty)(L:List Ru)(l:List Co)(nb:Nat)(box:Bxs)(tok:Tks)(nt:Nat):AS:=⟨tl [(1,.d (fF L)),(2,.d (bV l))],lb nb box [],tok,nt⟩
def aPL(t:Ty)(L:List Ru)(l:List Co)(nb:Nat)(box:Bxs)(tok:Tks)(nt:Nat)(i:Nat):AS:=⟨tl [(7,I i),(1,.d (fF L)),(2,.d (bV l))],lb nb box [],tok,nt⟩
def aC5(l:List Co)(nb:Nat)(box:Bxs)(tok:Tks)(nt:Nat)(i:Nat):AS:=⟨tl [(8,I i),(2,.d (bV l))],lb nb box [],tok,nt⟩
set_option maxRecDepth 100000 in
theorem aGh(t:Ty)(L:List Ru)(l:List Co)(h:pU t L l):DC 27 [t.av,.d (fF L),.d (bV l)] (B (aEj t L l)):=by
 intro tok nt box nb;have h1:=aKV t h.t;have hnL:=h.nL;have o7:=h.nl;obtain⟨N,hN⟩:∃N,aEj t L l=N:=⟨_,rfl⟩
 rw[hN];unfold aEj at hN;refine sI func27 ntmps27 fun Hb Ht=>?_
 by_cases e1:aDp t=true
 case neg =>
  have e1:aDp t=false:=by simpa using e1
  rw[e1,dc] at hN;try (simp)
  repeat ((first|refine sR ?_|apply sC|apply sX);simp)
  refine sD (h1 _ _) ?_;simp;rw[e1];try (simp)
  repeat ((first|refine sR ?_|apply sC|apply sX);simp)
  refine sT (sH ?_);simp[<-hN]
 rw[e1,cq] at hN;refine sR ?_;simp;apply sN;refine AL.cutP (l:=[_,_]) (xT t L l nb box tok nt) (wJ L.length 3 6 8=false/\wJ l.length 3 8 10=false) ?_ fun hp=>?_
 .skip
  have jy:wJ L.length 3 6 8=true->N=false:=fun h=>by rw[<-hN,h];rfl
  have sg:wJ l.length 3 8 10=true->N=false:=fun h=>by rw[<-hN,h];simp
  have dec:∀{n a b c:Nat},wJ n a b c=true↔(a<n/\n<=b)∨c<n:=by intros;simp[wJ]
  have lst:∀F:Prop,(¬(3<l.length/\l.length<=8)->¬10<l.length->F)->((3<l.length/\l.length<=8)∨10<l.length->F)->F:=fun F f g=>by
   by_cases c1:3<l.length/\l.length<=8
   .exact g (.inl c1)
   .by_cases c2:10<l.length
    .exact g (.inr c2)
    .exact f c1 c2
  by_cases a1:3<L.length
  .have f1:(3:Int)<L.length:=by omega
   by_cases a2:L.length<=6
   .have f2:(L.length:Int)<=6:=by omega
    have:=jy (dec.2 (.inl ⟨a1,a2⟩))
    subst this;try (simp)
    repeat ((first|refine sR ?_|apply sC|apply sX);simp)
    refine sD (h1 _ _) ?_;simp;rw[e1];try (simp[f1,f2])
    repeat ((first|refine sR ?_|apply sC|apply sX);simp[f1,f2])
    refine sT (sH ?_);simp
   have f2:¬(L.length:Int)<=6:=by omega
   by_cases a3:8<L.length
   .have f3:(8:Int)<L.length:=by omega
    have:=jy (dec.2 (.inr a3))
    subst this;try (simp)
    repeat ((first|refine sR ?_|apply sC|apply sX);simp)
    refine sD (h1 _ _) ?_;simp;rw[e1];try (simp[f1,f2,f3])
    repeat ((first|refine sR ?_|apply sC|apply sX);simp[f1,f2,f3])
    refine sT (sH ?_);simp
   have f3:¬(8:Int)<L.length:=by omega
   by_cases b1:3<l.length
   .have g1:(3:Int)<l.length:=by omega
    by_cases b2:l.length<=8
    .have g2:(l.length:Int)<=8:=by omega
     have:=sg (dec.2 (.inl ⟨b1,b2⟩))
     subst this;try (simp)
     repeat ((first|refine sR ?_|apply sC|apply sX);simp)
     refine sD (h1 _ _) ?_;simp;rw[e1];try (simp[f1,f2,f3,g1,g2])
     repeat ((first|refine sR ?_|apply sC|apply sX);simp[f1,f2,f3,g1,g2])
     refine sT (sH ?_);simp
    have g2:¬(l.length:Int)<=8:=by omega
    by_cases b3:10<l.length
    .have g3:(10:Int)<l.length:=by omega
     have:=sg (dec.2 (.inr b3))
     subst this;try (simp)
     repeat ((first|refine sR ?_|apply sC|apply sX);simp)
     refine sD (h1 _ _) ?_;simp;rw[e1];try (simp[f1,f2,f3,g1,g2,g3])
     repeat ((first|refine sR ?_|apply sC|apply sX);simp[f1,f2,f3,g1,g2,g3])
     refine sT (sH ?_);simp
    have g3:¬(10:Int)<l.length:=by omega
    try (simp)
    repeat ((first|refine sR ?_|apply sC|apply sX);simp)
    refine sD (h1 _ _) ?_;simp;rw[e1];try (simp[f1,f2,f3,g1,g2,g3])
    repeat ((first|refine sR ?_|apply sC|apply sX);simp[f1,f2,f3,g1,g2,g3])
    apply sE;exact⟨⟨by rw[<-Bool.not_eq_true,dec];omega,by rw[<-Bool.not_eq_true,dec];omega⟩,wM (nr0 _) rfl (by simp[xT,ToL,lk]) (by simp[xT,aE,lk])⟩
   have g1:¬(3:Int)<l.length:=by omega
   have g3:¬(10:Int)<l.length:=by omega
   try (simp)
   repeat ((first|refine sR ?_|apply sC|apply sX);simp)
   refine sD (h1 _ _) ?_;simp;rw[e1];try (simp[f1,f2,f3,g1,g3])
   repeat ((first|refine sR ?_|apply sC|apply sX);simp[f1,f2,f3,g1,g3])
   apply sE;exact⟨⟨by rw[<-Bool.not_eq_true,dec];omega,by rw[<-Bool.not_eq_true,dec];omega⟩,wM (nr0 _) rfl (by simp[xT,ToL,lk]) (by simp[xT,aE,lk])⟩
  have f1:¬(3:Int)<L.length:=by omega
  have f3:¬(8:Int)<L.length:=by omega
  by_cases b1:3<l.length
  .have g1:(3:Int)<l.length:=by omega
   by_cases b2:l.length<=8
   .have g2:(l.length:Int)<=8:=by omega
    have:=sg (dec.2 (.inl ⟨b1,b2⟩))
    subst this;try (simp)
    repeat ((first|refine sR ?_|apply sC|apply sX);simp)
    refine sD (h1 _ _) ?_;simp;rw[e1];try (simp[f1,f3,g1,g2])
    repeat ((first|refine sR ?_|apply sC|apply sX);simp[f1,f3,g1,g2])
    refine sT (sH ?_);simp
   have g2:¬(l.length:Int)<=8:=by omega
   by_cases b3:10<l.length
   .have g3:(10:Int)<l.length:=by omega
    have:=sg (dec.2 (.inr b3))
    subst this;try (simp)
    repeat ((first|refine sR ?_|apply sC|apply sX);simp)
    refine sD (h1 _ _) ?_;simp;rw[e1];try (simp[f1,f3,g1,g2,g3])
    repeat ((first|refine sR ?_|apply sC|apply sX);simp[f1,f3,g1,g2,g3])
    refine sT (sH ?_);simp
   have g3:¬(10:Int)<l.length:=by omega
   try (simp)
   repeat ((first|refine sR ?_|apply sC|apply sX);simp)
   refine sD (h1 _ _) ?_;simp;rw[e1];try (simp[f1,f3,g1,g2,g3])
   repeat ((first|refine sR ?_|apply sC|apply sX);simp[f1,f3,g1,g2,g3])
   apply sE;exact⟨⟨by rw[<-Bool.not_eq_true,dec];omega,by rw[<-Bool.not_eq_true,dec];omega⟩,wM (nr0 _) rfl (by simp[xT,ToL,lk]) (by simp[xT,aE,lk])⟩
  have g1:¬(3:Int)<l.length:=by omega
  have g3:¬(10:Int)<l.length:=by omega
  try (simp)
  repeat ((first|refine sR ?_|apply sC|apply sX);simp)
  refine sD (h1 _ _) ?_;simp;rw[e1];try (simp[f1,f3,g1,g3])
  repeat ((first|refine sR ?_|apply sC|apply sX);simp[f1,f3,g1,g3])
  apply sE;exact⟨⟨by rw[<-Bool.not_eq_true,dec];omega,by rw[<-Bool.not_eq_true,dec];omega⟩,wM (nr0 _) rfl (by simp[xT,ToL,lk]) (by simp[xT,aE,lk])⟩
 .obtain⟨p2,p3⟩:=hp;rw[p2,p3,Bool.not_false,cq,cq] at hN;have hL8:L.length<=8:=by simp[wJ] at p2;omega
  have hl8:l.length<=10:=by simp[wJ] at p3;omega
  simp only[xT];try (simp)
  repeat ((first|refine sR ?_|apply sC|apply sX);simp)
  apply sN;refine sL (aPL t L l nb box tok nt) (fun i=>i<=L.length/\∀r∈L.take i,yG r=true) (fun i=>L.length-i) 0 ⟨ai _,by simp⟩ wkA ?_;rintro i S ⟨hi,gt⟩ hS;simp only[aPL] at hS;subst hS;have hw:=sW (i:=i) (by omega);by_cases hlt:i<L.length
  .have vk:=aa hlt;have gx:=uQ hlt;have nj:=ah hlt;obtain⟨r,hr⟩:∃r,L[i]=r:=⟨_,rfl⟩
   rw[hr] at vk gx nj;have oo:yG r=false->N=false:=fun h=>by
    rw[<-hN,Bool.and_eq_false_iff];refine .inl ?_;rw[d8];exact⟨r,vk,by simp[h]⟩
   have lm:yG r=true->∀y∈L.take (i+1),yG y=true:=fun hm y hy=>by
    rw[nj] at hy;rcases ap.1 hy with hy|hy
    .exact gt y hy
    .rw[a7.1 hy,hm]
   have q1:=aFG r (h.L r vk);try (simp[hlt,gx,hr,Ru.rowK])
   repeat ((first|refine sR ?_|apply sC|apply sX);simp[hlt,gx,hr,Ru.rowK])
   refine sD (q1 _ _) ?_;simp;cases e2:aDt r
   .have:=oo (by unfold yG;rw[e2];rfl)
    subst this;try (simp)
    repeat ((first|refine sR ?_|apply sC|apply sX);simp)
    refine sT (sH ?_);simp
   have kw:=aCN (h.L r vk) e2;have q2:=fU r kw;have vt:=kw.rg.n;have wv:=kw.rg.e;try (simp[hlt,gx,hr,Ru.rowK])
   repeat ((first|refine sR ?_|apply sC|apply sX);simp[hlt,gx,hr,Ru.rowK])
   refine sD (q2 _ _) ?_;simp;by_cases e3:cN r=0
   .have b3:(cN r==0)=true:=by simp[e3]
    have qq:IntKind.i64.wrap ((r.rg.nodes.length:Int)+(r.rg.edges.length:Int))=(r.rg.nodes.length:Int)+(r.rg.edges.length:Int):=aL (by omega) (by omega)
    by_cases e4:5<r.rg.nodes.length+r.rg.edges.length
    .have b4:(5:Int)<(r.rg.nodes.length:Int)+(r.rg.edges.length:Int):=by omega
     have:=oo (by unfold yG;rw[e2,ct e3,ct e4];rfl)
     subst this;try (simp[b3,b4,hlt,gx,hr,Ru.rowK,qq])
     repeat ((first|refine sR ?_|apply sC|apply sX);simp[b3,b4,hlt,gx,hr,Ru.rowK,qq])
     refine sT (sH ?_);simp
    .have b4:¬(5:Int)<(r.rg.nodes.length:Int)+(r.rg.edges.length:Int):=by omega
     try (simp[b3,b4,hlt,gx,hr,Ru.rowK,qq,hw])
     repeat ((first|refine sR ?_|apply sC|apply sX);simp[b3,b4,hlt,gx,hr,Ru.rowK,qq,hw])
     apply sE;exact⟨i+1,⟨hlt,lm (by unfold yG;rw[e2,ca e4];simp)⟩,by omega,wkA⟩
   .have b3:(cN r==0)=false:=by simp[e3]
    try (simp[b3,hw])
    repeat ((first|refine sR ?_|apply sC|apply sX);simp[b3,hw])
    apply sE;exact⟨i+1,⟨hlt,lm (by unfold yG;rw[e2,ca e3];rfl)⟩,by omega,wkA⟩
  .have:i=L.length:=by omega
   subst this;rw[bh] at gt;rw[ax.2 gt,cq] at hN;try (simp)
   repeat ((first|refine sR ?_|apply sC|apply sX);simp)
   apply sN;refine sL (aC5 l nb box tok nt) (fun i=>i<=l.length/\∀c∈l.take i,aCb c=true) (fun i=>l.length-i) 0 ⟨ai _,by simp⟩ wkA ?_;rintro j S ⟨hj,ou⟩ hS;simp only[aC5] at hS;subst hS;have hw:=sW (i:=j) (by omega);by_cases hlt:j<l.length
   .have hcm:=aa hlt;have gx:l[j]?=some l[j]:=ab hlt
    have nj:=ah hlt;obtain⟨c,hc⟩:∃c,l[j]=c:=⟨_,rfl⟩
    rw[hc] at hcm gx nj;have q1:=aGp c (h.l c hcm);try (simp[hlt,gx,hc])
    repeat ((first|refine sR ?_|apply sC|apply sX);simp[hlt,gx,hc])
    refine sD (q1 _ _) ?_;simp;cases e2:aCb c
    .have:N=false:=by
      rw[<-hN,d8];exact⟨c,hcm,by simp[e2]⟩
     subst this;try (simp)
     repeat ((first|refine sR ?_|apply sC|apply sX);simp)
     refine sT (sH ?_);simp
    .try (simp[hw])
     repeat ((first|refine sR ?_|apply sC|apply sX);simp[hw])
     apply sE;refine⟨j+1,⟨hlt,fun y hy=>?_⟩,by omega,wkA⟩;rw[nj] at hy;rcases ap.1 hy with hy|hy
     .exact ou y hy
     .rw[a7.1 hy,e2]
   .have:j=l.length:=by omega
    subst this;rw[bh] at ou;rw[ax.2 ou] at hN;try (simp)
    repeat ((first|refine sR ?_|apply sC|apply sX);simp)
    refine sT (sH ?_);simp[<-hN]
theorem aDC(xs:List Co)(hx:xs.length<=1000000)(tok:Tks)(nt:Nat):cZ prog 13 [.d (bV xs)] tok nt (.osl 5 (rCo xs) (.tok nt)) (upd tok nt true) (nt+1):=by
 intro box nb;have main:aC prog 13 [.d (bV xs)] ⟨box,nb,tok,nt⟩ fun v m=>(v=.osl 5 (rCo xs) (.tok nt)/\m=⟨box,nb,upd tok nt true,nt+1⟩)∨(xs=[]/\v=.osl 0 [] .full/\m=⟨box,nb,tok,nt⟩):=by
  refine sI func13 ntmps13 fun Hb Ht=>?_
  refine sR ?_;simp;refine sR ?_;simp;refine⟨?_,fun h=>?_⟩
  .apply sC;simp;refine sR ?_;simp;refine⟨by omega,?_⟩;apply sN;refine AL.ret ?_;try simp only[AU]
   refine⟨by simp,(Fin.own (by simp[aV,bQ];rfl) Hb rfl (by simp) ?_).mono fun v m hq=>.inl hq⟩;simp
  .apply sC;simp;refine sR ?_;simp;apply sN;refine AL.ret ?_;try simp only[AU]
   refine⟨by simp,(Fin.own (by simp[aV,bQ];rfl) Hb rfl (nr0 _) ?_).mono fun v m hq=>.inr ⟨h,hq.1,hq.2⟩⟩;simp
 refine main.conv fun v m h=>?_
 rcases h with ⟨rfl,rfl⟩|⟨rfl,rfl,rfl⟩
 .exact⟨_,_,Conv.refl _ _,rfl,rfl⟩
 .exact⟨_,_,Conv.newtok 0 5 box nb tok nt,rfl,rfl⟩
theorem aEx(xs:List Ru)(hx:xs.length<=1000000)(tok:Tks)(nt:Nat):cZ prog 12 [.d (fF xs)] tok nt (.osl 25 (xs.map Ru.rowK) (.tok nt)) (upd tok nt true) (nt+1):=by
 intro box nb;have main:aC prog 12 [.d (fF xs)] ⟨box,nb,tok,nt⟩ fun v m=>(v=.osl 25 (xs.map Ru.rowK) (.tok nt)/\m=⟨box,nb,upd tok nt true,nt+1⟩)∨(xs=[]/\v=.osl 0 [] .full/\m=⟨box,nb,tok,nt⟩):=by
  refine sI func12 ntmps12 fun Hb Ht=>?_
  refine sR ?_;simp;refine sR ?_;simp;refine⟨?_,fun h=>?_⟩
  .apply sC;simp;refine sR ?_;simp;refine⟨by omega,?_⟩;apply sN;refine AL.ret ?_;try simp only[AU]
   refine⟨by simp,(Fin.own (by simp[aV,bQ];rfl) Hb rfl (by simp) ?_).mono fun v m hq=>.inl hq⟩;simp
  .apply sC;simp;refine sR ?_;simp;apply sN;refine AL.ret ?_;try simp only[AU]
   refine⟨by simp,(Fin.own (by simp[aV,bQ];rfl) Hb rfl (nr0 _) ?_).mono fun v m hq=>.inr ⟨h,hq.1,hq.2⟩⟩;simp
 refine main.conv fun v m h=>?_
 rcases h with ⟨rfl,rfl⟩|⟨rfl,rfl,rfl⟩
 .exact⟨_,_,Conv.refl _ _,rfl,rfl⟩
 .exact⟨_,_,Conv.newtok 0 25 box nb tok nt,rfl,rfl⟩
def lpR:Ru:=⟨⟨#[114]⟩,⟨[1],[]⟩,[],0,[],⟨[1],[⟨1,0,0⟩]⟩,[],0,[],⟨[0],[]⟩,⟨[0],[]⟩,true,rM 1 []⟩
def lpC:Co:=⟨⟨#[99]⟩,1,⟨[1],[⟨1,0,0⟩]⟩,[]⟩
theorem aPP:(aA6 exT [lpR] [lpC]).2=10/\(aCS exT [lpR] [lpC]).2=0/\(aCS exT [lpR] [lpC]).1.length=1/\(aCS exT [lpR] [lpC]).1.map (fun o=>o.g.nodes)=[[1]]:=by decide +kernel
theorem aOd:(jA exT [lpR] [lpC] 1).2=0/\(jA exT [lpR] [lpC] 1).1.map (fun c=>c.name.data.toList)=[[99],[115,49]]:=by decide +kernel
theorem aOv:(aA6 exT [lpR] (jA exT [lpR] [lpC] 1).1).2=0/\(aA6 exT [lpR] (jA exT [lpR] [lpC] 1).1).1.map (fun d=>d.con)=[1]:=by decide +kernel
theorem aJ3:lpR.Fit:=⟨⟨by decide,by decide⟩,⟨by decide,by decide⟩,⟨by decide,by decide⟩,⟨by decide,by decide⟩,by rw[bI];simp[lpR],by rw[bI];simp[lpR],by rw[bI];simp[lpR],by rw[bI];simp[lpR]⟩
theorem aJo:lpC.Fit:=⟨by decide,⟨by decide,by decide⟩,by decide,by simp[lpC]⟩
theorem aKr:cA exT [lpR] [lpC]:=⟨aJs,fun r hr=>by rw[a7.1 hr];exact aJ3,fun c hc=>by rw[a7.1 hc];exact aJo⟩
set_option maxRecDepth 100000 in
theorem aF2:DC 35 [] (.tup [.d (fF [lpR]),.d (bV [lpC])]):=by
 intro tok nt box nb;refine sI func35 ntmps35 fun Hb Ht=>?_
 repeat first|simp|refine sR ?_
 try refine⟨rfl,?_⟩
 repeat first|simp|refine sR ?_
 try refine⟨rfl,?_⟩
 repeat first|simp|refine sR ?_
 try refine⟨rfl,?_⟩
 repeat first|simp|refine sR ?_
 refine sT (sH ?_);simp[fF,bV,Ru.rowK,lpR,lpC,xts,rM,zW,ints,AM.edges,gS,gT,Cd.kind,Cd.kids,Cd.m,Cd.g,Cd.sl,Cd.vars,Cd.te,E.cells];exact⟨aDY (by simp[xO,aAN,xB]),aDY (by simp[xO,aAN,xB,xts])⟩
theorem aDh{t:Ty}{L:List Ru}(ht:t.Fit)(De:∀r∈L,r.Fit)(hT:tyE t=0)(m7:∀r∈L,ruE t r=0)(hL:L.length<=6):∀(n:Nat) (l:List Co) (D:List Du),l.length<=8->(∀c∈l,c.Fit)->qJ D->(yJ t L n l D).1.length<=8/\∀c∈(yJ t L n l D).1,c.Fit
 | 0,l,D,hl,hf,hD=>by
  rw[yJ];split
  .exact⟨hl,hf⟩
  .exact⟨by simp,fun c hc=>absurd hc (by simp)⟩
 | n+1,l,D,hl,hf,hD=>by
  rw[yJ];split
  .exact⟨hl,hf⟩
  .split
   .exact⟨by simp,fun c hc=>absurd hc (by simp)⟩
   .split
    .exact⟨by simp,fun c hc=>absurd hc (by simp)⟩
    .have h3:=mR (t:=t) (xs:=lU t l D) hl;have h4:=lS (t:=t) (xs:=lU t l D) hl hf (aFr hD).2;exact aDh ht De hT m7 hL n _ _ h3 h4 (uB ⟨ht,De,h4⟩ hT m7 hL h3)
theorem aIj{t:Ty}{L:List Ru}{l:List Co}(h:cA t L l)(n:Int):cA t L (jA t L l n).1/\(jA t L l n).1.length<=8:=by
 have nil:cA t L ([]:List Co):=⟨h.t,h.L,fun c hc=>absurd hc (by simp)⟩
 unfold jA;split
 .exact⟨nil,by simp⟩
 .rename_i h0;split
  .exact⟨nil,by simp⟩
  .have rm:gE t L l=0:=dq fun hne=>by
    unfold fG at h0;rw[af hne] at h0;exact h0 hne
   obtain⟨hT,m7,_,h6,h8⟩:=mT rm;obtain⟨a,b⟩:=aDh h.t h.L hT m7 h6 n.toNat l _ h8 h.l (nV h);exact⟨⟨h.t,h.L,b⟩,a⟩
set_option maxRecDepth 100000 in
theorem sJ:DC 9 [] (B true):=by
 intro tok nt box nb;have hE:=aDj;have hL:=aF2;have hf:=aKr;have h1:=aBV exT [lpR] [lpC] hf (by decide) (by decide) (nV hf);have h2:=aKC exT [lpR] [lpC] hf (by decide) (by decide) (nV hf);have h3:=yF exT [lpR] [lpC] hf (by decide) (by decide) 1;obtain⟨a1,a2,a3,a4⟩:=aPP;obtain⟨b1,b2⟩:=aOd;obtain⟨c1,c2⟩:=aOv;obtain⟨tg,hl2⟩:=aIj hf 1;have h4:=aBV exT [lpR] (jA exT [lpR] [lpC] 1).1 tg (by decide) (by omega) (nV tg);obtain⟨Q,hQ⟩:∃Q,aA6 exT [lpR] (jA exT [lpR] [lpC] 1).1=Q:=⟨_,rfl⟩
 obtain⟨S,hS⟩:∃S,jA exT [lpR] [lpC] 1=S:=⟨_,rfl⟩
 obtain⟨O,hO⟩:∃O,aCS exT [lpR] [lpC]=O:=⟨_,rfl⟩
 obtain⟨P,hP⟩:∃P,aA6 exT [lpR] [lpC]=P:=⟨_,rfl⟩
 rw[hQ] at c1 c2 h4;rw[hS] at b1 b2 h3 h4 hl2;rw[hO] at a2 a3 a4 h2;rw[hP] at a1 h1;obtain⟨O1,O2⟩:=O;obtain⟨S1,S2⟩:=S;obtain⟨Q1,Q2⟩:=Q;simp only at a2 a3 a4 b1 b2 c1 c2 h2 h3 h4 hl2;obtain⟨o,rfl⟩:=List.length_eq_one_iff.1 a3;have a4:o.g.nodes=[1]:=by simpa using a4
 subst a2 b1 c1;have BL:Q1.length=1:=by have:=fp List.length c2;simpa using this
 obtain⟨q,rfl⟩:=List.length_eq_one_iff.1 BL;have c2:q.con=1:=by simpa using c2
 have mv:S1.length=2:=by have:=fp List.length b2;simpa using this
 obtain⟨s0,s1,rfl⟩:∃a b,S1=[a,b]:=by
  match S1,mv with
  | [a,b],_=>exact⟨a,b,rfl⟩
 have b2:s1.name=⟨#[115,49]⟩:=by
  simp at b2;have h5:=b2.2;obtain⟨⟨⟨w⟩⟩,k,g,x⟩:=s1;simp at h5;simp[h5]
 have mo:=aDg o.g.nodes [1] (by rw[a4];decide);rw[a4] at mo;clear hQ hS hO hP;refine sI func9 ntmps9 fun Hb Ht=>?_
 repeat first|simp|refine sR ?_
 refine sD (hE _ _) ?_;repeat first|simp|refine sR ?_
 refine sD (hL _ _) ?_;repeat first|simp|refine sR ?_
 refine sD (h1 _ _) ?_;repeat first|simp|refine sR ?_
 refine sD (h2 _ _) ?_;repeat first|simp|refine sR ?_
 refine sD (h3 _ _) ?_;repeat first|simp|refine sR ?_
 refine sD (h4 _ _) ?_;simp;try (simp[a1,a4,b2,c2])
 repeat ((first|refine sR ?_|apply sC|apply sX);simp[a1,a4,b2,c2])
 refine aT.sub (args':=[.d (ints [1]),.d (ints [1])]) ⟨Sub.refl _,Sub.data _ _ _,trivial⟩ ?_;refine sD (mo _ _) ?_;simp;try (simp[b2,c2])
 repeat ((first|refine sR ?_|apply sC|apply sX);simp[b2,c2])
 refine sT (sH ?_);simp[b2,c2]
abbrev aIU(t:Ty)(L:List Ru)(l:List Co):AV:=.agg [.d (nts t.nodes),.d (ets t.edges),.d (fF L),.d (bV l)]
theorem aIW(t:Ty)(L:List Ru)(l:List Co)(h:pU t L l):DC 10 [aIU t L l] (B (aEj t L l)):=by
 intro tok nt box nb;have h1:=aGh t L l h;refine sI func10 ntmps10 fun Hb Ht=>?_
 repeat first|simp|refine sR ?_
 refine sD (h1 _ _) ?_;simp;try (simp)
 repeat ((first|refine sR ?_|apply sC|apply sX);simp)
 refine sT (sH ?_);simp
def aEB(d:Dc):Bool:=nX d.o.g&&qD d.m 140
def aF4(p:List Dc):Bool:=decide (p.length<=60)&&p.all aEB
structure aEi (p:List Dc):Prop where
 n:p.length<=2000000000000
 m:∀d∈p,d.m.nodes.length<=281474976710656/\d.m.edges.length<=281474976710656
theorem aHY{p:List Dc}(h:aF4 p=true):p.length<=60/\∀d∈p,d.Fit:=by
 unfold aF4 at h;rw[bd,au,ax] at h;refine⟨h.1,fun d hd=>?_⟩;have:=h.2 d hd
 unfold aEB at this;rw[bd] at this;exact⟨mQ this.1,nP this.2⟩
def aNN(p:List Dc)(nb:Nat)(box:Bxs)(tok:Tks)(nt:Nat)(i:Nat):AS:=⟨tl [(3,I i),(1,.ptr (nb+1) 0 0)],lb nb box [(1,[[.d (tY p)]])],tok,nt⟩
set_option maxRecDepth 100000 in
theorem aMV(p:List Dc)(h:aEi p):DC 24 [.agg [.d (tY p)]] (B (aF4 p)):=by
 intro tok nt box nb;have hn:=h.n;obtain⟨N,hN⟩:∃N,aF4 p=N:=⟨_,rfl⟩
 rw[hN];unfold aF4 at hN;refine sI func24 ntmps24 fun Hb Ht=>?_
 by_cases c1:p.length<=60
 case neg =>
  have b1:(60:Int)<p.length:=by omega
  rw[ca c1,dc] at hN;subst hN;try (simp[b1])
  repeat ((first|refine sR ?_|apply sC|apply sX);simp[b1])
  refine sT (sH ?_);simp
 have b1:¬(60:Int)<p.length:=by omega
 rw[ct c1,cq] at hN;try (simp[b1])
 repeat ((first|refine sR ?_|apply sC|apply sX);simp[b1])
 apply sN;refine sL (aNN p nb box tok nt) (fun i=>i<=p.length/\∀d∈p.take i,aEB d=true) (fun i=>p.length-i) 0 ⟨ai _,by simp⟩ wkA ?_;rintro i S ⟨hi,gt⟩ hS;simp only[aNN] at hS;subst hS;have hw:=sW (i:=i) (by omega);by_cases hlt:i<p.length
 .have yy:=aa hlt;have gx:=aGV hlt;have nj:=ah hlt;obtain⟨d,hd⟩:∃d,p[i]=d:=⟨_,rfl⟩
  rw[hd] at yy gx nj;obtain⟨m1,m2⟩:=h.m d yy;have q1:=qF d.o.g;have q2:=aAB d.m 140 m1 m2;have oo:aEB d=false->N=false:=fun h=>by
   rw[<-hN,d8];exact⟨d,yy,by simp[h]⟩
  try (simp[hlt,gx,hd])
  repeat ((first|refine sR ?_|apply sC|apply sX);simp[hlt,gx,hd])
  refine sD (q1 _ _) ?_;simp;cases e1:nX d.o.g
  .have:=oo (by unfold aEB;rw[e1];rfl)
   subst this;try (simp)
   repeat ((first|refine sR ?_|apply sC|apply sX);simp)
   refine sT (sH ?_);simp
  try (simp[hlt,gx,hd])
  repeat ((first|refine sR ?_|apply sC|apply sX);simp[hlt,gx,hd])
  refine sD (q2 _ _) ?_;simp;cases e2:qD d.m 140
  .have:=oo (by unfold aEB;rw[e2];simp)
   subst this;try (simp)
   repeat ((first|refine sR ?_|apply sC|apply sX);simp)
   refine sT (sH ?_);simp
  try (simp[hw])
  repeat ((first|refine sR ?_|apply sC|apply sX);simp[hw])
  apply sE;refine⟨i+1,⟨hlt,fun y hy=>?_⟩,by omega,wkA⟩;rw[nj] at hy;rcases ap.1 hy with hy|hy
  .exact gt y hy
  .rw[a7.1 hy];unfold aEB;rw[e1,e2];rfl
 .have:i=p.length:=by omega
  subst this;rw[bh] at gt;rw[ax.2 gt] at hN;subst hN;try (simp)
  repeat ((first|refine sR ?_|apply sC|apply sX);simp)
  refine sT (sH ?_);simp
set_option maxRecDepth 100000 in
theorem lawCheck44_c(t:Ty)(L:List Ru)(l:List Co)(h:pU t L l)(p:List Dc)(hp:aEi p)(tok:Tks)(nt:Nat):∃tok' nt',cZ prog 6 [aIU t L l,.agg [.d (tY p)]] tok nt (B true) tok' nt':=by
 refine⟨tok,nt,?_⟩;intro box nb;have hlt:=aIW t L l h;have Eg:=aMV p hp;refine sI func6 ntmps6 fun Hb Ht=>?_
 repeat first|simp|refine sR ?_
 refine sD (sJ _ _) ?_;simp;try (simp)
 repeat ((first|refine sR ?_|apply sC|apply sX);simp)
 refine sD (hlt _ _) ?_;simp;cases h1:aEj t L l
 .try (simp)
  repeat ((first|refine sR ?_|apply sC|apply sX);simp)
  refine sD (sJ _ _) ?_;simp;try (simp)
  repeat ((first|refine sR ?_|apply sC|apply sX);simp)
  refine sT (sH ?_);simp
 try (simp)
 repeat ((first|refine sR ?_|apply sC|apply sX);simp)
 refine sD (Eg _ _) ?_;simp;cases h2:aF4 p
 .try (simp)
  repeat ((first|refine sR ?_|apply sC|apply sX);simp)
  refine sD (sJ _ _) ?_;simp;try (simp)
  repeat ((first|refine sR ?_|apply sC|apply sX);simp)
  refine sT (sH ?_);simp
 obtain⟨hf,h8,zb⟩:=aG3 h h1;obtain⟨_,pf⟩:=aHY h2;have q1:=aEx L (by omega);have q2:=aDC l (by omega);have q3:=aIN t L l hf (by omega) (by omega) (nV hf) p pf;have q4:=aFJ t L l hf (by omega) (by omega) p pf;have htk:=(TK.start Ht).full.app.full.app;try (simp)
 repeat ((first|refine sR ?_|apply sC|apply sX);simp)
 refine sD (q1 _ _) ?_;simp;try (simp)
 repeat ((first|refine sR ?_|apply sC|apply sX);simp)
 refine sD (q2 _ _) ?_;simp;try (simp)
 repeat ((first|refine sR ?_|apply sC|apply sX);simp)
 refine aT.sub (args':=[t.av,.d (fF L),.d (bV l),.agg [.d (tY p)]]) ⟨Sub.refl _,Sub.data _ _ _,Sub.data _ _ _,Sub.refl _,trivial⟩ ?_;refine sD (q3 _ _) ?_;simp;try (simp)
 repeat ((first|refine sR ?_|apply sC|apply sX);simp)
 refine sD (q4 _ _) ?_;simp;try (simp)
 repeat ((first|refine sR ?_|apply sC|apply sX);simp)
 refine sT (sG Hb Ht htk.old htk.le ?_);simp
open Go Go.Proofs Go.ChangeShapes
open Go.Proofs.Tryz
theorem aOQ{α:Type}{l:List α}(h:l.length=1):l=[l[0]'(by omega)]:=by
 match l,h with
 | [p],_=>rfl
def Rdr.struct1{P:Program}{T A:TypeId}{α:Type}(r:Rdr P A α){f0:Field}(h:P.underlying T=some (.struct #[f0]))(hA:f0.type=A)(h0:f0.offset=0)(hc:P.cellsOf T=P.cellsOf A):Rdr P T α where
 enc x:=r.enc x
 ok x:=r.ok x
 len x:=by simp[r.len,hc]
 sound e w base spare im fuel cs x hx:=by
  obtain⟨xs,n,rfl,rfl,hl,rc,jj⟩:=gl h hx;have pq:xs.length=1:=rc
  have g0:=jj 0 f0 rfl;have e0:xs[0]?=some (xs[0]'(by omega)):=ab (by omega)
  rw[e0,h0,hA] at g0;obtain⟨y,k1,k2⟩:=r.sound e w base spare im n _ _ g0;refine⟨y,?_,fun ix=>?_⟩
  rotate_left
  .unfold eX at ix k2;have e2:xs=[xs[0]'(by omega)]:=aOQ pq
   rw[e2] at ix;simp only[de,dw,DataW.weights,h,DataW.weightsEach,hA,eo,bd] at ix;exact k2 ix.1
  have lx:cs=(cs.drop 0).take (P.cellsOf A):=by
   rw[List.drop_zero,ak (by omega)]
  rw[lx];exact k1
theorem aMA(r:Ru):r.rowD=r.rowK:=by rw[Ru.rowD,r.c.cells_eq];rfl
def aNM:Rdr prog 26 (List Ru):=aRz.sliceN 25 underlying26 (by kernel_rfl) (by kernel_rfl)
def aMB:Rdr prog 27 (List Co):=aRD.sliceN 5 underlying27 (by kernel_rfl) (by kernel_rfl)
def aMN:Rdr prog 29 (Ty × List Ru × List Co):=Rdr.struct3 aRS aNM aMB underlying29 rfl rfl rfl rfl (by kernel_rfl) (by kernel_rfl) (by kernel_rfl)
set_option maxRecDepth 100000 in
theorem arg_case{ps:Array TypeId}{args:Array Value}{W:World}{base base':Nat}{sp:Nat->Bool}{im:Bool}{H:Type}{enc:TypeId × Value->H}(hval:∀(j:Nat) t v,ps[j]?=some t->args[j]?=some v->Value.okWide prog W .any base t v)(j:Nat)(v:Value)(hp:ps[j]?=some 29)(ha:args[j]?=some v){d:DataW H}{p:List MemPlace}(h:DataW.Trod enc prog W base' sp im 29 v d p)(ix:eX prog 29 d):∃t L l,pU t L l/\RV G0 W (aIU t L l) v:=by
 refine Exists.elim (aFi hval j 29 v hp ha aMN aJS h ix) fun x hx=>⟨x.1,x.2.1,x.2.2,?_,?_⟩
 .obtain⟨a1,a2,a3⟩:=hx.1;have hr:reachBytes=140737488351232:=rfl
  have b2:x.2.1.length*prog.bytesOf 52<=reachBytes:=a2.2
  rw[show prog.bytesOf 52=512 by kernel_rfl] at b2;have b3:x.2.2.length*prog.bytesOf 56<=reachBytes:=a3.2
  rw[show prog.bytesOf 56=96 by kernel_rfl] at b3;exact⟨by omega,by omega,a1,a2.1,a3.1⟩
 .have h2:RV G0 W (.agg [.d (nts x.1.nodes),.d (ets x.1.edges),.d (.sl 25 (x.2.1.map Ru.rowD)),.d (.sl 5 (x.2.2.map Co.rowD))]) v:=hx.2
  rw[show Ru.rowD=Ru.rowK from funext aMA] at h2;exact h2
theorem aMH(n:Nat):RdF prog 89 (fun x:Int × Int × Int × Gr=>aY.enc x.1++(aY.enc x.2.1++(aY.enc x.2.2.1++dD.enc x.2.2.2))) (fun x=>aY.ok x.1/\aY.ok x.2.1/\aY.ok x.2.2.1/\dD.ok x.2.2.2) n:=by
 cases n with
 | zero=>exact .zero
 | succ n=>exact RdF.struct4 (aY.f n) (aY.f n) (aY.f n) (dD.f n) underlying89 rfl rfl rfl rfl rfl (by kernel_rfl) (by kernel_rfl) (by kernel_rfl) (by kernel_rfl)
def aRx:Rdr prog 89 (Int × Int × Int × Gr):=Rdr.ofF _ _ (fun x=>by simp[aY.len,dD.len];kernel_rfl) aMH
def aO3:Rdr prog 98 ((Int × Int × Int × Gr) × Int × (List Int × List Int)):=Rdr.struct3 aRx aY iE underlying98 rfl rfl rfl rfl (by kernel_rfl) (by kernel_rfl) (by kernel_rfl)
def Dc.Lng(d:Dc):Prop:=d.m.nodes.length<=281474976710656/\d.m.edges.length<=281474976710656
theorem aCM{n:Nat}(h:n<=dI):n<=281474976710656:=by rw[bI] at h;omega
def aRK:Rdr prog 98 Dc:=aO3.map (fun x=>⟨⟨x.1.1,x.1.2.1,x.1.2.2.1,x.1.2.2.2⟩,x.2.1,⟨x.2.2.1,x.2.2.2⟩⟩) Dc.cells Dc.Lng (fun _=>rfl) (fun x h=>⟨aCM (dC h.2.2.1),aCM (dC h.2.2.2)⟩) (fun _=>by kernel_rfl)
def aPF:Rdr prog 58 (List Dc):=aRK.sliceN 8 underlying58 (by kernel_rfl) (by kernel_rfl)
def aPt:Rdr prog 60 (List Dc):=Rdr.struct1 aPF underlying60 rfl rfl (by kernel_rfl)
set_option maxRecDepth 100000 in
theorem arg_induction{ps:Array TypeId}{args:Array Value}{W:World}{base base':Nat}{sp:Nat->Bool}{im:Bool}{H:Type}{enc:TypeId × Value->H}(hval:∀(j:Nat) t v,ps[j]?=some t->args[j]?=some v->Value.okWide prog W .any base t v)(j:Nat)(v:Value)(hp:ps[j]?=some 60)(ha:args[j]?=some v){d:DataW H}{p:List MemPlace}(h:DataW.Trod enc prog W base' sp im 60 v d p)(ix:eX prog 60 d):∃l,aEi l/\RV G0 W (.agg [.d (tY l)]) v:=by
 refine Exists.elim (aFi hval j 60 v hp ha aPt aJN h ix) fun x hx=>⟨x,?_,hx.2⟩
 have hr:reachBytes=140737488351232:=rfl
 have b2:x.length*prog.bytesOf 98<=reachBytes:=hx.1.2
 rw[show prog.bytesOf 98=128 by kernel_rfl] at b2;exact⟨by omega,hx.1.1⟩
end Go.AM
