import Derived.Test.YtchfmhhbiealcaaGreatDoorPIB15
set_option linter.unusedSimpArgs false
set_option linter.unusedVariables false
namespace Go.AM
open Go Go.Proofs
open Go.Proofs.Tryz
def aMx(xs ys:List Int)(nb:Nat)(box:Bxs)(tok:Tks)(nt:Nat)(i:Nat):AS :=
 ⟨tl [(0,.d (ints xs)),(1,.d (ints ys)),(12,I xs.length),(13,I i)],lb nb box [],tok,nt⟩
set_option maxRecDepth 100000 in
theorem aC0(xs ys:List Int)(hx:xs.length<=1000000):DC 36 [.d (ints xs),.d (ints ys)] (B (decide (xs=ys))):=by
 intro tok nt box nb;refine sI func36 ntmps36 fun Hb Ht=>?_
 by_cases hl:xs.length=ys.length
 .have lh:(xs.length:Int)=ys.length:=by omega
  try (simp[lh])
  repeat ((first|refine sR ?_|apply sC|apply sX);simp[lh])
  apply sN;refine sL (aMx xs ys nb box tok nt) (fun i=>i<=xs.length/\xs.take i=ys.take i) (fun i=>xs.length-i) 0 ⟨ai _,by simp⟩ (wM (nr0 _) rfl (by simp[ToL,lk,hl]) trivial) ?_;rintro i S' ⟨hi,htk⟩ hS;simp only[aMx] at hS;subst hS;have hw:=sW (i:=i) (by omega);by_cases hlt:i<xs.length
  .have jj:i<ys.length:=by omega
   by_cases he:xs[i]=ys[i]
   .have b2:(xs[i] != ys[i])=false:=by simp[he]
    try (simp[hlt,jj,b2,he,hw])
    repeat ((first|refine sR ?_|apply sC|apply sX);simp[hlt,jj,b2,he,hw])
    apply sE;refine⟨i+1,⟨hlt,?_⟩,by omega,wM (nr0 _) rfl (by simp[ToL,lk]) trivial⟩;rw[ah hlt,ah jj,htk,he]
   .have b2:(xs[i] != ys[i])=true:=by simp[he]
    have hne:¬xs=ys:=fun e=>he (by subst e;rfl)
    try (simp[hlt,jj,b2,he])
    repeat ((first|refine sR ?_|apply sC|apply sX);simp[hlt,jj,b2,he])
    refine sT (sH ?_);simp[hne]
  .have Be:xs=ys:=by rw[ak (by omega),ak (by omega)] at htk;exact htk
   try (simp[hlt])
   repeat ((first|refine sR ?_|apply sC|apply sX);simp[hlt])
   refine sT (sH ?_);simp[Be]
 .have lh:¬(xs.length:Int)=ys.length:=by omega
  have hne:¬xs=ys:=fun e=>hl (by rw[e])
  have b2:((xs.length:Int) != ys.length)=true:=by simp[lh]
  try (simp[lh,b2,hl])
  repeat ((first|refine sR ?_|apply sC|apply sX);simp[lh,b2,hl])
  refine sT (sH ?_);simp[hne]
def aMd(xs ys:List E)(nb:Nat)(box:Bxs)(tok:Tks)(nt:Nat)(i:Nat):AS :=
 ⟨tl [(0,.d (AM.edges xs)),(1,.d (AM.edges ys)),(12,I xs.length),(13,I i)],lb nb box [],tok,nt⟩
set_option maxRecDepth 100000 in
theorem aHU(xs ys:List E)(hx:xs.length<=1000000):DC 150 [.d (AM.edges xs),.d (AM.edges ys)] (B (decide (xs=ys))):=by
 intro tok nt box nb;refine sI func150 ntmps150 fun Hb Ht=>?_
 by_cases hl:xs.length=ys.length
 .have lh:(xs.length:Int)=ys.length:=by omega
  try (simp[lh])
  repeat ((first|refine sR ?_|apply sC|apply sX);simp[lh])
  apply sN;refine sL (aMd xs ys nb box tok nt) (fun i=>i<=xs.length/\xs.take i=ys.take i) (fun i=>xs.length-i) 0 ⟨ai _,by simp⟩ (wM (nr0 _) rfl (by simp[ToL,lk,hl]) trivial) ?_;rintro i S' ⟨hi,htk⟩ hS;simp only[aMd] at hS;subst hS;have hw:=sW (i:=i) (by omega);by_cases hlt:i<xs.length
  .have jj:i<ys.length:=by omega
   have mt:xs[i]=ys[i]↔xs[i].ty=ys[i].ty/\xs[i].fr=ys[i].fr/\xs[i].to=ys[i].to:=by cases xs[i];cases ys[i];simp
   refine sR ?_;simp[hlt];apply sC;simp[hlt];refine sR ?_;simp[hlt];refine sR ?_;simp[hlt,jj];apply sC;simp;refine⟨fun hne=>?_,fun e1 e2 e3=>?_⟩
   .have:¬xs=ys:=fun e=>by
     have e2:xs[i]=ys[i]:=by simp[e]
     have e3:=mt.1 e2;simp[e3] at hne
    try (simp)
    repeat ((first|refine sR ?_|apply sC|apply sX);simp)
    refine sT (sH ?_);simp[this]
   .try (simp[hw])
    repeat ((first|refine sR ?_|apply sC|apply sX);simp[hw])
    apply sE;refine⟨i+1,⟨hlt,?_⟩,by omega,wM (nr0 _) rfl (by simp[ToL,lk]) trivial⟩;rw[ah hlt,ah jj,htk,mt.2 ⟨e1,e2,e3⟩]
  .have Be:xs=ys:=by rw[ak (by omega),ak (by omega)] at htk;exact htk
   try (simp[hlt])
   repeat ((first|refine sR ?_|apply sC|apply sX);simp[hlt])
   refine sT (sH ?_);simp[Be]
 .have lh:¬(xs.length:Int)=ys.length:=by omega
  have hne:¬xs=ys:=fun e=>hl (by rw[e])
  have b2:((xs.length:Int) != ys.length)=true:=by simp[lh]
  try (simp[lh,b2,hl])
  repeat ((first|refine sR ?_|apply sC|apply sX);simp[lh,b2,hl])
  refine sT (sH ?_);simp[hne]
theorem aLP(a b:Gr)(ha:a.Fit):DC 94 [a.av,b.av] (B (decide (a=b))):=by
 intro tok nt box nb;have c1:=aC0 a.nodes b.nodes ha.n;have c2:=aHU a.edges b.edges ha.e;have sg:a=b↔a.nodes=b.nodes/\a.edges=b.edges:=by cases a;cases b;simp
 refine sI func94 ntmps94 fun Hb Ht=>?_
 repeat first|simp|refine sR ?_
 refine sD (c1 _ _) ?_;simp;by_cases h1:a.nodes=b.nodes
 .try (simp[h1])
  repeat ((first|refine sR ?_|apply sC|apply sX);simp[h1])
  refine sD (c2 _ _) ?_;simp;try (simp)
  repeat ((first|refine sR ?_|apply sC|apply sX);simp)
  refine sT (sH ?_);simp[sg,h1]
 .try (simp[h1])
  repeat ((first|refine sR ?_|apply sC|apply sX);simp[h1])
  refine sT (sH ?_);simp[sg,h1]
theorem aNY(a b:Ob):obE a b=(decide (a.ru=b.ru)&&(decide (a.con=b.con)&&(decide (a.way=b.way)&&decide (a.g=b.g)))):=by unfold obE;simp only[Bool.and_assoc]
set_option maxRecDepth 100000 in
theorem aIm(t:Ty)(ht:t.Fit)(l:List Co)(hl:l.length<=1000000)(hc:∀c∈l,c.g.Fit)(d:Du)(hd:d.o.g.Fit)(x:Dc)(hx:x.Fit):DC 53 [t.av,.d (bR l),d.av,x.av] (B (qO t l d x)):=by
 intro tok nt box nb;have AG:=aLP x.o.g d.o.g hx.g;have xy:=hx.m.n;have Ck:=hx.m.e;obtain⟨R,hR⟩:∃R,qO t l d x=R:=⟨_,rfl⟩
 rw[hR];unfold qO at hR;rw[aNY] at hR;refine sI func53 ntmps53 fun Hb Ht=>?_
 by_cases e1:x.o.ru=d.o.ru
 case neg =>
  have b1:(x.o.ru != d.o.ru)=true:=by simp[e1]
  rw[bk e1] at hR;simp at hR;subst hR;try (simp[b1])
  repeat ((first|refine sR ?_|apply sC|apply sX);simp[b1])
  refine sT (sH ?_);simp
 by_cases e2:x.o.con=d.o.con
 case neg =>
  have b1:(x.o.ru != d.o.ru)=false:=by simp[e1]
  have b2:(x.o.con != d.o.con)=true:=by simp[e2]
  rw[bk e2] at hR;simp at hR;subst hR;try (simp[b1,b2])
  repeat ((first|refine sR ?_|apply sC|apply sX);simp[b1,b2])
  refine sT (sH ?_);simp
 by_cases e3:x.o.way=d.o.way
 case neg =>
  have b1:(x.o.ru != d.o.ru)=false:=by simp[e1]
  have b2:(x.o.con != d.o.con)=false:=by simp[e2]
  have b3:(x.o.way != d.o.way)=true:=by simp[e3]
  rw[bk e3] at hR;simp at hR;subst hR;try (simp[b1,b2,b3])
  repeat ((first|refine sR ?_|apply sC|apply sX);simp[b1,b2,b3])
  refine sT (sH ?_);simp
 have b1:(x.o.ru != d.o.ru)=false:=by simp[e1]
 have b2:(x.o.con != d.o.con)=false:=by simp[e2]
 have b3:(x.o.way != d.o.way)=false:=by simp[e3]
 rw[bv e1,bv e2,bv e3,b9,b9,b9] at hR;try (simp[b1,b2,b3])
 repeat ((first|refine sR ?_|apply sC|apply sX);simp[b1,b2,b3])
 refine sD (AG _ _) ?_;simp;by_cases e4:x.o.g=d.o.g
 case neg =>
  rw[bk e4] at hR;simp at hR;subst hR;try (simp[e4])
  repeat ((first|refine sR ?_|apply sC|apply sX);simp[e4])
  refine sT (sH ?_);simp
 rw[bv e4,b9] at hR;cases hs:d.step
 .rw[hs,ac (by simp)] at hR;have hw:IntKind.i64.wrap ((x.m.nodes.length:Int)+(x.m.edges.length:Int))=((x.m.nodes.length+x.m.edges.length:Nat):Int):=by rw[aM (by omega) (by omega)];rfl
  by_cases e5:x.con = -1
  .have b5:(x.con == -1)=true:=by simp[e5]
   rw[bv e5,b9] at hR;have zy:((x.m.nodes.length:Int)+(x.m.edges.length:Int)==0)=(decide (x.m.nodes=[])&&decide (x.m.edges=[])):=by
    rw[dp,g8,bd,au,au,<-List.length_eq_zero_iff,<-List.length_eq_zero_iff];omega
   try (simp[e4,hs,b5,hw])
   repeat ((first|refine sR ?_|apply sC|apply sX);simp[e4,hs,b5,hw])
   refine sT (sH ?_);simp[<-hR,zy]
  .have b5:(x.con == -1)=false:=by simp[e5]
   rw[bk e5,da] at hR;subst hR;try (simp[e4,hs,b5])
   repeat ((first|refine sR ?_|apply sC|apply sX);simp[e4,hs,b5])
   refine sT (sH ?_);simp
 .rw[hs,af rfl] at hR;by_cases e5:0<=x.con/\x.con<l.length
  .obtain⟨e5,e6⟩:=e5;rw[bv ⟨e5,e6⟩,b9] at hR;have hk:x.con.toNat<l.length:=by omega
   have ig:l[x.con.toNat]?=some l[x.con.toNat]:=ab hk
   rw[ig] at hR;have nv:=hc _ (aa hk);obtain⟨c,hcc⟩:∃c,l[x.con.toNat]=c:=⟨_,rfl⟩
   rw[hcc] at hR nv ig;have Br:=aHF t ht c.g d.o.g nv hd x.m true;try (simp[e4,hs,e5,e6,hk,ig,hcc])
   repeat ((first|refine sR ?_|apply sC|apply sX);simp[e4,hs,e5,e6,hk,ig,hcc])
   refine sD (Br _ _) ?_;simp;have zy:(tP t c.g d.o.g x.m true==0)=decide (tP t c.g d.o.g x.m true=0):=rfl
   try (simp)
   repeat ((first|refine sR ?_|apply sC|apply sX);simp)
   refine sT (sH ?_);simp[<-hR,zy]
  .rw[bk e5,da] at hR;subst hR;by_cases e6:0<=x.con
   .have e7:¬x.con<(l.length:Int):=fun h=>e5 ⟨e6,h⟩
    try (simp[e4,hs,e6,e7])
    repeat ((first|refine sR ?_|apply sC|apply sX);simp[e4,hs,e6,e7])
    refine sT (sH ?_);simp
   .try (simp[e4,hs,e6])
    repeat ((first|refine sR ?_|apply sC|apply sX);simp[e4,hs,e6])
    refine sT (sH ?_);simp
def aPH(t:Ty)(l:List Co)(D:List Du)(p:List Dc)(nb:Nat)(box:Bxs)(tok:Tks)(nt:Nat)(i:Nat):AS :=
 ⟨tl [(32,I i),(31,I D.length),(30,.d (pD D)),(7,.ptr (nb+7) 0 0),(2,.d (bR l)),(4,.ptr (nb+4) 0 0)],lb nb box [(7,[[.d (qH p)]]),(4,[eL t])],tok,nt⟩
theorem aGr{D:List Dc}{i:Nat}(h:i<D.length):(D.map Dc.cells)[i]?=some D[i].cells:=by simp[h]
set_option maxRecDepth 100000 in
theorem aHN(t:Ty)(L:List Ru)(l:List Co)(h:bL t L l)(hL:L.length<=1000000)(hl:l.length<=1000000)(hD:qQ (dE t L l).1)(p:List Dc)(hp:∀x∈p,x.Fit):DC 23 [t.av,.d (eE L),.d (bR l),.agg [.d (qH p)]] (B (aDz t L l p)):=by
 intro tok nt box nb;have ha:=aBB t L l h hL hl;obtain⟨R,hR⟩:∃R,aDz t L l p=R:=⟨_,rfl⟩
 rw[hR];unfold aDz at hR;obtain⟨⟨D,e⟩,hA⟩:∃A,dE t L l=A:=⟨_,rfl⟩
 rw[hA] at hR ha hD;simp only at hR ha hD;have Bp:=hD.n;refine sI func23 ntmps23 fun Hb Ht=>?_
 repeat first|simp|refine sR ?_
 refine sD (ha _ _) ?_;simp;by_cases e1:e=0
 case neg =>
  have hb:(e != 0)=true:=by simp[e1]
  rw[bk e1,da,da] at hR;subst hR;try (simp[hb])
  repeat ((first|refine sR ?_|apply sC|apply sX);simp[hb])
  refine sT (sH ?_);simp
 subst e1;rw[bv rfl,b9] at hR;by_cases e2:D.length=p.length
 case neg =>
  have hb:((D.length:Int) != (p.length:Int))=true:=by simp;omega
  rw[bk e2,da] at hR;subst hR;try (simp[hb])
  repeat ((first|refine sR ?_|apply sC|apply sX);simp[hb])
  refine sT (sH ?_);simp
 have hb:((D.length:Int) != (p.length:Int))=false:=by simp;omega
 rw[bv e2,b9] at hR;try (simp[hb])
 repeat ((first|refine sR ?_|apply sC|apply sX);simp[hb])
 apply sN;refine sL (aPH t l D p nb box tok nt) (fun i=>i<=D.length/\∀j,j<i->(match D[j]?,p[j]? with|some d,some x=>qO t l d x|_,_=>false)=true) (fun i=>D.length-i) 0 ⟨ai _,fun j hj=>absurd hj (b8 _)⟩ wkA ?_;rintro i S ⟨hi,ia⟩ hS;simp only[aPH] at hS;subst hS;have hw:=sW (i:=i) (by omega);by_cases hlt:i<D.length
 .have jy:i<p.length:=by omega
  have ig:=aAq hlt;have r8:=aGr jy;have mc:D[i]?=some D[i]:=ab hlt
  have nf:p[i]?=some p[i]:=ab jy
  have rl:=hD.g _ (aa hlt);have td:=hp _ (aa jy);obtain⟨d,nw⟩:∃d,D[i]=d:=⟨_,rfl⟩
  obtain⟨x,r9⟩:∃x,p[i]=x:=⟨_,rfl⟩
  rw[nw] at ig mc rl;rw[r9] at r8 nf td;have hr:=aIm t h.t l hl (fun c hc=>(h.l c hc).g) d rl x td;have hm:(match D[i]?,p[i]? with|some d,some x=>qO t l d x|_,_=>false)=qO t l d x:=by rw[mc,nf]
  try (simp[hlt,ig,jy,r8,nw,r9])
  repeat ((first|refine sR ?_|apply sC|apply sX);simp[hlt,ig,jy,r8,nw,r9])
  refine sD (hr _ _) ?_;simp;cases e3:qO t l d x
  .have:R=false:=by
    rw[<-hR,dz];exact⟨i,ay.2 jy,by simp only[mc,nf,e3];simp⟩
   subst this;try (simp)
   repeat ((first|refine sR ?_|apply sC|apply sX);simp)
   refine sT (sH ?_);simp
  .try (simp[hw])
   repeat ((first|refine sR ?_|apply sC|apply sX);simp[hw])
   apply sE;refine⟨i+1,⟨hlt,fun j hj=>?_⟩,by omega,wkA⟩;by_cases ej:j=i
   .subst ej;simp only[mc,nf,e3]
   .exact ia j (by omega)
 .have:i=D.length:=by omega
  subst this;have:R=true:=by
   rw[<-hR,aq];exact fun j hj=>ia j (by rw[e2];exact ay.1 hj)
  subst this;try (simp)
  repeat ((first|refine sR ?_|apply sC|apply sX);simp)
  refine sT (sH ?_);simp
theorem aI7(t:Ty)(l:List Co)(o:Ob):fE t l [o]=if l.any (mM t o.g)=true then (l,0) else if l.length=8∨6<o.g.nodes.length∨8<o.g.edges.length then ([],3) else (l++[aLj l.length o.g],0):=rfl
theorem aJM{D:List Ob}{i:Nat}(h:i<D.length):(D.map Ob.cells)[i]?=some D[i].cells:=by simp[h]
set_option maxRecDepth 100000 in
theorem aJa(t:Ty)(ht:t.Fit)(l:List Co)(hl:l.length<=8)(Et:∀c∈l,c.Fit)(os:List Ob)(hos:os.length<=100000000)(zv:∀o∈os,o.g.Fit)(own:Own)(box:Bxs)(nb:Nat)(mtok:Tks)(nt0:Nat)(tok:Tks)(nt:Nat)(htk:TK mtok nt0 tok nt [own]):
  aD prog 46 [t.av,.osl 5 (rCo l) own,.d (tC os)] ⟨box,nb,tok,nt⟩ (QLo (fE t l os) box nb mtok nt0):=by
 obtain⟨R,hR⟩:∃R,fE t l os=R:=⟨_,rfl⟩
 rw[hR];refine sI func46 ntmps46 fun Hb Ht=>?_
 repeat first|simp|refine sR ?_
 apply sN;refine sL (aPV t l os nb box) (fun x=>x.i<=os.length/\(fE t l (os.take x.i)).2=0/\TK mtok nt0 x.tok x.nt [x.o]/\nt<=x.nt) (fun x=>os.length-x.i) ⟨0,own,tok,nt⟩ ⟨ai _,rfl,htk,nr0 _⟩ (wM (nr0 _) rfl (by simp[ToL,lk,fE]) (by simp[aC,lk])) ?_;rintro⟨i,o1,tok1,lc⟩ S ⟨hi,ia,jw,qe⟩ hS;simp only[aPV] at hS hi ia jw qe;subst hS;have hw:=sW (i:=i) (by omega);by_cases hlt:i<os.length
 .have ig:=aJM hlt;have n8:=ah hlt;have yg:=zv _ (aa hlt);obtain⟨o,ho⟩:∃o,os[i]=o:=⟨_,rfl⟩
  rw[ho] at ig n8 yg;have jl:=rG t (os.take i) [o] l;rw[ac (by simp[ia]),<-n8,aI7] at jl;have Dt:=mS (t:=t) (xs:=os.take i) hl;have Eu:=nD (t:=t) (xs:=os.take i) hl Et (fun o h=>zv o (bt h));have ow:(fE t l (os.take (i+1))).2≠0->R=([],3):=fun h=>by
   have h2:=rG t (os.take (i+1)) (os.drop (i+1)) l;rw[cg,af h,rP h,hR] at h2;exact h2
  generalize (fE t l (os.take i)).1=X at *;have j7:bB (mM t o.g) X=X.any (mM t o.g):=rfl
  try (simp[hlt,ig,ho])
  repeat ((first|refine sR ?_|apply sC|apply sX);simp[hlt,ig,ho])
  refine aN.sub (args':=[.d (bR X),.fn (.func 86) [.ptr (nb+3) 0 0,.ptr (nb+10) 0 0]]) ⟨Sub.data _ _ _,Sub.refl _,trivial⟩ ?_;refine aN.of_b (tL X 86 [.ptr (nb+3) 0 0,.ptr (nb+10) 0 0] (mM t o.g) (by omega) _ _ _ _ (by intro c hc;simp only[ca,List.not_mem_nil,or_false] at hc;rcases hc with rfl|rfl<;>simp[aQ]) (fun x hx box' nb' he=>aGY t ht o.g yg x (Eu x hx).g box' nb' (nb+3) (nb+10) _ _ (he _ _ (by simp[aQ])) (he _ _ (by simp[aQ])))) ?_;rw[j7];cases e:X.any (mM t o.g)
  case true =>
   rw[af e] at jl;try (simp[hw])
   repeat ((first|refine sR ?_|apply sC|apply sX);simp[hw])
   apply sE;exact⟨⟨i+1,o1,tok1,lc⟩,⟨hlt,by rw[jl],jw,qe⟩,by simp only;omega,wM qe rfl (by simp[ToL,lk,jl]) (by simp[aC,lk])⟩
  rw[ac (by simp[e])] at jl;have sy:X.length=8∨6<o.g.nodes.length∨8<o.g.edges.length->R=([],3):=fun h=>by
   rw[af h] at jl;exact ow (by rw[jl];decide)
  by_cases d1:X.length=8
  .have:=sy (.inl d1)
   subst this;have f1:(X.length:Int)=8:=by omega
   have g1:((X.length:Int)==8)=true:=by simpa using f1
   try (simp[f1,g1])
   repeat ((first|refine sR ?_|apply sC|apply sX);simp[f1,g1])
   refine sT ?_;try simp only[AU]
   exact⟨by simp,(Fin.gen (av:=.tup [.osl 0 [] .full,I 3]) (by simp[aP,bI];rfl) Hb qe (nr0 _) (fun t h=>⟨h,.inl rfl⟩) (fun k rows _ h=>.inl h) (by simp)).mono fun v m hq=>⟨tok1,lc,hq.2,.inr ⟨by decide,hq.1,jw.tail⟩⟩⟩
  have f1:¬(X.length:Int)=8:=by omega
  have g1:((X.length:Int)==8)=false:=by simpa using f1
  by_cases d2:6<o.g.nodes.length
  .have:=sy (.inr (.inl d2))
   subst this;have f2:(6:Int)<o.g.nodes.length:=by omega
   try (simp[f1,g1,f2])
   repeat ((first|refine sR ?_|apply sC|apply sX);simp[f1,g1,f2])
   refine sT ?_;try simp only[AU]
   exact⟨by simp,(Fin.gen (av:=.tup [.osl 0 [] .full,I 3]) (by simp[aP,bI];rfl) Hb qe (nr0 _) (fun t h=>⟨h,.inl rfl⟩) (fun k rows _ h=>.inl h) (by simp)).mono fun v m hq=>⟨tok1,lc,hq.2,.inr ⟨by decide,hq.1,jw.tail⟩⟩⟩
  have f2:¬(6:Int)<o.g.nodes.length:=by omega
  by_cases d3:8<o.g.edges.length
  .have:=sy (.inr (.inr d3))
   subst this;have f3:(8:Int)<o.g.edges.length:=by omega
   try (simp[f1,g1,f2,f3])
   repeat ((first|refine sR ?_|apply sC|apply sX);simp[f1,g1,f2,f3])
   refine sT ?_;try simp only[AU]
   exact⟨by simp,(Fin.gen (av:=.tup [.osl 0 [] .full,I 3]) (by simp[aP,bI];rfl) Hb qe (nr0 _) (fun t h=>⟨h,.inl rfl⟩) (fun k rows _ h=>.inl h) (by simp)).mono fun v m hq=>⟨tok1,lc,hq.2,.inr ⟨by decide,hq.1,jw.tail⟩⟩⟩
  have f3:¬(8:Int)<o.g.edges.length:=by omega
  rw[ac (by omega)] at jl;have Ev:=aLB X.length (by omega);have hsz:=(aJy X.length (by omega)).2;have hd:dgB X.length=dgB X.length:=rfl
  try (simp[f1,g1,f2,f3])
  repeat ((first|refine sR ?_|apply sC|apply sX);simp[f1,g1,f2,f3])
  refine sD (Ev _ _) ?_;simp;try (simp)
  repeat ((first|refine sR ?_|apply sC|apply sX);simp)
  have hsz2:(⟨#[115]⟩:ByteArray).size+(dgB X.length).size=2:=by rw[<-ByteArray.size_append];exact hsz
  refine⟨by omega,⟨by omega,jw.live⟩,?_⟩;try (simp[hw])
  repeat ((first|refine sR ?_|apply sC|apply sX);simp[hw])
  apply sE;exact⟨⟨i+1,_,_,lc+1⟩,⟨hlt,by rw[jl],jw.app,by simp only;omega⟩,by simp only;omega,wM (by omega) rfl (by simp[ToL,lk,jl];exact aFq (by simp[aLj,sNm,ints,AM.edges];exact .emp) _) (by simp[aC,lk])⟩
 .have:i=os.length:=by omega
  subst this;rw[bh] at ia;rw[bh,hR];try (simp)
  repeat ((first|refine sR ?_|apply sC|apply sX);simp)
  refine sT ?_;try simp only[AU]
  rw[hR] at ia;exact⟨by simp,(Fin.gen (av:=.tup [.osl 5 (rCo R.1) o1,I 0]) (by simp[aP,bI];rfl) Hb qe (nr0 _) (fun t h=>⟨h,.inl rfl⟩) (fun k rows _ h=>.inl h) (by simp)).mono fun v m hq=>⟨tok1,lc,hq.2,.inl ⟨ia,o1,hq.1,jw⟩⟩⟩
def aCD(t:Ty)(L:List Ru)(l:List Co)(rounds:Int)(D:List Du)(nb:Nat)(box:Bxs)(x:DuA):AS :=
 ⟨tl [(34,I x.i),(33,I l.length),(32,.d (bR l)),(12,.osl 5 (rCo (l.take x.i)) x.o),(11,I 0),(10,.d (pD D)),(3,I rounds),(2,.d (bR l)),(1,.d (eE L)),(4,.ptr (nb+4) 0 0)],lb nb box [(4,[eL t])],x.tok,x.nt⟩
structure SgA where
 n:Nat
 l:List Co
 D:List Du
 o:Own
 tok:Nat->Bool
 nt:Nat
def aCK(t:Ty)(L:List Ru)(nb:Nat)(box:Bxs)(x:SgA):AS :=
 ⟨tl [(12,.osl 5 (rCo x.l) x.o),(11,I 0),(10,.d (pD x.D)),(3,I x.n),(1,.d (eE L)),(4,.ptr (nb+4) 0 0)],lb nb box [(4,[eL t])],x.tok,x.nt⟩
theorem aNi{t:Ty}{c:Co}(h:cnE t c=0)(hk:c.kind=1):c.exts=[]:=by
 unfold cnE at h;split at h
 .rename_i h1;exact absurd h h1
 .split at h
  .rename_i h1 h2;exact absurd h h2
  .rename_i h1 h2;have hs:lL c=0:=by simpa using h2
   have:=(tG hs).2.1
   unfold kdE at this;rw[af hk] at this;split at this
   .assumption
   .cases this
theorem aCl{t:Ty}{l:List Co}{D:List Du}(h:qQ D):(jL t l D).length<=100000000/\∀o∈jL t l D,o.g.Fit:=by
 unfold jL;refine⟨?_,fun o ho=>?_⟩
 .rw[br];exact cb (dl _ _) h.n
 .obtain⟨d,hd,rfl⟩:=bc.1 ho;exact h.g d (ce.1 hd).1
set_option maxRecDepth 100000 in
theorem zL(t:Ty)(L:List Ru)(l:List Co)(h:bL t L l)(hL:L.length<=1000000)(hl:l.length<=1000000)(n:Int):DC 18 [t.av,.d (eE L),.d (bR l),I n] (.tup [.d (bR (jX t L l n).1),I (jX t L l n).2]):=by
 intro tok nt box nb;have ha:=aBB t L l h hL hl;obtain⟨R,hR⟩:∃R,jX t L l n=R:=⟨_,rfl⟩
 rw[hR];unfold jX at hR;refine sI func18 ntmps18 fun Hb Ht=>?_
 repeat first|simp|refine sR ?_
 refine sD (ha _ _) ?_;simp;by_cases e1:(dE t L l).2=0
 case neg =>
  rw[af e1] at hR;subst hR;have hb:((dE t L l).2 != 0)=true:=by simp[e1]
  try (simp[hb])
  repeat ((first|refine sR ?_|apply sC|apply sX);simp[hb])
  refine sT (sH ?_);simp[bR]
 rw[ac (by simp[e1])] at hR;have hD:=eV h;have m7:fG t L l=0:=dw fun hne=>by
  unfold dE at e1;rw[af hne] at e1;exact hne e1
 obtain⟨hT,mv,Ew,h6,h8⟩:=jB m7;generalize (dE t L l).1=D at *;by_cases e2:n<0
 .rw[af (.inl e2)] at hR;subst hR;have g2:decide (n<0)=true:=by simp[e2]
  try (simp[e1,e2])
  repeat ((first|refine sR ?_|apply sC|apply sX);simp[e1,e2])
  refine sT (sH ?_);simp[bR]
 by_cases e3:4<n
 .rw[af (.inr e3)] at hR;subst hR;have g2:decide (n<0)=false:=by simp;omega
  try (simp[e1,e2,e3])
  repeat ((first|refine sR ?_|apply sC|apply sX);simp[e1,e2,e3])
  refine sT (sH ?_);simp[bR]
 rw[ac (by omega)] at hR;obtain⟨k,rfl⟩:∃k:Nat,n=k:=⟨n.toNat,by omega⟩
 rw[bz] at hR;try (simp[e1,e2,e3])
 repeat ((first|refine sR ?_|apply sC|apply sX);simp[e1,e2,e3])
 apply sN;refine sL (aCD t L l k D nb box) (fun x=>x.i<=l.length/\TK tok nt x.tok x.nt [x.o]) (fun x=>l.length-x.i) ⟨0,.full,tok,nt⟩ ⟨ai _,(TK.start Ht).full⟩ wkA ?_;rintro⟨i,o1,tok1,lc⟩ S ⟨hi,jw⟩ hS;simp only[aCD] at hS hi jw;subst hS;have hw:=sW (i:=i) (by omega);by_cases hlt:i<l.length
 .have ig:l[i]?=some l[i]:=ab hlt
  have n8:=ah hlt;have nv:=h.l _ (aa hlt);have xg:=Ew _ (aa hlt);obtain⟨c,hc⟩:∃c,l[i]=c:=⟨_,rfl⟩
  rw[hc] at ig n8 nv xg;have hown:=aNr c nv (aNi xg.1 xg.2);try (simp[hlt,ig,hc])
  repeat ((first|refine sR ?_|apply sC|apply sX);simp[hlt,ig,hc])
  refine sD (hown _ _) ?_;simp;try (simp)
  repeat ((first|refine sR ?_|apply sC|apply sX);simp)
  refine⟨⟨by omega,jw.live⟩,?_⟩;try (simp[hw])
  repeat ((first|refine sR ?_|apply sC|apply sX);simp[hw])
  apply sE;exact⟨⟨i+1,_,_,_⟩,⟨hlt,jw.app⟩,by simp only;omega,wM jw.app.le rfl (by simp[ToL,lk,n8]) (by simp[aC,lk])⟩
 .have:i=l.length:=by omega
  subst this;try (simp)
  repeat ((first|refine sR ?_|apply sC|apply sX);simp)
  apply sN;refine sL (aCK t L nb box) (fun x=>x.n<=4/\zM t L x.n x.l x.D=R/\x.l.length<=8/\(∀c∈x.l,c.Fit)/\qQ x.D/\TK tok nt x.tok x.nt [x.o]) (fun x=>x.n) ⟨k,l,D,o1,tok1,lc⟩ ⟨by simp only;omega,by simpa using hR,h8,h.l,hD,jw⟩ (wM jw.le rfl (by simp[ToL,lk]) (by simp[aC,lk])) ?_;rintro⟨n,l2,D2,o2,io,iz⟩ S ⟨hn,nu,hl2,uk,CH,ie⟩ hS;simp only[aCK] at hS hn nu hl2 uk CH ie;subst hS;have jo:=aJi t h.t l2 (by omega) (fun c hc=>(uk c hc).g) D2 CH;obtain⟨B7,zv⟩:=aCl (t:=t) (l:=l2) CH;obtain⟨O,hO⟩:∃O,jL t l2 D2=O:=⟨_,rfl⟩
  rw[hO] at jo B7 zv;try (simp)
  repeat ((first|refine sR ?_|apply sC|apply sX);simp)
  refine aN.sub (args':=[t.av,.d (bR l2),.d (pD D2)]) ⟨Sub.refl _,Sub.data _ _ _,Sub.refl _,trivial⟩ ?_;refine sD (jo _ _) ?_;simp;by_cases c1:O=[]
  .have:R=(l2,0):=by
    rw[<-nu];cases n<;>rw[zM,af (by rw[hO,c1])]
   subst this;subst c1;try (simp)
   repeat ((first|refine sR ?_|apply sC|apply sX);simp)
   refine sT (sG Hb Ht ie.old ie.le ?_);simp[bR]
  have c2:¬(O.length:Int)=0:=fun e=>c1 (bg (by omega))
  have c3:((O.length:Int)==0)=false:=by simpa using c2
  cases n with
  | zero =>
   have:R=([],10):=by rw[<-nu,zM,ac (by rw[hO];exact c1)]
   subst this;try (simp[c1,c2,c3])
   repeat ((first|refine sR ?_|apply sC|apply sX);simp[c1,c2,c3])
   refine sT (sG Hb Ht ie.old ie.le ?_);simp[bR]
  | succ n =>
   rw[zM,ac (by rw[hO];exact c1),hO] at nu;have c4:¬(n:Int)+1=0:=by omega
   have c5:((n:Int)+1==0)=false:=by simpa using c4
   have qh:=fun box' nb'=>aJa t h.t l2 hl2 uk O B7 zv o2 box' nb' tok nt io iz ie
   have Bt:=mS (t:=t) (xs:=O) hl2;have BB:=nD (t:=t) (xs:=O) hl2 uk zv;have AA:=rP (t:=t) (xs:=O) (l:=l2);obtain⟨⟨l3,e⟩,hP⟩:∃P,fE t l2 O=P:=⟨_,rfl⟩
   rw[hP] at nu qh Bt BB AA;simp only at nu qh Bt BB AA;try (simp[c1,c2,c3,c4,c5])
   repeat ((first|refine sR ?_|apply sC|apply sX);simp[c1,c2,c3,c4,c5])
   refine aN.of_a (qh _ _) ?_;rintro v m' ⟨i6,jz,rfl,⟨he,ja,rfl,iy⟩|⟨he,rfl,iy⟩⟩
   .simp only at he;subst he;rw[ac (by simp)] at nu;have h3:bL t L l3:=⟨h.t,h.L,BB⟩
    have s7:=aAQ t L l3 h3 hT mv h6 Bt;have CJ:=oM h3 hT mv h6 Bt;obtain⟨⟨D3,e⟩,hE⟩:∃E,iU t L l3=E:=⟨_,rfl⟩
    rw[hE] at nu s7 CJ;simp only at nu s7 CJ;try (simp)
    repeat ((first|refine sR ?_|apply sC|apply sX);simp)
    refine aN.sub (args':=[t.av,.d (eE L),.d (bR l3)]) ⟨Sub.refl _,Sub.refl _,Sub.data _ _ _,trivial⟩ ?_;refine sD (s7 _ _) ?_;simp;by_cases d1:e=0
    .rw[ac (by simp[d1])] at nu;subst d1;have hw:IntKind.i64.wrap (n:Int)=(n:Int):=aM (by omega) (by omega)
     try (simp[hw])
     repeat ((first|refine sR ?_|apply sC|apply sX);simp[hw])
     apply sE;exact⟨⟨n,l3,D3,ja,i6,jz⟩,⟨by simp only;omega,nu,Bt,BB,CJ,iy⟩,by simp only;omega,wM iy.le rfl (by simp[ToL,lk]) (by simp[aC,lk])⟩
    .rw[af d1] at nu;subst nu;have hb:(e != 0)=true:=by simp[d1]
     try (simp[hb])
     repeat ((first|refine sR ?_|apply sC|apply sX);simp[hb])
     refine sT (sG Hb Ht iy.old iy.le ?_);simp[bR]
   .simp only at he;have h3:=AA he;rw[af he] at nu;subst nu;have:e=3:=d8 Prod.snd h3
    subst this;try (simp)
    repeat ((first|refine sR ?_|apply sC|apply sX);simp)
    refine sT (sG Hb Ht iy.old iy.le ?_);simp[bR]
set_option maxRecDepth 100000 in
theorem vU(a b:Ob)(ha:a.g.Fit):DC 41 [a.av,b.av] (B (obE a b)):=by
 intro tok nt box nb;have hs:=aJG a.g b.g ha;obtain⟨R,hR⟩:∃R,obE a b=R:=⟨_,rfl⟩
 rw[hR];unfold obE at hR;refine sI func41 ntmps41 fun Hb Ht=>?_
 by_cases e1:a.ru=b.ru
 case neg =>
  have b1:(a.ru==b.ru)=false:=by simp[e1]
  rw[bk e1] at hR;simp at hR;subst hR;try (simp[b1])
  repeat ((first|refine sR ?_|apply sC|apply sX);simp[b1])
  refine sT (sH ?_);simp
 have b1:(a.ru==b.ru)=true:=by simp[e1]
 by_cases e2:a.con=b.con
 case neg =>
  have b2:(a.con==b.con)=false:=by simp[e2]
  rw[bk e2] at hR;simp at hR;subst hR;try (simp[b1,b2])
  repeat ((first|refine sR ?_|apply sC|apply sX);simp[b1,b2])
  refine sT (sH ?_);simp
 have b2:(a.con==b.con)=true:=by simp[e2]
 by_cases e3:a.way=b.way
 case neg =>
  have b3:(a.way==b.way)=false:=by simp[e3]
  rw[bk e3] at hR;simp at hR;subst hR;try (simp[b1,b2,b3])
  repeat ((first|refine sR ?_|apply sC|apply sX);simp[b1,b2,b3])
  refine sT (sH ?_);simp
 have b3:(a.way==b.way)=true:=by simp[e3]
 rw[bv e1,bv e2,bv e3,b9,b9,b9] at hR;try (simp[b1,b2,b3])
 repeat ((first|refine sR ?_|apply sC|apply sX);simp[b1,b2,b3])
 refine sD (hs _ _) ?_;simp;rw[hR];try (simp)
 repeat ((first|refine sR ?_|apply sC|apply sX);simp)
 refine sT (sH ?_);simp
set_option maxRecDepth 100000 in
theorem aKj(t:Ty)(ht:t.Fit)(l:List Co)(hl:l.length<=1000000)(hc:∀c∈l,c.g.Fit)(d:Du)(hd:d.o.g.Fit)(x:Dc)(hx:x.Fit):DC 56 [t.av,.d (bR l),d.av,x.av] (B (qO t l d x)):=by
 intro tok nt box nb;have AG:=vU d.o x.o hd;have xy:=hx.m.n;have Ck:=hx.m.e;have hcm:obE x.o d.o=obE d.o x.o:=by
  unfold obE;simp only[eq_comm]
 obtain⟨R,hR⟩:∃R,qO t l d x=R:=⟨_,rfl⟩
 rw[hR];unfold qO at hR;rw[hcm] at hR;refine sI func56 ntmps56 fun Hb Ht=>?_
 try (simp)
 repeat ((first|refine sR ?_|apply sC|apply sX);simp)
 refine sD (AG _ _) ?_;simp;cases e1:obE d.o x.o
 .rw[e1,da] at hR;subst hR;try (simp)
  repeat ((first|refine sR ?_|apply sC|apply sX);simp)
  refine sT (sH ?_);simp
 rw[e1,b9] at hR;cases hs:d.step
 .rw[hs,ac (by simp)] at hR;have hw:IntKind.i64.wrap ((x.m.nodes.length:Int)+(x.m.edges.length:Int))=((x.m.nodes.length+x.m.edges.length:Nat):Int):=by rw[aM (by omega) (by omega)];rfl
  by_cases e5:x.con = -1
  .have b5:(x.con == -1)=true:=by simp[e5]
   rw[bv e5,b9] at hR;have zy:((x.m.nodes.length:Int)+(x.m.edges.length:Int)==0)=(decide (x.m.nodes=[])&&decide (x.m.edges=[])):=by
    rw[dp,g8,bd,au,au,<-List.length_eq_zero_iff,<-List.length_eq_zero_iff];omega
   try (simp[hs,b5,hw])
   repeat ((first|refine sR ?_|apply sC|apply sX);simp[hs,b5,hw])
   refine sT (sH ?_);simp[<-hR,zy]
  .have b5:(x.con == -1)=false:=by simp[e5]
   rw[bk e5,da] at hR;subst hR;try (simp[hs,b5])
   repeat ((first|refine sR ?_|apply sC|apply sX);simp[hs,b5])
   refine sT (sH ?_);simp
 .rw[hs,af rfl] at hR;by_cases e5:0<=x.con
  case neg =>
   rw[bk (fun h=>e5 h.1),da] at hR;subst hR;try (simp[hs,e5])
   repeat ((first|refine sR ?_|apply sC|apply sX);simp[hs,e5])
   refine sT (sH ?_);simp
  by_cases e6:x.con<l.length
  case neg =>
   rw[bk (fun h=>e6 h.2),da] at hR;subst hR;try (simp[hs,e5,e6])
   repeat ((first|refine sR ?_|apply sC|apply sX);simp[hs,e5,e6])
   refine sT (sH ?_);simp
  rw[bv ⟨e5,e6⟩,b9] at hR;have hk:x.con.toNat<l.length:=by omega
  have ig:l[x.con.toNat]?=some l[x.con.toNat]:=ab hk
  rw[ig] at hR;have nv:=hc _ (aa hk);obtain⟨c,hcc⟩:∃c,l[x.con.toNat]=c:=⟨_,rfl⟩
  rw[hcc] at hR nv ig;have Br:=aGz t ht c.g d.o.g nv hd x.m true;try (simp[hs,e5,e6,hk,ig,hcc])
  repeat ((first|refine sR ?_|apply sC|apply sX);simp[hs,e5,e6,hk,ig,hcc])
  refine sD (Br _ _) ?_;simp;have zy:(tP t c.g d.o.g x.m true==0)=decide (tP t c.g d.o.g x.m true=0):=rfl
  try (simp)
  repeat ((first|refine sR ?_|apply sC|apply sX);simp)
  refine sT (sH ?_);simp[<-hR,zy]
def aQS(t:Ty)(l:List Co)(D:List Du)(p:List Dc)(nb:Nat)(box:Bxs)(tok:Tks)(nt:Nat)(i:Nat):AS :=
 ⟨tl [(11,I i),(9,.d (pD D)),(7,.ptr (nb+7) 0 0),(2,.d (bR l)),(4,.ptr (nb+4) 0 0)],lb nb box [(7,[[.d (qH p)]]),(4,[eL t])],tok,nt⟩
set_option maxRecDepth 100000 in
theorem aN1(t:Ty)(L:List Ru)(l:List Co)(h:bL t L l)(hL:L.length<=1000000)(hl:l.length<=1000000)(p:List Dc)(hp:∀x∈p,x.Fit):DC 25 [t.av,.d (eE L),.d (bR l),.agg [.d (qH p)]] (B (aDz t L l p)):=by
 intro tok nt box nb;have hg:=tE t L l h hL hl;obtain⟨R,hR⟩:∃R,aDz t L l p=R:=⟨_,rfl⟩
 rw[hR];unfold aDz dE at hR;refine sI func25 ntmps25 fun Hb Ht=>?_
 repeat first|simp|refine sR ?_
 refine sD (hg _ _) ?_;simp;by_cases e:fG t L l=0
 case neg =>
  have hb:(fG t L l != 0)=true:=by simp[e]
  rw[af e,bk e,da,da] at hR;subst hR;try (simp[hb])
  repeat ((first|refine sR ?_|apply sC|apply sX);simp[hb])
  refine sT (sH ?_);simp
 rw[ac (by simp[e])] at hR;obtain⟨hT,mv,_,h6,h8⟩:=jB e;have s7:=qL t L l h hT mv h6 h8;have hD:=oM h hT mv h6 h8;obtain⟨⟨D,e7⟩,hE⟩:∃E,iU t L l=E:=⟨_,rfl⟩
 rw[hE] at hR s7 hD;simp only at hR s7 hD;have Bp:=hD.n;try (simp[e])
 repeat ((first|refine sR ?_|apply sC|apply sX);simp[e])
 refine sD (s7 _ _) ?_;simp;by_cases e1:e7=0
 case neg =>
  have hb:(e7 != 0)=true:=by simp[e1]
  rw[bk e1,da,da] at hR;subst hR;try (simp[hb])
  repeat ((first|refine sR ?_|apply sC|apply sX);simp[hb])
  refine sT (sH ?_);simp
 subst e1;rw[bv rfl,b9] at hR;by_cases e2:D.length=p.length
 case neg =>
  have hb:((D.length:Int) != (p.length:Int))=true:=by simp;omega
  rw[bk e2,da] at hR;subst hR;try (simp[hb])
  repeat ((first|refine sR ?_|apply sC|apply sX);simp[hb])
  refine sT (sH ?_);simp
 have hb:((D.length:Int) != (p.length:Int))=false:=by simp;omega
 rw[bv e2,b9] at hR;try (simp[hb])
 repeat ((first|refine sR ?_|apply sC|apply sX);simp[hb])
 apply sN;refine sL (aQS t l D p nb box tok nt) (fun i=>i<=D.length/\∀j,j<i->(match D[j]?,p[j]? with|some d,some x=>qO t l d x|_,_=>false)=true) (fun i=>D.length-i) 0 ⟨ai _,fun j hj=>absurd hj (b8 _)⟩ wkA ?_;rintro i S ⟨hi,ia⟩ hS;simp only[aQS] at hS;subst hS;have hw:=sW (i:=i) (by omega);by_cases hlt:i<D.length
 .have jy:i<p.length:=by omega
  have ig:=aAq hlt;have r8:=aGr jy;have mc:D[i]?=some D[i]:=ab hlt
  have nf:p[i]?=some p[i]:=ab jy
  have rl:=hD.g _ (aa hlt);have td:=hp _ (aa jy);obtain⟨d,nw⟩:∃d,D[i]=d:=⟨_,rfl⟩
  obtain⟨x,r9⟩:∃x,p[i]=x:=⟨_,rfl⟩
  rw[nw] at ig mc rl;rw[r9] at r8 nf td;have hr:=aKj t h.t l hl (fun c hc=>(h.l c hc).g) d rl x td;try (simp[hlt,ig,jy,r8,nw,r9])
  repeat ((first|refine sR ?_|apply sC|apply sX);simp[hlt,ig,jy,r8,nw,r9])
  refine sD (hr _ _) ?_;simp;cases e3:qO t l d x
  .have:R=false:=by
    rw[<-hR,dz];exact⟨i,ay.2 jy,by simp only[mc,nf,e3];simp⟩
   subst this;try (simp)
   repeat ((first|refine sR ?_|apply sC|apply sX);simp)
   refine sT (sH ?_);simp
  .try (simp[hw])
   repeat ((first|refine sR ?_|apply sC|apply sX);simp[hw])
   apply sE;refine⟨i+1,⟨hlt,fun j hj=>?_⟩,by omega,wkA⟩;by_cases ej:j=i
   .subst ej;simp only[mc,nf,e3]
   .exact ia j (by omega)
 .have:i=D.length:=by omega
  subst this;have:R=true:=by
   rw[<-hR,aq];exact fun j hj=>ia j (by rw[e2];exact ay.1 hj)
  subst this;try (simp)
  repeat ((first|refine sR ?_|apply sC|apply sX);simp)
  refine sT (sH ?_);simp
def obL(a b:List Ob):Bool:=decide (a.length=b.length)&&(List.range a.length).all fun i=>match a[i]?,b[i]? with|some x,some y=>obE x y|_,_=>false
def dcL(a b:List Dc):Bool:=decide (a.length=b.length)&&(List.range a.length).all fun i=>match a[i]?,b[i]? with|some x,some y=>obE x.o y.o&&decide (x.con=y.con)&&decide (x.m=y.m)|_,_=>false
theorem aDp(a:Ob):obE a a=true:=by simp[obE]
theorem aI4(a:List Ob):obL a a=true:=by
 unfold obL;rw[bv rfl,b9,aq];intro i hi;rw[ab (ay.1 hi)];exact aDp _
theorem aIL(a:List Dc):dcL a a=true:=by
 unfold dcL;rw[bv rfl,b9,aq];intro i hi;rw[ab (ay.1 hi)];simp[aDp]
def aPQ(a b:List Ob)(nb:Nat)(box:Bxs)(tok:Tks)(nt:Nat)(i:Nat):AS :=
 ⟨tl [(5,I i),(0,.d (tC a)),(1,.d (tC b))],lb nb box [],tok,nt⟩
set_option maxRecDepth 100000 in
theorem aHa(a b:List Ob)(ha:a.length<=100000000)(hf:∀o∈a,o.g.Fit):DC 15 [.d (tC a),.d (tC b)] (B (obL a b)):=by
 intro tok nt box nb;obtain⟨R,hR⟩:∃R,obL a b=R:=⟨_,rfl⟩
 rw[hR];unfold obL at hR;refine sI func15 ntmps15 fun Hb Ht=>?_
 by_cases e2:a.length=b.length
 case neg =>
  have hb:((a.length:Int) != (b.length:Int))=true:=by simp;omega
  rw[bk e2,da] at hR;subst hR;try (simp[hb])
  repeat ((first|refine sR ?_|apply sC|apply sX);simp[hb])
  refine sT (sH ?_);simp
 have hb:((a.length:Int) != (b.length:Int))=false:=by simp;omega
 rw[bv e2,b9] at hR;try (simp[hb])
 repeat ((first|refine sR ?_|apply sC|apply sX);simp[hb])
 apply sN;refine sL (aPQ a b nb box tok nt) (fun i=>i<=a.length/\∀j,j<i->(match a[j]?,b[j]? with|some x,some y=>obE x y|_,_=>false)=true) (fun i=>a.length-i) 0 ⟨ai _,fun j hj=>absurd hj (b8 _)⟩ wkA ?_;rintro i S ⟨hi,ia⟩ hS;simp only[aPQ] at hS;subst hS;have hw:=sW (i:=i) (by omega);by_cases hlt:i<a.length
 .have jy:i<b.length:=by omega
  have ig:=aJM hlt;have r8:=aJM jy;have mc:a[i]?=some a[i]:=ab hlt
  have nf:b[i]?=some b[i]:=ab jy
  have td:=hf _ (aa hlt);obtain⟨x,r9⟩:∃x,a[i]=x:=⟨_,rfl⟩
  obtain⟨y,yh⟩:∃y,b[i]=y:=⟨_,rfl⟩
  rw[r9] at ig mc td;rw[yh] at r8 nf;have hr:=vU x y td;try (simp[hlt,ig,jy,r8,r9,yh])
  repeat ((first|refine sR ?_|apply sC|apply sX);simp[hlt,ig,jy,r8,r9,yh])
  refine sD (hr _ _) ?_;simp;cases e3:obE x y
  .have:R=false:=by
    rw[<-hR,dz];exact⟨i,ay.2 hlt,by simp only[mc,nf,e3];simp⟩
   subst this;try (simp)
   repeat ((first|refine sR ?_|apply sC|apply sX);simp)
   refine sT (sH ?_);simp
  .try (simp[hw])
   repeat ((first|refine sR ?_|apply sC|apply sX);simp[hw])
   apply sE;refine⟨i+1,⟨hlt,fun j hj=>?_⟩,by omega,wkA⟩;by_cases ej:j=i
   .subst ej;simp only[mc,nf,e3]
   .exact ia j (by omega)
 .have:i=a.length:=by omega
  subst this;have:R=true:=by
   rw[<-hR,aq];exact fun j hj=>ia j (ay.1 hj)
  subst this;try (simp)
  repeat ((first|refine sR ?_|apply sC|apply sX);simp)
  refine sT (sH ?_);simp
def aPm(a b:List Dc)(nb:Nat)(box:Bxs)(tok:Tks)(nt:Nat)(i:Nat):AS :=
 ⟨tl [(5,I i),(2,.ptr (nb+2) 0 0),(3,.ptr (nb+3) 0 0)],lb nb box [(2,[[.d (qH a)]]),(3,[[.d (qH b)]])],tok,nt⟩
set_option maxRecDepth 100000 in
theorem aJF(a b:List Dc)(ha:a.length<=100000000)(hf:∀o∈a,o.Fit):DC 22 [.agg [.d (qH a)],.agg [.d (qH b)]] (B (dcL a b)):=by
 intro tok nt box nb;obtain⟨R,hR⟩:∃R,dcL a b=R:=⟨_,rfl⟩
 rw[hR];unfold dcL at hR;refine sI func22 ntmps22 fun Hb Ht=>?_
 by_cases e2:a.length=b.length
 case neg =>
  have hb:((a.length:Int) != (b.length:Int))=true:=by simp;omega
  rw[bk e2,da] at hR;subst hR;try (simp[hb])
  repeat ((first|refine sR ?_|apply sC|apply sX);simp[hb])
  refine sT (sH ?_);simp
 have hb:((a.length:Int) != (b.length:Int))=false:=by simp;omega
 rw[bv e2,b9] at hR;try (simp[hb])
 repeat ((first|refine sR ?_|apply sC|apply sX);simp[hb])
 apply sN;refine sL (aPm a b nb box tok nt) (fun i=>i<=a.length/\∀j,j<i->(match a[j]?,b[j]? with|some x,some y=>obE x.o y.o&&decide (x.con=y.con)&&decide (x.m=y.m)|_,_=>false)=true) (fun i=>a.length-i) 0 ⟨ai _,fun j hj=>absurd hj (b8 _)⟩ wkA ?_;rintro i S ⟨hi,ia⟩ hS;simp only[aPm] at hS;subst hS;have hw:=sW (i:=i) (by omega);by_cases hlt:i<a.length
 .have jy:i<b.length:=by omega
  have ig:=aGr hlt;have r8:=aGr jy;have mc:a[i]?=some a[i]:=ab hlt
  have nf:b[i]?=some b[i]:=ab jy
  have td:=hf _ (aa hlt);obtain⟨x,r9⟩:∃x,a[i]=x:=⟨_,rfl⟩
  obtain⟨y,yh⟩:∃y,b[i]=y:=⟨_,rfl⟩
  rw[r9] at ig mc td;rw[yh] at r8 nf;have ow:(obE x.o y.o&&decide (x.con=y.con)&&decide (x.m=y.m))=false->R=false:=fun h=>by
   rw[<-hR,dz];exact⟨i,ay.2 hlt,by simp only[mc,nf,h];simp⟩
  have hr:=vU x.o y.o td.g;have hr2:=aJd x.m y.m td.m;repeat first|simp[hlt]|refine sR ?_
  apply sC;simp[hlt]
  apply sN;refine AL.region2 bS (nr0 _) (by kernel_rfl) (mH.of (by simp)) ?_;simp[hlt,ig,jy,r8,r9,yh];try (simp[hlt,ig,jy,r8,r9,yh])
  repeat ((first|refine sR ?_|apply sC|apply sX);simp[hlt,ig,jy,r8,r9,yh])
  refine sD (hr _ _) ?_;simp;cases e3:obE x.o y.o
  .have:=ow (by rw[e3];rfl)
   subst this;try (simp)
   repeat ((first|refine sR ?_|apply sC|apply sX);simp)
   refine sT (sH ?_);simp
  by_cases e4:x.con=y.con
  case neg =>
   have b4:(x.con != y.con)=true:=by simp[e4]
   have:=ow (by rw[bk e4];simp)
   subst this;try (simp[b4])
   repeat ((first|refine sR ?_|apply sC|apply sX);simp[b4])
   refine sT (sH ?_);simp
  have b4:(x.con != y.con)=false:=by simp[e4]
  try (simp[b4])
  repeat ((first|refine sR ?_|apply sC|apply sX);simp[b4])
  refine sD (hr2 _ _) ?_;simp;by_cases e5:x.m=y.m
  case neg =>
   have:=ow (by rw[bk e5];simp)
   subst this;try (simp[e5])
   repeat ((first|refine sR ?_|apply sC|apply sX);simp[e5])
   refine sT (sH ?_);simp
  try (simp[e5,hw])
  repeat ((first|refine sR ?_|apply sC|apply sX);simp[e5,hw])
  apply sE;refine⟨i+1,⟨hlt,fun j hj=>?_⟩,by omega,wkA⟩;by_cases ej:j=i
  .subst ej;simp only[mc,nf,e3,bv e4,bv e5];rfl
  .exact ia j (by omega)
 .have:i=a.length:=by omega
  subst this;have:R=true:=by
   rw[<-hR,aq];exact fun j hj=>ia j (ay.1 hj)
  subst this;try (simp)
  repeat ((first|refine sR ?_|apply sC|apply sX);simp)
  refine sT (sH ?_);simp
def aHo(x:Xt):Bool:=if qN x.g=true then uX x.m 140 else false
def aEH(c:Co):Bool:=if 60<c.name.size then false else if 10<c.exts.length then false else if qN c.g=true then cJ aHo c.exts else false
theorem aJ3{α:Type}{p:α->Bool}{l:List α}(h:cJ p l=true):∀x∈l,p x=true:=aq.1 h
theorem aDD{c:Co}(h:aEH c=true):c.Fit/\c.exts.length<=10:=by
 unfold aEH at h;split at h
 .cases h
 rename_i h1;split at h
 .cases h
 rename_i h2;split at h
 .rename_i h3;refine⟨⟨by omega,sJ h3,by omega,fun x hx=>?_⟩,by omega⟩;have:=aJ3 h x hx
  unfold aHo at this;split at this
  .rename_i h4;exact⟨sS this,sJ h4⟩
  .cases this
 .cases h
def aKq(c:Co)(nb:Nat)(box:Bxs)(tok:Tks)(nt:Nat)(i:Nat):AS :=
 ⟨tl [(3,I i),(1,.ptr (nb+1) 0 0)],lb nb box [(1,[c.row])],tok,nt⟩
theorem aLW(c:Co)(hc:c.Big):DC 107 [c.av] (B (aEH c)):=by
 intro tok nt box nb;have hn:=hc.n;rw[bP] at hn;have B4:=hc.name;have h1:=vM c.g;obtain⟨N,hN⟩:∃N,aEH c=N:=⟨_,rfl⟩
 rw[hN];unfold aEH at hN;by_cases e1:60<c.name.size
 .have j9:(60:Int)<c.name.size:=by omega
  rw[af e1] at hN;refine sI func107 ntmps107 fun Hb Ht=>?_
  try (simp[e1,j9])
  repeat ((first|refine sR ?_|apply sC|apply sX);simp[e1,j9])
  refine sT (sH ?_);simp[<-hN]
 .have j9:¬(60:Int)<c.name.size:=by omega
  rw[ac e1] at hN;by_cases e2:10<c.exts.length
  .have j0:(10:Int)<c.exts.length:=by omega
   rw[af e2] at hN;refine sI func107 ntmps107 fun Hb Ht=>?_
   try (simp[e1,j9,e2,j0])
   repeat ((first|refine sR ?_|apply sC|apply sX);simp[e1,j9,e2,j0])
   refine sT (sH ?_);simp[<-hN]
  .have j0:¬(10:Int)<c.exts.length:=by omega
   rw[ac e2] at hN;refine sI func107 ntmps107 fun Hb Ht=>?_
   try (simp[e1,j9,e2,j0])
   repeat ((first|refine sR ?_|apply sC|apply sX);simp[e1,j9,e2,j0])
   refine sD (h1 _ _) ?_;simp;cases e3:qN c.g
   .rw[e3,ac (by simp)] at hN;try (simp)
    repeat ((first|refine sR ?_|apply sC|apply sX);simp)
    refine sT (sH ?_);simp[<-hN]
   .rw[e3,af rfl] at hN;try (simp)
    repeat ((first|refine sR ?_|apply sC|apply sX);simp)
    apply sN;refine sL (aKq c nb box tok nt) (fun i=>i<=c.exts.length/\cJ aHo (c.exts.take i)=true) (fun i=>c.exts.length-i) 0 ⟨ai _,by simp[cJ]⟩ wkA ?_;rintro i S' ⟨hi,ia⟩ hS;simp only[aKq] at hS;subst hS;have hw:=sW (i:=i) (by omega);repeat first|simp|refine sR ?_|apply sC
    refine⟨fun hlt=>?_,fun hge=>?_⟩
    .have ju:=fun h=>gA (p:=aHo) hlt h
     have jt:=fun h=>dA (p:=aHo) hlt ia h
     have hb:=hc.exts _ (aa hlt);have b1:=hb.mn;have b2:=hb.me;rw[bP] at b1 b2;have c1:=vM c.exts[i].g;have c2:=aGa c.exts[i].m 140 (by omega) (by omega);have hd:aHo c.exts[i]=if qN c.exts[i].g=true then uX c.exts[i].m 140 else false:=rfl
     repeat first|simp[hlt]|refine sR ?_
     refine sD (c1 _ _) ?_;simp;cases e4:qN c.exts[i].g
     .rw[e4,ac (by simp)] at hd;rw[ju hd] at hN;try (simp)
      repeat ((first|refine sR ?_|apply sC|apply sX);simp)
      refine sT (sH ?_);simp[<-hN]
     .rw[e4,af rfl] at hd;try (simp[hlt])
      repeat ((first|refine sR ?_|apply sC|apply sX);simp[hlt])
      refine sD (c2 _ _) ?_;simp;cases e5:uX c.exts[i].m 140
      .rw[e5] at hd;rw[ju hd] at hN;try (simp)
       repeat ((first|refine sR ?_|apply sC|apply sX);simp)
       refine sT (sH ?_);simp[<-hN]
      .rw[e5] at hd;try (simp[hw])
       repeat ((first|refine sR ?_|apply sC|apply sX);simp[hw])
       apply sE;exact⟨i+1,⟨hlt,jt hd⟩,by omega,wkA⟩
    .apply sX;simp only[AU,↓reduceIte];have:i=c.exts.length:=by omega
     subst this;rw[bh] at ia;rw[ia] at hN;repeat first|simp|refine sR ?_
     refine sT (sH ?_);simp[<-hN]
def aId(x:Xt):Bool:=if 3<x.g.nodes.length then false else if 3<x.g.edges.length then false else true
def aDa(c:Co):Bool:=if aEH c=true then (if lL c≠0 then true else if 3<c.g.nodes.length then false else if 2<c.g.edges.length then false else if 2<c.exts.length then false else cJ aId c.exts) else false
theorem aG6(c:Co)(hb:c.Big):DC 64 [c.av] (B (aDa c)):=by
 intro tok nt box nb;have h1:=aLW c hb;obtain⟨N,hN⟩:∃N,aDa c=N:=⟨_,rfl⟩
 rw[hN];unfold aDa at hN;have hf:=@aDD c;refine sI func64 ntmps64 fun Hb Ht=>?_
 repeat first|simp|refine sR ?_
 refine sD (h1 _ _) ?_;simp;cases e0:aEH c
 .rw[e0,ac (by simp)] at hN;try (simp)
  repeat ((first|refine sR ?_|apply sC|apply sX);simp)
  refine sT (sH ?_);simp[<-hN]
 .rw[e0,af rfl] at hN;obtain⟨hc,hx10⟩:=hf e0;have h2:=aIa c hc;have rc:=hc.g.n;have hge:=hc.g.e;try (simp)
  repeat ((first|refine sR ?_|apply sC|apply sX);simp)
  refine sD (h2 _ _) ?_;simp;by_cases e1:lL c=0
  .rw[ac (by simp[e1])] at hN;by_cases s1:3<c.g.nodes.length
   .have s1':(3:Int)<c.g.nodes.length:=by omega
    rw[af s1] at hN;try (simp[e1,s1,s1'])
    repeat ((first|refine sR ?_|apply sC|apply sX);simp[e1,s1,s1'])
    refine sT (sH ?_);simp[<-hN]
   .have s1':¬(3:Int)<c.g.nodes.length:=by omega
    rw[ac s1] at hN;by_cases s2:2<c.g.edges.length
    .have s2':(2:Int)<c.g.edges.length:=by omega
     rw[af s2] at hN;try (simp[e1,s1,s1',s2,s2'])
     repeat ((first|refine sR ?_|apply sC|apply sX);simp[e1,s1,s1',s2,s2'])
     refine sT (sH ?_);simp[<-hN]
    .have s2':¬(2:Int)<c.g.edges.length:=by omega
     rw[ac s2] at hN;by_cases s3:2<c.exts.length
     .have s3':(2:Int)<c.exts.length:=by omega
      rw[af s3] at hN;try (simp[e1,s1,s1',s2,s2',s3,s3'])
      repeat ((first|refine sR ?_|apply sC|apply sX);simp[e1,s1,s1',s2,s2',s3,s3'])
      refine sT (sH ?_);simp[<-hN]
     .have s3':¬(2:Int)<c.exts.length:=by omega
      rw[ac s3] at hN;try (simp[e1,s1,s1',s2,s2',s3,s3'])
      repeat ((first|refine sR ?_|apply sC|apply sX);simp[e1,s1,s1',s2,s2',s3,s3'])
      apply sN;refine sL (aKq c nb box tok nt) (fun i=>i<=c.exts.length/\cJ aId (c.exts.take i)=true) (fun i=>c.exts.length-i) 0 ⟨ai _,by simp[cJ]⟩ wkA ?_;rintro i S' ⟨hi,ia⟩ hS;simp only[aKq] at hS;subst hS;have hw:=sW (i:=i) (by omega);repeat first|simp|refine sR ?_|apply sC
      refine⟨fun hlt=>?_,fun hge=>?_⟩
      .have ju:=fun h=>gA (p:=aId) hlt h
       have jt:=fun h=>dA (p:=aId) hlt ia h
       have hd:aId c.exts[i]=if 3<c.exts[i].g.nodes.length then false else if 3<c.exts[i].g.edges.length then false else true:=rfl
       by_cases t1:3<c.exts[i].g.nodes.length
       .have t1':(3:Int)<c.exts[i].g.nodes.length:=by omega
        rw[af t1] at hd;rw[ju hd] at hN;try (simp[hlt,t1,t1'])
        repeat ((first|refine sR ?_|apply sC|apply sX);simp[hlt,t1,t1'])
        refine sT (sH ?_);simp[<-hN]
       .have t1':¬(3:Int)<c.exts[i].g.nodes.length:=by omega
        rw[ac t1] at hd;by_cases t2:3<c.exts[i].g.edges.length
        .have t2':(3:Int)<c.exts[i].g.edges.length:=by omega
         rw[af t2] at hd;rw[ju hd] at hN;try (simp[hlt,t1,t1',t2,t2'])
         repeat ((first|refine sR ?_|apply sC|apply sX);simp[hlt,t1,t1',t2,t2'])
         refine sT (sH ?_);simp[<-hN]
        .have t2':¬(3:Int)<c.exts[i].g.edges.length:=by omega
         rw[ac t2] at hd;try (simp[hlt,t1,t1',t2,t2',hw])
         repeat ((first|refine sR ?_|apply sC|apply sX);simp[hlt,t1,t1',t2,t2',hw])
         apply sE;exact⟨i+1,⟨hlt,jt hd⟩,by omega,wkA⟩
      .apply sX;simp only[AU,↓reduceIte];have:i=c.exts.length:=by omega
       subst this;rw[bh] at ia;rw[ia] at hN;repeat first|simp|refine sR ?_
       refine sT (sH ?_);simp[<-hN]
  .have b1:(lL c != 0)=true:=by simp[e1]
   rw[af e1] at hN;try (simp[b1])
   repeat ((first|refine sR ?_|apply sC|apply sX);simp[b1])
   refine sT (sH ?_);simp[<-hN]
def aEG(r:Ru):Bool:=if aBo r=true then (if cQ r=0 then (if r.lg.nodes.length<=4 then (if r.lg.edges.length<=4 then (if r.rg.nodes.length<=4 then decide (r.rg.edges.length<=4) else false) else false) else false) else true) else false
theorem aDq{r:Ru}(hb:r.Big)(h:aEG r=true):r.Fit:=by
 unfold aEG at h;split at h
 .rename_i h1;exact aCz hb h1
 .cases h
theorem aGN(r:Ru)(hb:r.Big):DC 62 [r.av] (B (aEG r)):=by
 intro tok nt box nb;have h1:=aLR r hb;have hf:=@aCz r hb;obtain⟨N,hN⟩:∃N,aEG r=N:=⟨_,rfl⟩
 rw[hN];unfold aEG at hN;refine sI func62 ntmps62 fun Hb Ht=>?_
 repeat first|simp|refine sR ?_
 refine sD (h1 _ _) ?_;simp;cases e0:aBo r
 .rw[e0,ac (by simp)] at hN;try (simp)
  repeat ((first|refine sR ?_|apply sC|apply sX);simp)
  refine sT (sH ?_);simp[<-hN]
 .rw[e0,af rfl] at hN;have h2:=fU r (hf e0);try (simp)
  repeat ((first|refine sR ?_|apply sC|apply sX);simp)
  refine sD (h2 _ _) ?_;simp;by_cases e1:cQ r=0
  .rw[af e1] at hN;have w:∀n:Nat,((n:Int)<=4)↔n<=4:=fun n=>by omega
   by_cases s1:r.lg.nodes.length<=4
   .have s1':=(w _).2 s1
    rw[af s1] at hN;by_cases s2:r.lg.edges.length<=4
    .have s2':=(w _).2 s2
     rw[af s2] at hN;by_cases s3:r.rg.nodes.length<=4
     .have s3':=(w _).2 s3
      rw[af s3] at hN;by_cases s4:r.rg.edges.length<=4
      .have s4':=(w _).2 s4
       rw[bv s4] at hN;try (simp[e1,s1,s1',s2,s2',s3,s3',s4,s4'])
       repeat ((first|refine sR ?_|apply sC|apply sX);simp[e1,s1,s1',s2,s2',s3,s3',s4,s4'])
       refine sT (sH ?_);simp[<-hN,s4']
      .have s4':¬(r.rg.edges.length:Int)<=4:=fun h=>s4 ((w _).1 h)
       rw[bk s4] at hN;try (simp[e1,s1,s1',s2,s2',s3,s3',s4,s4'])
       repeat ((first|refine sR ?_|apply sC|apply sX);simp[e1,s1,s1',s2,s2',s3,s3',s4,s4'])
       refine sT (sH ?_);simp[<-hN,s4']
     .have s3':¬(r.rg.nodes.length:Int)<=4:=fun h=>s3 ((w _).1 h)
      rw[ac s3] at hN;try (simp[e1,s1,s1',s2,s2',s3,s3'])
      repeat ((first|refine sR ?_|apply sC|apply sX);simp[e1,s1,s1',s2,s2',s3,s3'])
      refine sT (sH ?_);simp[<-hN]
    .have s2':¬(r.lg.edges.length:Int)<=4:=fun h=>s2 ((w _).1 h)
     rw[ac s2] at hN;try (simp[e1,s1,s1',s2,s2'])
     repeat ((first|refine sR ?_|apply sC|apply sX);simp[e1,s1,s1',s2,s2'])
     refine sT (sH ?_);simp[<-hN]
   .have s1':¬(r.lg.nodes.length:Int)<=4:=fun h=>s1 ((w _).1 h)
    rw[ac s1] at hN;try (simp[e1,s1,s1'])
    repeat ((first|refine sR ?_|apply sC|apply sX);simp[e1,s1,s1'])
    refine sT (sH ?_);simp[<-hN]
  .have b1:(cQ r != 0)=true:=by simp[e1]
   rw[ac e1] at hN;try (simp[b1,e1])
   repeat ((first|refine sR ?_|apply sC|apply sX);simp[b1,e1])
   refine sT (sH ?_);simp[<-hN]
theorem aJj{c:Co}(h:aDa c=true):c.Fit:=by
 unfold aDa at h;split at h
 .rename_i h1;exact(aDD h1).1
 .cases h
theorem AL.cut_aux{P:Program}{cx:Cx}{nt0:Nat}{K K':Exit->AS->Prop}{R:List CI}(hn:∀S,K' .normal S->AL P cx nt0 K R S)(he:∀e S,e≠.normal->K' e S->AU P cx nt0 K R e S):
  ∀l:List CI,(∀S,AL P cx nt0 K' l S->AL P cx nt0 K (l++R) S)/\∀e S,e≠.normal->AU P cx nt0 K' l e S->AU P cx nt0 K (l++R) e S
 | []=>⟨fun S h=>hn S (by simpa only[AL] using h),fun e S h1 h=>he e S h1 (by simpa only[AU] using h)⟩
 | .c c::l=>by
  obtain⟨i1,i2⟩:=AL.cut_aux hn he l;refine⟨fun S h=>?_,fun e S h1 h=>?_⟩
  .simp only[AL,gp] at h ⊢;refine h.mono fun e S' h=>?_
   cases e with
   | normal=>exact i1 S' h
   | _=>exact i2 _ _ (by simp) h
  .simp only[AU,gp] at h ⊢;exact i2 e S h1 h
 | .blk id::l=>by
  obtain⟨i1,i2⟩:=AL.cut_aux hn he l;refine⟨fun S h=>?_,fun e S h1 h=>?_⟩
  .simp only[AL,gp] at h ⊢;exact i1 S h
  .cases e with
   | normal=>exact absurd rfl h1
   | exit j =>
    simp only[AU,gp] at h ⊢;split
    .rename_i hj;rw[af hj] at h;exact i1 S h
    .rename_i hj;rw[ac hj] at h;exact i2 _ S h1 h
   | _ =>
    simp only[AU,gp] at h ⊢;exact i2 _ S h1 h
theorem AL.cut{P:Program}{cx:Cx}{nt0:Nat}{K:Exit->AS->Prop}{l r:List CI}{S:AS}{y:Code}{α:Type}(T:α->AS)(inv:α->Prop)(h1:AL P cx nt0 (fun e S'=>match e with
   | .normal=>∃a,inv a/\aS cx nt0 S' (T a)
   | e=>AU P cx nt0 K (.c y::r) e S') l S)(h2:∀a,inv a->AL P cx nt0 K (.c y::r) (T a)):AL P cx nt0 K (l++.c y::r) S:=by
 refine(AL.cut_aux ?_ ?_ l).1 S h1
 .rintro S ⟨a,ha,hw⟩;exact AL.weak hw (h2 a ha)
 .intro e S hne h;cases e with
  | normal=>exact absurd rfl hne
  | _=>exact h
theorem AL.cutP{P:Program}{cx:Cx}{nt0:Nat}{K:Exit->AS->Prop}{l r:List CI}{S:AS}{y:Code}(T:AS)(p:Prop)(h1:AL P cx nt0 (fun e S'=>match e with
   | .normal=>p/\aS cx nt0 S' T
   | e=>AU P cx nt0 K (.c y::r) e S') l S)(h2:p->AL P cx nt0 K (.c y::r) T):AL P cx nt0 K (l++.c y::r) S:=by
 refine(AL.cut_aux ?_ ?_ l).1 S h1
 .rintro S ⟨ha,hw⟩;exact AL.weak hw (h2 ha)
 .intro e S hne h;cases e with
  | normal=>exact absurd rfl hne
  | _=>exact h
def yZ(r:Ru):Bool:=aEG r&&!(decide (cQ r=0)&&decide (5<r.rg.nodes.length+r.rg.edges.length))
def yI(n a b c:Nat):Bool:=(decide (a<n)&&decide (n<=b))||decide (c<n)
def aD8(t:Ty)(L:List Ru)(l:List Co):Bool:=aCQ t&&(!yI L.length 3 6 8&&(!yI l.length 3 8 10&&(L.all yZ&&l.all aDa)))
structure oU (t:Ty) (L:List Ru) (l:List Co):Prop where
 nL:L.length<=2000000000000
 nl:l.length<=2000000000000
 t:t.Big
 L:∀r∈L,r.Big
 l:∀c∈l,c.Big
theorem aDE{t:Ty}{L:List Ru}{l:List Co}(h:oU t L l)(hl:aD8 t L l=true):bL t L l/\L.length<=8/\l.length<=10:=by
 unfold aD8 at hl;simp only[bd,c9,yI,Bool.or_eq_false_iff,bq,aq] at hl;obtain⟨h1,⟨_,h2⟩,⟨_,h3⟩,h4,h5⟩:=hl;refine⟨⟨aIq h1,fun r hr=>?_,fun c hc=>aJj (h5 c hc)⟩,by omega,by omega⟩;have:=h4 r hr
 unfold yZ at this;rw[bd] at this;exact aDq (h.L r hr) this.1
def zB(t:Ty)(L:List Ru)(l:List Co)(nb:Nat)(box:Bxs)(tok:Tks)(nt:Nat):AS:=⟨tl [(1,.d (eE L)),(2,.d (bR l))],lb nb box [],tok,nt⟩
def aQa(t:Ty)(L:List Ru)(l:List Co)(nb:Nat)(box:Bxs)(tok:Tks)(nt:Nat)(i:Nat):AS:=⟨tl [(7,I i),(1,.d (eE L)),(2,.d (bR l))],lb nb box [],tok,nt⟩
def aDO(l:List Co)(nb:Nat)(box:Bxs)(tok:Tks)(nt:Nat)(i:Nat):AS:=⟨tl [(8,I i),(2,.d (bR l))],lb nb box [],tok,nt⟩
set_option maxRecDepth 100000 in
theorem aG8(t:Ty)(L:List Ru)(l:List Co)(h:oU t L l):DC 27 [t.av,.d (eE L),.d (bR l)] (B (aD8 t L l)):=by
 intro tok nt box nb;have h1:=aKN t h.t;have hnL:=h.nL;have pq:=h.nl;obtain⟨N,hN⟩:∃N,aD8 t L l=N:=⟨_,rfl⟩
 rw[hN];unfold aD8 at hN;refine sI func27 ntmps27 fun Hb Ht=>?_
 by_cases e1:aCQ t=true
 case neg =>
  have e1:aCQ t=false:=by simpa using e1
  rw[e1,da] at hN;try (simp)
  repeat ((first|refine sR ?_|apply sC|apply sX);simp)
  refine sD (h1 _ _) ?_;simp;rw[e1];try (simp)
  repeat ((first|refine sR ?_|apply sC|apply sX);simp)
  refine sT (sH ?_);simp[<-hN]
 rw[e1,b9] at hN;refine sR ?_;simp;apply sN;refine AL.cutP (l:=[_,_]) (zB t L l nb box tok nt) (yI L.length 3 6 8=false/\yI l.length 3 8 10=false) ?_ fun hp=>?_
 .skip
  have jm:yI L.length 3 6 8=true->N=false:=fun h=>by rw[<-hN,h];rfl
  have tj:yI l.length 3 8 10=true->N=false:=fun h=>by rw[<-hN,h];simp
  have dec:∀{n a b c:Nat},yI n a b c=true↔(a<n/\n<=b)∨c<n:=by intros;simp[yI]
  have lst:∀F:Prop,(¬(3<l.length/\l.length<=8)->¬10<l.length->F)->((3<l.length/\l.length<=8)∨10<l.length->F)->F:=fun F f g=>by
   by_cases c1:3<l.length/\l.length<=8
   .exact g (.inl c1)
   .by_cases c2:10<l.length
    .exact g (.inr c2)
    .exact f c1 c2
  by_cases a1:3<L.length
  .have f1:(3:Int)<L.length:=by omega
   by_cases a2:L.length<=6
   .have f2:(L.length:Int)<=6:=by omega
    have:=jm (dec.2 (.inl ⟨a1,a2⟩))
    subst this;try (simp)
    repeat ((first|refine sR ?_|apply sC|apply sX);simp)
    refine sD (h1 _ _) ?_;simp;rw[e1];try (simp[f1,f2])
    repeat ((first|refine sR ?_|apply sC|apply sX);simp[f1,f2])
    refine sT (sH ?_);simp
   have f2:¬(L.length:Int)<=6:=by omega
   by_cases a3:8<L.length
   .have f3:(8:Int)<L.length:=by omega
    have:=jm (dec.2 (.inr a3))
    subst this;try (simp)
    repeat ((first|refine sR ?_|apply sC|apply sX);simp)
    refine sD (h1 _ _) ?_;simp;rw[e1];try (simp[f1,f2,f3])
    repeat ((first|refine sR ?_|apply sC|apply sX);simp[f1,f2,f3])
    refine sT (sH ?_);simp
   have f3:¬(8:Int)<L.length:=by omega
   by_cases b1:3<l.length
   .have g1:(3:Int)<l.length:=by omega
    by_cases b2:l.length<=8
    .have g2:(l.length:Int)<=8:=by omega
     have:=tj (dec.2 (.inl ⟨b1,b2⟩))
     subst this;try (simp)
     repeat ((first|refine sR ?_|apply sC|apply sX);simp)
     refine sD (h1 _ _) ?_;simp;rw[e1];try (simp[f1,f2,f3,g1,g2])
     repeat ((first|refine sR ?_|apply sC|apply sX);simp[f1,f2,f3,g1,g2])
     refine sT (sH ?_);simp
    have g2:¬(l.length:Int)<=8:=by omega
    by_cases b3:10<l.length
    .have g3:(10:Int)<l.length:=by omega
     have:=tj (dec.2 (.inr b3))
     subst this;try (simp)
     repeat ((first|refine sR ?_|apply sC|apply sX);simp)
     refine sD (h1 _ _) ?_;simp;rw[e1];try (simp[f1,f2,f3,g1,g2,g3])
     repeat ((first|refine sR ?_|apply sC|apply sX);simp[f1,f2,f3,g1,g2,g3])
     refine sT (sH ?_);simp
    have g3:¬(10:Int)<l.length:=by omega
    try (simp)
    repeat ((first|refine sR ?_|apply sC|apply sX);simp)
    refine sD (h1 _ _) ?_;simp;rw[e1];try (simp[f1,f2,f3,g1,g2,g3])
    repeat ((first|refine sR ?_|apply sC|apply sX);simp[f1,f2,f3,g1,g2,g3])
    apply sE;exact⟨⟨by rw[<-Bool.not_eq_true,dec];omega,by rw[<-Bool.not_eq_true,dec];omega⟩,wM (nr0 _) rfl (by simp[zB,ToL,lk]) (by simp[zB,aC,lk])⟩
   have g1:¬(3:Int)<l.length:=by omega
   have g3:¬(10:Int)<l.length:=by omega
   try (simp)
   repeat ((first|refine sR ?_|apply sC|apply sX);simp)
   refine sD (h1 _ _) ?_;simp;rw[e1];try (simp[f1,f2,f3,g1,g3])
   repeat ((first|refine sR ?_|apply sC|apply sX);simp[f1,f2,f3,g1,g3])
   apply sE;exact⟨⟨by rw[<-Bool.not_eq_true,dec];omega,by rw[<-Bool.not_eq_true,dec];omega⟩,wM (nr0 _) rfl (by simp[zB,ToL,lk]) (by simp[zB,aC,lk])⟩
  have f1:¬(3:Int)<L.length:=by omega
  have f3:¬(8:Int)<L.length:=by omega
  by_cases b1:3<l.length
  .have g1:(3:Int)<l.length:=by omega
   by_cases b2:l.length<=8
   .have g2:(l.length:Int)<=8:=by omega
    have:=tj (dec.2 (.inl ⟨b1,b2⟩))
    subst this;try (simp)
    repeat ((first|refine sR ?_|apply sC|apply sX);simp)
    refine sD (h1 _ _) ?_;simp;rw[e1];try (simp[f1,f3,g1,g2])
    repeat ((first|refine sR ?_|apply sC|apply sX);simp[f1,f3,g1,g2])
    refine sT (sH ?_);simp
   have g2:¬(l.length:Int)<=8:=by omega
   by_cases b3:10<l.length
   .have g3:(10:Int)<l.length:=by omega
    have:=tj (dec.2 (.inr b3))
    subst this;try (simp)
    repeat ((first|refine sR ?_|apply sC|apply sX);simp)
    refine sD (h1 _ _) ?_;simp;rw[e1];try (simp[f1,f3,g1,g2,g3])
    repeat ((first|refine sR ?_|apply sC|apply sX);simp[f1,f3,g1,g2,g3])
    refine sT (sH ?_);simp
   have g3:¬(10:Int)<l.length:=by omega
   try (simp)
   repeat ((first|refine sR ?_|apply sC|apply sX);simp)
   refine sD (h1 _ _) ?_;simp;rw[e1];try (simp[f1,f3,g1,g2,g3])
   repeat ((first|refine sR ?_|apply sC|apply sX);simp[f1,f3,g1,g2,g3])
   apply sE;exact⟨⟨by rw[<-Bool.not_eq_true,dec];omega,by rw[<-Bool.not_eq_true,dec];omega⟩,wM (nr0 _) rfl (by simp[zB,ToL,lk]) (by simp[zB,aC,lk])⟩
  have g1:¬(3:Int)<l.length:=by omega
  have g3:¬(10:Int)<l.length:=by omega
  try (simp)
  repeat ((first|refine sR ?_|apply sC|apply sX);simp)
  refine sD (h1 _ _) ?_;simp;rw[e1];try (simp[f1,f3,g1,g3])
  repeat ((first|refine sR ?_|apply sC|apply sX);simp[f1,f3,g1,g3])
  apply sE;exact⟨⟨by rw[<-Bool.not_eq_true,dec];omega,by rw[<-Bool.not_eq_true,dec];omega⟩,wM (nr0 _) rfl (by simp[zB,ToL,lk]) (by simp[zB,aC,lk])⟩
 .obtain⟨p2,p3⟩:=hp;rw[p2,p3,Bool.not_false,b9,b9] at hN;have hL8:L.length<=8:=by simp[yI] at p2;omega
  have hl8:l.length<=10:=by simp[yI] at p3;omega
  simp only[zB];try (simp)
  repeat ((first|refine sR ?_|apply sC|apply sX);simp)
  apply sN;refine sL (aQa t L l nb box tok nt) (fun i=>i<=L.length/\∀r∈L.take i,yZ r=true) (fun i=>L.length-i) 0 ⟨ai _,by simp⟩ wkA ?_;rintro i S ⟨hi,ia⟩ hS;simp only[aQa] at hS;subst hS;have hw:=sW (i:=i) (by omega);by_cases hlt:i<L.length
  .have wo:=aa hlt;have ig:=vZ hlt;have n8:=ah hlt;obtain⟨r,hr⟩:∃r,L[i]=r:=⟨_,rfl⟩
   rw[hr] at wo ig n8;have ow:yZ r=false->N=false:=fun h=>by
    rw[<-hN,Bool.and_eq_false_iff];refine .inl ?_;rw[dz];exact⟨r,wo,by simp[h]⟩
   have ld:yZ r=true->∀y∈L.take (i+1),yZ y=true:=fun hm y hy=>by
    rw[n8] at hy;rcases ap.1 hy with hy|hy
    .exact ia y hy
    .rw[a7.1 hy,hm]
   have q1:=aGN r (h.L r wo);try (simp[hlt,ig,hr,Ru.rowK])
   repeat ((first|refine sR ?_|apply sC|apply sX);simp[hlt,ig,hr,Ru.rowK])
   refine sD (q1 _ _) ?_;simp;cases e2:aEG r
   .have:=ow (by unfold yZ;rw[e2];rfl)
    subst this;try (simp)
    repeat ((first|refine sR ?_|apply sC|apply sX);simp)
    refine sT (sH ?_);simp
   have lp:=aDq (h.L r wo) e2;have q2:=fU r lp;have ww:=lp.rg.n;have xr:=lp.rg.e;try (simp[hlt,ig,hr,Ru.rowK])
   repeat ((first|refine sR ?_|apply sC|apply sX);simp[hlt,ig,hr,Ru.rowK])
   refine sD (q2 _ _) ?_;simp;by_cases e3:cQ r=0
   .have b3:(cQ r==0)=true:=by simp[e3]
    have ri:IntKind.i64.wrap ((r.rg.nodes.length:Int)+(r.rg.edges.length:Int))=(r.rg.nodes.length:Int)+(r.rg.edges.length:Int):=aM (by omega) (by omega)
    by_cases e4:5<r.rg.nodes.length+r.rg.edges.length
    .have b4:(5:Int)<(r.rg.nodes.length:Int)+(r.rg.edges.length:Int):=by omega
     have:=ow (by unfold yZ;rw[e2,bv e3,bv e4];rfl)
     subst this;try (simp[b3,b4,hlt,ig,hr,Ru.rowK,ri])
     repeat ((first|refine sR ?_|apply sC|apply sX);simp[b3,b4,hlt,ig,hr,Ru.rowK,ri])
     refine sT (sH ?_);simp
    .have b4:¬(5:Int)<(r.rg.nodes.length:Int)+(r.rg.edges.length:Int):=by omega
     try (simp[b3,b4,hlt,ig,hr,Ru.rowK,ri,hw])
     repeat ((first|refine sR ?_|apply sC|apply sX);simp[b3,b4,hlt,ig,hr,Ru.rowK,ri,hw])
     apply sE;exact⟨i+1,⟨hlt,ld (by unfold yZ;rw[e2,bk e4];simp)⟩,by omega,wkA⟩
   .have b3:(cQ r==0)=false:=by simp[e3]
    try (simp[b3,hw])
    repeat ((first|refine sR ?_|apply sC|apply sX);simp[b3,hw])
    apply sE;exact⟨i+1,⟨hlt,ld (by unfold yZ;rw[e2,bk e3];rfl)⟩,by omega,wkA⟩
  .have:i=L.length:=by omega
   subst this;rw[bh] at ia;rw[aq.2 ia,b9] at hN;try (simp)
   repeat ((first|refine sR ?_|apply sC|apply sX);simp)
   apply sN;refine sL (aDO l nb box tok nt) (fun i=>i<=l.length/\∀c∈l.take i,aDa c=true) (fun i=>l.length-i) 0 ⟨ai _,by simp⟩ wkA ?_;rintro j S ⟨hj,pi⟩ hS;simp only[aDO] at hS;subst hS;have hw:=sW (i:=j) (by omega);by_cases hlt:j<l.length
   .have hcm:=aa hlt;have ig:l[j]?=some l[j]:=ab hlt
    have n8:=ah hlt;obtain⟨c,hc⟩:∃c,l[j]=c:=⟨_,rfl⟩
    rw[hc] at hcm ig n8;have q1:=aG6 c (h.l c hcm);try (simp[hlt,ig,hc])
    repeat ((first|refine sR ?_|apply sC|apply sX);simp[hlt,ig,hc])
    refine sD (q1 _ _) ?_;simp;cases e2:aDa c
    .have:N=false:=by
      rw[<-hN,dz];exact⟨c,hcm,by simp[e2]⟩
     subst this;try (simp)
     repeat ((first|refine sR ?_|apply sC|apply sX);simp)
     refine sT (sH ?_);simp
    .try (simp[hw])
     repeat ((first|refine sR ?_|apply sC|apply sX);simp[hw])
     apply sE;refine⟨j+1,⟨hlt,fun y hy=>?_⟩,by omega,wkA⟩;rw[n8] at hy;rcases ap.1 hy with hy|hy
     .exact pi y hy
     .rw[a7.1 hy,e2]
   .have:j=l.length:=by omega
    subst this;rw[bh] at pi;rw[aq.2 pi] at hN;try (simp)
    repeat ((first|refine sR ?_|apply sC|apply sX);simp)
    refine sT (sH ?_);simp[<-hN]
theorem yD(xs:List Co)(hx:xs.length<=1000000)(tok:Tks)(nt:Nat):cZ prog 13 [.d (bR xs)] tok nt (.osl 5 (rCo xs) (.tok nt)) (upd tok nt true) (nt+1):=by
 intro box nb;have main:aD prog 13 [.d (bR xs)] ⟨box,nb,tok,nt⟩ fun v m=>(v=.osl 5 (rCo xs) (.tok nt)/\m=⟨box,nb,upd tok nt true,nt+1⟩)∨(xs=[]/\v=.osl 0 [] .full/\m=⟨box,nb,tok,nt⟩):=by
  refine sI func13 ntmps13 fun Hb Ht=>?_
  refine sR ?_;simp;refine sR ?_;simp;refine⟨?_,fun h=>?_⟩
  .apply sC;simp;refine sR ?_;simp;refine⟨by omega,?_⟩;apply sN;refine AL.ret ?_;try simp only[AU]
   refine⟨by simp,(Fin.own (by simp[aP,bI];rfl) Hb rfl (by simp) ?_).mono fun v m hq=>.inl hq⟩;simp
  .apply sC;simp;refine sR ?_;simp;apply sN;refine AL.ret ?_;try simp only[AU]
   refine⟨by simp,(Fin.own (by simp[aP,bI];rfl) Hb rfl (nr0 _) ?_).mono fun v m hq=>.inr ⟨h,hq.1,hq.2⟩⟩;simp
 refine main.conv fun v m h=>?_
 rcases h with ⟨rfl,rfl⟩|⟨rfl,rfl,rfl⟩
 .exact⟨_,_,Conv.refl _ _,rfl,rfl⟩
 .exact⟨_,_,Conv.newtok 0 5 box nb tok nt,rfl,rfl⟩
theorem wC(xs:List Ru)(hx:xs.length<=1000000)(tok:Tks)(nt:Nat):cZ prog 12 [.d (eE xs)] tok nt (.osl 25 (xs.map Ru.rowK) (.tok nt)) (upd tok nt true) (nt+1):=by
 intro box nb;have main:aD prog 12 [.d (eE xs)] ⟨box,nb,tok,nt⟩ fun v m=>(v=.osl 25 (xs.map Ru.rowK) (.tok nt)/\m=⟨box,nb,upd tok nt true,nt+1⟩)∨(xs=[]/\v=.osl 0 [] .full/\m=⟨box,nb,tok,nt⟩):=by
  refine sI func12 ntmps12 fun Hb Ht=>?_
  refine sR ?_;simp;refine sR ?_;simp;refine⟨?_,fun h=>?_⟩
  .apply sC;simp;refine sR ?_;simp;refine⟨by omega,?_⟩;apply sN;refine AL.ret ?_;try simp only[AU]
   refine⟨by simp,(Fin.own (by simp[aP,bI];rfl) Hb rfl (by simp) ?_).mono fun v m hq=>.inl hq⟩;simp
  .apply sC;simp;refine sR ?_;simp;apply sN;refine AL.ret ?_;try simp only[AU]
   refine⟨by simp,(Fin.own (by simp[aP,bI];rfl) Hb rfl (nr0 _) ?_).mono fun v m hq=>.inr ⟨h,hq.1,hq.2⟩⟩;simp
 refine main.conv fun v m h=>?_
 rcases h with ⟨rfl,rfl⟩|⟨rfl,rfl,rfl⟩
 .exact⟨_,_,Conv.refl _ _,rfl,rfl⟩
 .exact⟨_,_,Conv.newtok 0 25 box nb tok nt,rfl,rfl⟩
def lpR:Ru:=⟨⟨#[114]⟩,⟨[1],[]⟩,[],0,[],⟨[1],[⟨1,0,0⟩]⟩,[],0,[],⟨[0],[]⟩,⟨[0],[]⟩,true,sZ 1 []⟩
def lpC:Co:=⟨⟨#[99]⟩,1,⟨[1],[⟨1,0,0⟩]⟩,[]⟩
theorem aOv:(eM exT [lpR] [lpC]).2=10/\(gS exT [lpR] [lpC]).2=0/\(gS exT [lpR] [lpC]).1.length=1/\(gS exT [lpR] [lpC]).1.map (fun o=>o.g.nodes)=[[1]]:=by decide +kernel
theorem aO1:(jX exT [lpR] [lpC] 1).2=0/\(jX exT [lpR] [lpC] 1).1.map (fun c=>c.name.data.toList)=[[99],[115,49]]:=by decide +kernel
theorem aOz:(eM exT [lpR] (jX exT [lpR] [lpC] 1).1).2=0/\(eM exT [lpR] (jX exT [lpR] [lpC] 1).1).1.map (fun d=>d.con)=[1]:=by decide +kernel
theorem aKB:lpR.Fit:=⟨⟨by decide,by decide⟩,⟨by decide,by decide⟩,⟨by decide,by decide⟩,⟨by decide,by decide⟩,by rw[bP];simp[lpR],by rw[bP];simp[lpR],by rw[bP];simp[lpR],by rw[bP];simp[lpR]⟩
theorem aLk:lpC.Fit:=⟨by decide,⟨by decide,by decide⟩,by decide,by simp[lpC]⟩
theorem aLM:bL exT [lpR] [lpC]:=⟨aKV,fun r hr=>by rw[a7.1 hr];exact aKB,fun c hc=>by rw[a7.1 hc];exact aLk⟩
set_option maxRecDepth 100000 in
theorem aHu:DC 35 [] (.tup [.d (eE [lpR]),.d (bR [lpC])]):=by
 intro tok nt box nb;refine sI func35 ntmps35 fun Hb Ht=>?_
 repeat first|simp|refine sR ?_
 try refine⟨rfl,?_⟩
 repeat first|simp|refine sR ?_
 try refine⟨rfl,?_⟩
 repeat first|simp|refine sR ?_
 try refine⟨rfl,?_⟩
 repeat first|simp|refine sR ?_
 refine sT (sH ?_);simp[eE,bR,Ru.rowK,lpR,lpC,xts,sZ,zU,ints,AM.edges,iE,iG,Cd.kind,Cd.kids,Cd.m,Cd.g,Cd.sl,Cd.vars,Cd.te,E.cells];exact⟨aEx (by simp[wE,aBN,xK]),aEx (by simp[wE,aBN,xK,xts])⟩
theorem aCN{t:Ty}{L:List Ru}(ht:t.Fit)(Dv:∀r∈L,r.Fit)(hT:tyE t=0)(mv:∀r∈L,ruE t r=0)(hL:L.length<=6):∀(n:Nat) (l:List Co) (D:List Du),l.length<=8->(∀c∈l,c.Fit)->qQ D->(zM t L n l D).1.length<=8/\∀c∈(zM t L n l D).1,c.Fit
 | 0,l,D,hl,hf,hD=>by
  rw[zM];split
  .exact⟨hl,hf⟩
  .exact⟨by simp,fun c hc=>absurd hc (by simp)⟩
 | n+1,l,D,hl,hf,hD=>by
  rw[zM];split
  .exact⟨hl,hf⟩
  .split
   .exact⟨by simp,fun c hc=>absurd hc (by simp)⟩
   .split
    .exact⟨by simp,fun c hc=>absurd hc (by simp)⟩
    .have h3:=mS (t:=t) (xs:=jL t l D) hl;have h4:=nD (t:=t) (xs:=jL t l D) hl hf (aCl hD).2;exact aCN ht Dv hT mv hL n _ _ h3 h4 (oM ⟨ht,Dv,h4⟩ hT mv hL h3)
theorem aI2{t:Ty}{L:List Ru}{l:List Co}(h:bL t L l)(n:Int):bL t L (jX t L l n).1/\(jX t L l n).1.length<=8:=by
 have nil:bL t L ([]:List Co):=⟨h.t,h.L,fun c hc=>absurd hc (by simp)⟩
 unfold jX;split
 .exact⟨nil,by simp⟩
 .rename_i h0;split
  .exact⟨nil,by simp⟩
  .have m7:fG t L l=0:=dw fun hne=>by
    unfold dE at h0;rw[af hne] at h0;exact h0 hne
   obtain⟨hT,mv,_,h6,h8⟩:=jB m7;obtain⟨a,b⟩:=aCN h.t h.L hT mv h6 n.toNat l _ h8 h.l (eV h);exact⟨⟨h.t,h.L,b⟩,a⟩
set_option maxRecDepth 100000 in
theorem oT:DC 9 [] (B true):=by
 intro tok nt box nb;have hE:=aDj;have hL:=aHu;have hf:=aLM;have h1:=rF exT [lpR] [lpC] hf (by decide) (by decide) (eV hf);have h2:=aFX exT [lpR] [lpC] hf (by decide) (by decide) (eV hf);have h3:=zL exT [lpR] [lpC] hf (by decide) (by decide) 1;obtain⟨a1,a2,a3,a4⟩:=aOv;obtain⟨b1,b2⟩:=aO1;obtain⟨c1,c2⟩:=aOz;obtain⟨uk,hl2⟩:=aI2 hf 1;have h4:=rF exT [lpR] (jX exT [lpR] [lpC] 1).1 uk (by decide) (by omega) (eV uk);obtain⟨Q,hQ⟩:∃Q,eM exT [lpR] (jX exT [lpR] [lpC] 1).1=Q:=⟨_,rfl⟩
 obtain⟨S,hS⟩:∃S,jX exT [lpR] [lpC] 1=S:=⟨_,rfl⟩
 obtain⟨O,hO⟩:∃O,gS exT [lpR] [lpC]=O:=⟨_,rfl⟩
 obtain⟨P,hP⟩:∃P,eM exT [lpR] [lpC]=P:=⟨_,rfl⟩
 rw[hQ] at c1 c2 h4;rw[hS] at b1 b2 h3 h4 hl2;rw[hO] at a2 a3 a4 h2;rw[hP] at a1 h1;obtain⟨O1,O2⟩:=O;obtain⟨S1,S2⟩:=S;obtain⟨Q1,Q2⟩:=Q;simp only at a2 a3 a4 b1 b2 c1 c2 h2 h3 h4 hl2;obtain⟨o,rfl⟩:=List.length_eq_one_iff.1 a3;have a4:o.g.nodes=[1]:=by simpa using a4
 subst a2 b1 c1;have Ce:Q1.length=1:=by have:=d8 List.length c2;simpa using this
 obtain⟨q,rfl⟩:=List.length_eq_one_iff.1 Ce;have c2:q.con=1:=by simpa using c2
 have n6:S1.length=2:=by have:=d8 List.length b2;simpa using this
 obtain⟨s0,s1,rfl⟩:∃a b,S1=[a,b]:=by
  match S1,n6 with
  | [a,b],_=>exact⟨a,b,rfl⟩
 have b2:s1.name=⟨#[115,49]⟩:=by
  simp at b2;have h5:=b2.2;obtain⟨⟨⟨w⟩⟩,k,g,x⟩:=s1;simp at h5;simp[h5]
 have mt:=aC0 o.g.nodes [1] (by rw[a4];decide);rw[a4] at mt;clear hQ hS hO hP;refine sI func9 ntmps9 fun Hb Ht=>?_
 repeat first|simp|refine sR ?_
 refine sD (hE _ _) ?_;repeat first|simp|refine sR ?_
 refine sD (hL _ _) ?_;repeat first|simp|refine sR ?_
 refine sD (h1 _ _) ?_;repeat first|simp|refine sR ?_
 refine sD (h2 _ _) ?_;repeat first|simp|refine sR ?_
 refine sD (h3 _ _) ?_;repeat first|simp|refine sR ?_
 refine sD (h4 _ _) ?_;simp;try (simp[a1,a4,b2,c2])
 repeat ((first|refine sR ?_|apply sC|apply sX);simp[a1,a4,b2,c2])
 refine aN.sub (args':=[.d (ints [1]),.d (ints [1])]) ⟨Sub.refl _,Sub.data _ _ _,trivial⟩ ?_;refine sD (mt _ _) ?_;simp;try (simp[b2,c2])
 repeat ((first|refine sR ?_|apply sC|apply sX);simp[b2,c2])
 refine sT (sH ?_);simp[b2,c2]
abbrev aGe(t:Ty)(L:List Ru)(l:List Co):AV:=.agg [.d (nts t.nodes),.d (ets t.edges),.d (eE L),.d (bR l)]
theorem aC4(t:Ty)(L:List Ru)(l:List Co)(h:oU t L l):DC 10 [aGe t L l] (B (aD8 t L l)):=by
 intro tok nt box nb;have h1:=aG8 t L l h;refine sI func10 ntmps10 fun Hb Ht=>?_
 repeat first|simp|refine sR ?_
 refine sD (h1 _ _) ?_;simp;try (simp)
 repeat ((first|refine sR ?_|apply sC|apply sX);simp)
 refine sT (sH ?_);simp
theorem aKf(t:Ty)(L:List Ru)(l:List Co):((gS t L l).2≠0/\(eM t L l).2=(gS t L l).2)∨((gS t L l).2=0/\(((eM t L l).2=0/\(gS t L l).1=[])∨((eM t L l).2=10/\(gS t L l).1≠[]))):=by
 by_cases h:(dE t L l).2=0
 .refine .inr ⟨by unfold gS;rw[ac (by simp[h])],?_⟩;have ho:(gS t L l).1=jL t l (dE t L l).1:=by unfold gS;rw[ac (by simp[h])]
  have hz:=aA7 (t:=t) (L:=L) (l:=l);rw[ho];by_cases h2:(eM t L l).2=0
  .exact .inl ⟨h2,(hz.1 h2).2⟩
  .refine .inr ⟨?_,fun h3=>h2 (hz.2 ⟨h,h3⟩)⟩;unfold eM at h2 ⊢;rw[ac (by simp[h])] at h2 ⊢;unfold aBZ at h2 ⊢;split at h2
   .exact absurd rfl h2
   .rename_i h4;rw[ac h4]
 .refine .inl ?_;unfold gS eM;rw[af h,af h];exact⟨h,rfl⟩
theorem aIR{t:Ty}{L:List Ru}{l:List Co}(h:bL t L l):(gS t L l).1.length<=100000000/\∀o∈(gS t L l).1,o.g.Fit:=by
 unfold gS;split
 .exact⟨by simp,fun o ho=>absurd ho (by simp)⟩
 .exact aCl (eV h)
theorem aJ6{t:Ty}(ht:t.Fit){p g:Gr}(hp:p.Fit)(hg:g.Fit){inj:Bool}:(iX t p g inj).1.Fit:=by
 by_cases h:(iX t p g inj).2=0
 .have hi:=(aAl ht hp hg h).2;have h1:=hi.n;have h2:=hi.e;have h3:=hp.n;have h4:=hp.e;exact⟨by omega,by omega⟩
 .unfold iX at h ⊢;split
  .exact⟨by simp,by simp⟩
  .rename_i h1;rw[ac h1] at h;cases e:aBv t p g inj with
   | nil=>exact⟨by simp[hdM],by simp[hdM]⟩
   | cons m r=>rw[e] at h;exact absurd rfl h
theorem aH4{t:Ty}{L:List Ru}{l:List Co}(h:bL t L l){d:Du}(hd:d.o.g.Fit):(eD t l d).1.Fit:=by
 unfold eD;split
 .split
  .exact⟨hd,aJ6 h.t (h.l _ (aa _)).g hd⟩
  .exact⟨⟨by simp[zOb],by simp[zOb]⟩,⟨by simp,by simp⟩⟩
 .exact⟨hd,⟨by simp,by simp⟩⟩
theorem aIP{t:Ty}{L:List Ru}{l:List Co}(h:bL t L l):(eM t L l).1.length<=100000000/\∀x∈(eM t L l).1,x.Fit:=by
 have hD:=eV h;unfold eM;split
 .exact⟨by simp,fun o ho=>absurd ho (by simp)⟩
 .unfold aBZ;split
  .refine⟨by rw[br];exact hD.n,fun x hx=>?_⟩;obtain⟨d,hd,rfl⟩:=bc.1 hx;exact aH4 h (hD.g d hd)
  .exact⟨by simp,fun o ho=>absurd ho (by simp)⟩
set_option maxRecDepth 100000 in
theorem aMu(t:Ty)(L:List Ru)(l:List Co)(h:oU t L l)(tok:Tks)(nt:Nat):∃tok' nt',cZ prog 3 [aGe t L l] tok nt (B true) tok' nt':=by
 refine⟨tok,nt,?_⟩;intro box nb;have hlt:=aC4 t L l h;refine sI func3 ntmps3 fun Hb Ht=>?_
 repeat first|simp|refine sR ?_
 refine sD (oT _ _) ?_;simp;try (simp)
 repeat ((first|refine sR ?_|apply sC|apply sX);simp)
 refine sD (hlt _ _) ?_;simp;cases h1:aD8 t L l
 .try (simp)
  repeat ((first|refine sR ?_|apply sC|apply sX);simp)
  refine sD (oT _ _) ?_;simp;try (simp)
  repeat ((first|refine sR ?_|apply sC|apply sX);simp)
  refine sT (sH ?_);simp
 obtain⟨hf,h8,yi⟩:=aDE h h1;have q1:=wC L (by omega);have q2:=yD l (by omega);have q3:=aFX t L l hf (by omega) (by omega) (eV hf);have q4:=aJV t L l hf (by omega) (by omega);have q5:=rF t L l hf (by omega) (by omega) (eV hf);obtain⟨of1,of2⟩:=aIR hf;have q6:=aHa (gS t L l).1 (gS t L l).1 of1 of2;rw[aI4] at q6;have jo:=aKf t L l;generalize gS t L l=O at *;generalize eM t L l=P at *;have htk:=(TK.start Ht).full.app.full.app;try (simp)
 repeat ((first|refine sR ?_|apply sC|apply sX);simp)
 refine sD (q1 _ _) ?_;simp;try (simp)
 repeat ((first|refine sR ?_|apply sC|apply sX);simp)
 refine sD (q2 _ _) ?_;simp;try (simp)
 repeat ((first|refine sR ?_|apply sC|apply sX);simp)
 refine aN.sub (args':=[t.av,.d (eE L),.d (bR l)]) ⟨Sub.refl _,Sub.data _ _ _,Sub.data _ _ _,trivial⟩ ?_;refine sD (q3 _ _) ?_;simp;try (simp)
 repeat ((first|refine sR ?_|apply sC|apply sX);simp)
 refine sD (q4 _ _) ?_;simp;try (simp)
 repeat ((first|refine sR ?_|apply sC|apply sX);simp)
 refine sD (q6 _ _) ?_;simp;try (simp)
 repeat ((first|refine sR ?_|apply sC|apply sX);simp)
 refine sD (q5 _ _) ?_;simp;rcases jo with ⟨e1,e2⟩|⟨e1,⟨e2,e3⟩|⟨e2,e3⟩⟩
 .have b1:(O.2 != 0)=true:=by simp[e1]
  try (simp[b1,e2])
  repeat ((first|refine sR ?_|apply sC|apply sX);simp[b1,e2])
  refine sT (sG Hb Ht htk.old htk.le ?_);simp
 .try (simp[e1,e2,e3])
  repeat ((first|refine sR ?_|apply sC|apply sX);simp[e1,e2,e3])
  refine sT (sG Hb Ht htk.old htk.le ?_);simp
 .have e4:¬(O.1.length:Int)=0:=fun h=>e3 (bg (by omega))
  have e5:0<O.1.length:=dg.2 e3
  try (simp[e1,e2,e3,e4,e5])
  repeat ((first|refine sR ?_|apply sC|apply sX);simp[e1,e2,e3,e4,e5])
  refine sT (sG Hb Ht htk.old htk.le ?_);simp[e3,e4,e5]
set_option maxRecDepth 100000 in
theorem lawProve44_c(t:Ty)(L:List Ru)(l:List Co)(h:oU t L l)(tok:Tks)(nt:Nat):∃tok' nt',cZ prog 5 [aGe t L l] tok nt (B true) tok' nt':=by
 refine⟨tok,nt,?_⟩;intro box nb;have hlt:=aC4 t L l h;refine sI func5 ntmps5 fun Hb Ht=>?_
 repeat first|simp|refine sR ?_
 refine sD (oT _ _) ?_;simp;try (simp)
 repeat ((first|refine sR ?_|apply sC|apply sX);simp)
 refine sD (hlt _ _) ?_;simp;cases h1:aD8 t L l
 .try (simp)
  repeat ((first|refine sR ?_|apply sC|apply sX);simp)
  refine sD (oT _ _) ?_;simp;try (simp)
  repeat ((first|refine sR ?_|apply sC|apply sX);simp)
  refine sT (sH ?_);simp
 obtain⟨hf,h8,yi⟩:=aDE h h1;have q1:=wC L (by omega);have q2:=yD l (by omega);have q3:=rF t L l hf (by omega) (by omega) (eV hf);have q4:=aGX t L l hf (by omega) (by omega);obtain⟨pf1,pf2⟩:=aIP hf;have q5:=aJF (eM t L l).1 (eM t L l).1 pf1 pf2;rw[aIL] at q5;have q6:=aHN t L l hf (by omega) (by omega) (eV hf) (eM t L l).1 pf2;have Br:=fun h0=>aKe hf.t (fun c hc=>(hf.l c hc).g) (eV hf).g (L:=L) h0
 generalize eM t L l=P at *;have htk:=(TK.start Ht).full.app.full.app;try (simp)
 repeat ((first|refine sR ?_|apply sC|apply sX);simp)
 refine sD (q1 _ _) ?_;simp;try (simp)
 repeat ((first|refine sR ?_|apply sC|apply sX);simp)
 refine sD (q2 _ _) ?_;simp;try (simp)
 repeat ((first|refine sR ?_|apply sC|apply sX);simp)
 refine aN.sub (args':=[t.av,.d (eE L),.d (bR l)]) ⟨Sub.refl _,Sub.data _ _ _,Sub.data _ _ _,trivial⟩ ?_;refine sD (q3 _ _) ?_;simp;try (simp)
 repeat ((first|refine sR ?_|apply sC|apply sX);simp)
 refine sD (q4 _ _) ?_;simp;try (simp)
 repeat ((first|refine sR ?_|apply sC|apply sX);simp)
 refine sD (q5 _ _) ?_;simp;by_cases e1:P.2=0
 .rw[Br e1] at q6;try (simp[e1])
  repeat ((first|refine sR ?_|apply sC|apply sX);simp[e1])
  refine sD (q6 _ _) ?_;simp;try (simp)
  repeat ((first|refine sR ?_|apply sC|apply sX);simp)
  refine sT (sG Hb Ht htk.old htk.le ?_);simp
 .have b1:(P.2 != 0)=true:=by simp[e1]
  try (simp[b1,e1])
  repeat ((first|refine sR ?_|apply sC|apply sX);simp[b1,e1])
  refine sT (sG Hb Ht htk.old htk.le ?_);simp[b1]
open Go Go.Proofs Go.ChangeShapes
open Go.Proofs.Tryz
theorem aNI(r:Ru):r.rowD=r.rowK:=by rw[Ru.rowD,r.c.cells_eq];rfl
def aQK:Rdr prog 26 (List Ru):=aSI.sliceN 25 underlying26 (by kernel_rfl) (by kernel_rfl)
def aNw:Rdr prog 27 (List Co):=aSO.sliceN 5 underlying27 (by kernel_rfl) (by kernel_rfl)
def aNJ:Rdr prog 29 (Ty × List Ru × List Co):=Rdr.struct3 aSL aQK aNw underlying29 rfl rfl rfl rfl (by kernel_rfl) (by kernel_rfl) (by kernel_rfl)
set_option maxRecDepth 100000 in
theorem arg_case{ps:Array TypeId}{args:Array Value}{W:World}{base base':Nat}{sp:Nat->Bool}{i7:Bool}{H:Type}{enc:TypeId × Value->H}(hval:∀(j:Nat) t v,ps[j]?=some t->args[j]?=some v->Value.okWide prog W .any base t v)(j:Nat)(v:Value)(hp:ps[j]?=some 29)(ha:args[j]?=some v){d:DataW H}{p:List MemPlace}(h:DataW.Trod enc prog W base' sp i7 29 v d p)(iw:gJ prog 29 d):∃t L l,oU t L l/\RV G0 W (aGe t L l) v:=by
 refine Exists.elim (aKl hval j 29 v hp ha aNJ aKZ h iw) fun x hx=>⟨x.1,x.2.1,x.2.2,?_,?_⟩
 .obtain⟨a1,a2,a3⟩:=hx.1;have hr:reachBytes=140737488351232:=rfl
  have b2:x.2.1.length*prog.bytesOf 52<=reachBytes:=a2.2
  rw[show prog.bytesOf 52=512 by kernel_rfl] at b2;have b3:x.2.2.length*prog.bytesOf 56<=reachBytes:=a3.2
  rw[show prog.bytesOf 56=96 by kernel_rfl] at b3;exact⟨by omega,by omega,a1,a2.1,a3.1⟩
 .have h2:RV G0 W (.agg [.d (nts x.1.nodes),.d (ets x.1.edges),.d (.sl 25 (x.2.1.map Ru.rowD)),.d (.sl 5 (x.2.2.map Co.rowD))]) v:=hx.2
  rw[show Ru.rowD=Ru.rowK from funext aNI] at h2;exact h2
end Go.AM
