import Derived.Test.YtchfmhhbiealcaaGreatDoorPIB11
set_option linter.unusedSimpArgs false
set_option linter.unusedVariables false
namespace Go.AM
open Go Go.Proofs
open Go.Proofs.Tryz
def Sr.fnR(s:Sr):Nat->List Int->List Mo->List Mo
 | 0,N,out=>if out.length=s.most+1 then out else if s.fit N=true then iJ (s.most+1) (s.okE N) s.g.edges.length N s.p.edges.length [] out else out
 | r+1,N,out=>if out.length=s.most+1 then out else if s.fit N=true then (List.range s.g.nodes.length).foldl (fun out k=>if s.okN N k=true then s.fnR r (N++[(k:Int)]) out else out) out else out
abbrev Sr.fnN(s:Sr):Nat->List Int->List Mo->List Mo:=zP (s.most+1) s.okN (fun N k=>s.fit (N++[(k:Int)])) s.g.nodes.length s.okE s.g.edges.length s.p.edges.length
theorem Sr.fnR_eq(s:Sr):∀(r:Nat) (N:List Int) (out:List Mo),s.fnR r N out=if s.fit N=true then s.fnN r N out else out
 | 0,N,out=>by
  unfold Sr.fnR Sr.fnN zP;by_cases h:out.length=s.most+1
  .rw[af h];cases s.p.edges.length<;>simp[iJ,h]
  .rw[ac h]
 | r+1,N,out=>by
  unfold Sr.fnR Sr.fnN zP;by_cases h:out.length=s.most+1
  .rw[af h,af h];simp
  .rw[ac h,ac h];have e:(fun (out:List Mo) (k:Nat)=>if s.okN N k=true then s.fnR r (N++[(k:Int)]) out else out)=fun out k=>if s.okN N k=true then (if s.fit (N++[(k:Int)])=true then s.fnN r (N++[(k:Int)]) out else out) else out:=by
    funext out k
    rw[Sr.fnR_eq s r]
   rw[e]
theorem Sr.fnR_len{s:Sr}:∀{r:Nat} {N:List Int} {out:List Mo},out.length<=s.most+1->(s.fnR r N out).length<=s.most+1
 | 0,N,out,h=>by
  unfold Sr.fnR;split
  .exact h
  .split
   .exact mW h
   .exact h
 | r+1,N,out,h=>by
  unfold Sr.fnR;split
  .exact h
  .split
   .have key:∀(l:List Nat) (out:List Mo),out.length<=s.most+1->(l.foldl (fun out k=>if s.okN N k=true then s.fnR r (N++[(k:Int)]) out else out) out).length<=s.most+1:=by
     intro l;induction l with
     | nil=>exact fun _ h=>h
     | cons x l ih =>
      intro out h;rw[List.foldl_cons];refine ih _ ?_;split
      .exact Sr.fnR_len h
      .exact h
    exact key _ _ h
   .exact h
theorem aCC(s:Sr)(h:s.Ok)(N:List Int)(Dh:N.length<=s.p.nodes.length)(out:List Mo)(own:Own)(box:Bxs)(k:Nat)(tok:Tks)(nt:Nat)(hk:box k=some [s.row out own]):
  cW prog 167 [.ptr k 0 0,.d (ints N)] box tok nt (B (s.fit N)) tok nt :=
 fun box' nb he=>aIE s h N Dh out own box' nb k tok nt (he k _ hk)
def Sr.stN(s:Sr)(N:List Int)(r:Nat)(out:List Mo)(k:Nat):List Mo:=if s.okN N k=true then s.fnR r (N++[(k:Int)]) out else out
def aMN(s:Sr)(N:List Int)(nb k:Nat)(box:Bxs)(x:aQL):AS :=
 ⟨tl [(0,.ptr k 0 0),(1,.d (ints N)),(4,I N.length),(5,I x.i)],lb nb (upd box k (some [s.row x.out x.own])) [],x.tok,x.nt⟩
set_option maxRecDepth 100000 in
theorem aHi(s:Sr)(h:s.Ok):∀(r:Nat) (N:List Int) (out:List Mo) (own:Own) (box:Bxs) (nb k:Nat) (tok:Tks) (nt:Nat),N.length+r=s.p.nodes.length->out.length<=s.most+1 ->
  box k=some [s.row out own]->own.liveP tok->aD prog 110 [.ptr k 0 0,.d (ints N)] ⟨box,nb,tok,nt⟩ (QSr s box nb k tok nt own (s.fnR r N out)):=by
 intro r;have hm:=h.m;have so:=h.p.n;have rd:=h.p.e;have rc:=h.g.n;have hge:=h.g.e;induction r with
 | zero =>
  intro N out own box nb k tok nt hN ho hk ip;have ix:box=upd box k (some [s.row out own]):=(cM box k _ hk).symm
  have hf:=aCC s h N (by omega) out own box k tok nt hk;have Bg:(N.length:Int)=s.p.nodes.length:=by omega
  refine sI func110 ntmps110 fun Hb Ht=>?_
  have g9:=bC Hb hk;by_cases hbig:s.most<out.length
  .have jr:out.length=s.most+1:=by omega
   try (simp[lO g9,hk,hbig])
   repeat ((first|refine sR ?_|apply sC|apply sX);simp[lO g9,hk,hbig])
   apply sN;refine AL.ret ?_;try simp only[AU]
   refine⟨by simp,(Fin.own (vs:=[]) (av:=.tup []) (by simp[aP,bI]) Hb rfl (nr0 _) (by simp)).mono fun v m hq=>⟨hq.1,own,tok,nt,?_,Adv.refl ip Ht⟩⟩;rw[hq.2,Sr.fnR,af jr,<-ix]
  .have kq:¬out.length=s.most+1:=by omega
   have mq:=hf.ext ((Ext.refl box).lb Hb [])
   refine sR ?_;simp[lO g9,hk,hbig];refine aN.of_r mq ?_;cases hR:s.fit N
   .try (simp[lO g9,hk,hbig])
    repeat ((first|refine sR ?_|apply sC|apply sX);simp[lO g9,hk,hbig])
    apply sN;refine AL.ret ?_;try simp only[AU]
    refine⟨by simp,(Fin.own (vs:=[]) (av:=.tup []) (by simp[aP,bI]) Hb rfl (nr0 _) (by simp)).mono fun v m hq=>⟨hq.1,own,tok,nt,?_,Adv.refl ip Ht⟩⟩;rw[hq.2,Sr.fnR,ac kq,hR,ac (by simp),<-ix]
   .have b1:((N.length:Int)==s.p.nodes.length)=true:=by simp[Bg]
    try (simp[lO g9,hk,hbig,b1])
    repeat ((first|refine sR ?_|apply sC|apply sX);simp[lO g9,hk,hbig,b1])
    refine aN.sub (args':=[.ptr k 0 0,.d (ints N),.d (ints [])]) ⟨Sub.refl _,Sub.refl _,Sub.nil _ _ _,trivial⟩ ?_;refine aN.of_a (aGD s h N (by omega) s.p.edges.length [] out own _ _ k _ _ (by simp) ho (by simp only[lO g9,hk]) ip) ?_;rintro v m' ⟨rfl,ja,i6,jz,rfl,i4⟩;simp[uL g9,bD];apply sN;refine AL.ret ?_;try simp only[AU]
    refine⟨by simp,(Fin.gen (vs:=[]) (av:=.tup []) (tok':=i6) (nt':=jz) (by simp[aP,bI]) ?_ i4.le (nr0 _) (fun t h=>⟨h,.inl rfl⟩) (dY (by simp)) (by simp)).mono fun v m hq=>⟨hq.1,ja,i6,jz,?_,i4⟩⟩
    .rw[<-uL g9,Hb]
    .rw[hq.2,Sr.fnR,ac kq,hR,af rfl]
 | succ r ih =>
  intro N out own box nb k tok nt hN ho hk ip;have ix:box=upd box k (some [s.row out own]):=(cM box k _ hk).symm
  have hf:=aCC s h N (by omega) out own box k tok nt hk;have hlt:N.length<s.p.nodes.length:=by omega
  refine sI func110 ntmps110 fun Hb Ht=>?_
  have g9:=bC Hb hk;by_cases hbig:s.most<out.length
  .have jr:out.length=s.most+1:=by omega
   try (simp[lO g9,hk,hbig])
   repeat ((first|refine sR ?_|apply sC|apply sX);simp[lO g9,hk,hbig])
   apply sN;refine AL.ret ?_;try simp only[AU]
   refine⟨by simp,(Fin.own (vs:=[]) (av:=.tup []) (by simp[aP,bI]) Hb rfl (nr0 _) (by simp)).mono fun v m hq=>⟨hq.1,own,tok,nt,?_,Adv.refl ip Ht⟩⟩;rw[hq.2,Sr.fnR,af jr,<-ix]
  .have kq:¬out.length=s.most+1:=by omega
   have mq:=hf.ext ((Ext.refl box).lb Hb [])
   refine sR ?_;simp[lO g9,hk,hbig];refine aN.of_r mq ?_;cases hR:s.fit N
   .try (simp[lO g9,hk,hbig])
    repeat ((first|refine sR ?_|apply sC|apply sX);simp[lO g9,hk,hbig])
    apply sN;refine AL.ret ?_;try simp only[AU]
    refine⟨by simp,(Fin.own (vs:=[]) (av:=.tup []) (by simp[aP,bI]) Hb rfl (nr0 _) (by simp)).mono fun v m hq=>⟨hq.1,own,tok,nt,?_,Adv.refl ip Ht⟩⟩;rw[hq.2,Sr.fnR,ac kq,hR,ac (by simp),<-ix]
   .have b1:((N.length:Int)==s.p.nodes.length)=false:=by simp;omega
    try (simp[lO g9,hk,hbig,b1])
    repeat ((first|refine sR ?_|apply sC|apply sX);simp[lO g9,hk,hbig,b1])
    apply sN;have mh:∀loc,lb nb box loc=lb nb (upd box k (some [s.row out own])) loc:=fun loc=>by rw[<-ix]
    rw[mh];refine sL (aMN s N nb k box) (fun x=>x.i<=s.g.nodes.length/\x.out=(List.range x.i).foldl (s.stN N r) out/\x.out.length<=s.most+1/\Adv tok nt own x.tok x.nt x.own) (fun x=>s.g.nodes.length-x.i)
     ⟨0,out,own,tok,nt⟩ ⟨ai _,rfl,ho,Adv.refl ip Ht⟩ (aS.mk' (nr0 _) (by simp[ToL,lk];exact aI (by rw[lO g9,uS];simp)) (by simp[aC,lk]) (dY rfl)) ?_
    rintro⟨i,ii,im,io,iz⟩ S ⟨hi,jm,kg,ib⟩ hS;simp only[aMN] at hS hi jm kg ib;subst hS;have hw:IntKind.i64.wrap (↑i+1)=((i+1:Nat):Int):=by rw[aM (by omega) (by omega)];omega
    have iq:(List.range (i+1)).foldl (s.stN N r) out=s.stN N r ii i:=by
     rw[jm,cn,ek];rfl
    refine sR ?_;simp[lO g9,uS];apply sC;simp;refine⟨fun iw=>?_,fun hge=>?_⟩
    .have jy:N.length<s.pt.nodes.length:=by rw[h.pn];exact hlt
     have l9:s.g.nodes.getD i 0=s.g.nodes[i]:=by simp[iw]
     have ub:s.p.nodes.getD N.length 0=s.p.nodes[N.length]:=by simp[hlt]
     have vf:s.pt.nodes.getD N.length 0=s.pt.nodes[N.length]:=by simp[jy]
     have rk:=aD6 s ii im N i (by omega) (lb nb (upd box k (some [s.row ii im])) []) k io iz (by simp only[lO g9,uS]);have hbel:=nB s.t s.p.nodes[N.length] (h.np _ (aa hlt)).1 h.tp s.t.nodes.length s.g.nodes[i] (h.ng _ (aa iw)).2 (h.ng _ (aa iw)).2;by_cases p01:0<=s.pt.nodes[N.length]/\s.pt.nodes[N.length]≠(i:Int)
     .obtain⟨p0,p1⟩:=p01;have b2:(s.pt.nodes[N.length] != (i:Int))=true:=by simp[p1]
      have ia:s.okN N i=false:=by simp[Sr.okN,gvB,jy,p0,p1]
      refine sR ?_;simp[lO g9,uS,iw,jy,hlt,p0,b2];apply sC;simp;apply sX;simp only[AU,↓reduceIte];refine sR ?_;simp[hw];apply sE;exact⟨⟨i+1,ii,im,io,iz⟩,⟨iw,by rw[iq,Sr.stN,ia];simp,kg,ib⟩,by simp only;omega,aS.mk' ib.le (by simp[ToL,lk];exact aI (by rw[lO g9,uS];simp)) (by simp[aC,lk]) (dY rfl)⟩
     .have m7:gvB s.pt.nodes N.length i=true:=by
       unfold gvB;rw[vf];by_cases p0:0<=s.pt.nodes[N.length]
       .rw[af p0];simp;by_cases p1:s.pt.nodes[N.length]=(i:Int)
        .exact p1
        .exact absurd ⟨p0,p1⟩ p01
       .rw[ac p0]
      have jp:∀Q,(0<=s.pt.nodes[N.length]->(s.pt.nodes[N.length] != (i:Int))=false->Q)->(¬0<=s.pt.nodes[N.length]->Q)->Q:=by
       intro Q h1 h2;by_cases p0:0<=s.pt.nodes[N.length]
       .refine h1 p0 ?_;by_cases p1:s.pt.nodes[N.length]=(i:Int)
        .simp[p1]
        .exact absurd ⟨p0,p1⟩ p01
       .exact h2 p0
      refine jp _ (fun p0 b2=>?_) (fun p0=>?_)
      .refine sR ?_;simp[lO g9,uS,iw,jy,hlt,p0,b2];refine aN.of_r rk ?_;cases hU:usB s.inj N i
       .simp[lO g9,uS,iw,jy,hlt,p0,b2];refine sD (hbel _ _) ?_;cases hB:isB s.t s.g.nodes[i] s.p.nodes[N.length]
        .have ia:s.okN N i=false:=by unfold Sr.okN;rw[m7,hU,l9,ub,hB];simp
         simp[lO g9,uS,iw,jy,hlt,p0,b2];apply sC;simp;apply sX;simp only[AU,↓reduceIte];refine sR ?_;simp[hw];apply sE;exact⟨⟨i+1,ii,im,io,iz⟩,⟨iw,by rw[iq,Sr.stN,ia];simp,kg,ib⟩,by simp only;omega,aS.mk' ib.le (by simp[ToL,lk];exact aI (by rw[lO g9,uS];simp)) (by simp[aC,lk]) (dY rfl)⟩
        .have ia:s.okN N i=true:=by unfold Sr.okN;rw[m7,hU,l9,ub,hB];simp
         simp[lO g9,uS,iw,jy,hlt,p0,b2];apply sC;simp;refine sR ?_;simp[lO g9,uS];refine⟨by omega,by omega,?_⟩;refine aN.data ?_;simp only[List.map,AV.asD];rw[eY];have ko:=Adv.fresh ib.live ib.lt;refine aN.of_a (ih (N++[(i:Int)]) ii im _ _ k _ _ (by simp;omega) kg (by simp only[lO g9,uS]) ko.live) ?_;rintro v m' ⟨rfl,ja,i6,jz,rfl,i4⟩;simp[uL g9,bD];have kf:Adv tok nt own i6 jz ja:=ib.trans Ht (ko.trans ib.lt i4)
         clear i4 ko;refine sR ?_;simp[hw];apply sE;refine⟨⟨i+1,s.fnR r (N++[(i:Int)]) ii,ja,i6,jz⟩,⟨iw,by rw[iq,Sr.stN,ia];simp,Sr.fnR_len kg,kf⟩,by simp only;omega,aS.mk' kf.le (by simp[ToL,lk];exact aI (by rw[lO g9,uS];simp)) (by simp[aC,lk]) (dY rfl)⟩
       .have ia:s.okN N i=false:=by simp[Sr.okN,m7,hU]
        simp[lO g9,uS,iw,jy,hlt,p0,b2];apply sC;simp;apply sX;simp only[AU,↓reduceIte];refine sR ?_;simp[hw];apply sE;exact⟨⟨i+1,ii,im,io,iz⟩,⟨iw,by rw[iq,Sr.stN,ia];simp,kg,ib⟩,by simp only;omega,aS.mk' ib.le (by simp[ToL,lk];exact aI (by rw[lO g9,uS];simp)) (by simp[aC,lk]) (dY rfl)⟩
      .refine sR ?_;simp[lO g9,uS,iw,jy,hlt,p0];refine aN.of_r rk ?_;cases hU:usB s.inj N i
       .simp[lO g9,uS,iw,jy,hlt,p0];refine sD (hbel _ _) ?_;cases hB:isB s.t s.g.nodes[i] s.p.nodes[N.length]
        .have ia:s.okN N i=false:=by unfold Sr.okN;rw[m7,hU,l9,ub,hB];simp
         simp[lO g9,uS,iw,jy,hlt,p0];apply sC;simp;apply sX;simp only[AU,↓reduceIte];refine sR ?_;simp[hw];apply sE;exact⟨⟨i+1,ii,im,io,iz⟩,⟨iw,by rw[iq,Sr.stN,ia];simp,kg,ib⟩,by simp only;omega,aS.mk' ib.le (by simp[ToL,lk];exact aI (by rw[lO g9,uS];simp)) (by simp[aC,lk]) (dY rfl)⟩
        .have ia:s.okN N i=true:=by unfold Sr.okN;rw[m7,hU,l9,ub,hB];simp
         simp[lO g9,uS,iw,jy,hlt,p0];apply sC;simp;refine sR ?_;simp[lO g9,uS];refine⟨by omega,by omega,?_⟩;refine aN.data ?_;simp only[List.map,AV.asD];rw[eY];have ko:=Adv.fresh ib.live ib.lt;refine aN.of_a (ih (N++[(i:Int)]) ii im _ _ k _ _ (by simp;omega) kg (by simp only[lO g9,uS]) ko.live) ?_;rintro v m' ⟨rfl,ja,i6,jz,rfl,i4⟩;simp[uL g9,bD];have kf:Adv tok nt own i6 jz ja:=ib.trans Ht (ko.trans ib.lt i4)
         clear i4 ko;refine sR ?_;simp[hw];apply sE;refine⟨⟨i+1,s.fnR r (N++[(i:Int)]) ii,ja,i6,jz⟩,⟨iw,by rw[iq,Sr.stN,ia];simp,Sr.fnR_len kg,kf⟩,by simp only;omega,aS.mk' kf.le (by simp[ToL,lk];exact aI (by rw[lO g9,uS];simp)) (by simp[aC,lk]) (dY rfl)⟩
       .have ia:s.okN N i=false:=by simp[Sr.okN,m7,hU]
        simp[lO g9,uS,iw,jy,hlt,p0];apply sC;simp;apply sX;simp only[AU,↓reduceIte];refine sR ?_;simp[hw];apply sE;exact⟨⟨i+1,ii,im,io,iz⟩,⟨iw,by rw[iq,Sr.stN,ia];simp,kg,ib⟩,by simp only;omega,aS.mk' ib.le (by simp[ToL,lk];exact aI (by rw[lO g9,uS];simp)) (by simp[aC,lk]) (dY rfl)⟩
    .apply sX;simp only[AU,↓reduceIte];have jf:i=s.g.nodes.length:=by omega
     subst jf;apply sE;refine⟨by simp,(Fin.gen (vs:=[]) (av:=.tup []) (tok':=io) (nt':=iz) (by simp[aP,bI]) ?_ ib.le (nr0 _) (fun t h=>⟨h,.inl rfl⟩) (dY (by simp)) (by simp)).mono fun v m hq=>⟨hq.1,im,io,iz,?_,ib⟩⟩
     .rw[<-uL g9,Hb]
     .rw[hq.2,Sr.fnR,ac kq,hR,af rfl,jm];rfl
variable {P:Program} {wr:Bool}
theorem uD{base:Nat}{o:Oper}{ρ:Operand->AV}{b b':Bxs}{v:AV}(hm:mB o.op=true)(h:nA P base o ρ b v b'):
  ∃s rows,o.dst=some s/\b'=upd b (base+s) (some rows):=by
 unfold nA at h;cases jo:o.op<;>rw[jo] at hm h<;>first|cases hm|skip
 .simp only at h;split at h
  .rename_i s cs h1 h2;obtain⟨g1,g2,g3⟩:=h;exact⟨s,[cs],h1,g3⟩
  .exact h.elim
 .simp only at h;split at h
  .rename_i sz by' zs s k1 n k2 n' h1 h2 h3 h4
   obtain⟨g1,g2,g3,g4,g5,g6⟩:=h;exact⟨s,_,h2,g6⟩
  .exact h.elim
def vP:Op->Bool
 | .load .. => true
 | _=>false
theorem tZ{o:Oper}(h:vP o.op=true):cls o.op=.r/\∃p,fO o.op=some p:=by
 cases jo:o.op<;>rw[jo] at h<;>first|cases h|skip
 exact⟨rfl,_,rfl⟩
theorem zX{o:Oper}(h:mB o.op=true):cls o.op=.w:=by
 cases jo:o.op<;>rw[jo] at h<;>first|(exact absurd h Bool.false_ne_true)|rfl
def lm(x y:Oper):Bool:=vP x.op&&mB y.op||mB x.op&&vP y.op
def aCm(ops:Array Oper):Bool :=
 let an:=pF ops.toList []
 vO ops&&(List.range ops.size).all fun i=>(match ops[i]? with|some o=>(dH o).all fun j=>decide (j<i)|none=>true) &&
  (List.range i).all fun j=>(an.getD i 0).testBit j||(match ops[j]?,ops[i]? with
   | some x,some y=>Oper.apart ops x y&&(!lD x y||uA x.op&&uA y.op||lm x y)
   | _,_=>false)
def mks:List Oper->List Nat
 | []=>[]
 | o::r=>if mB o.op=true then (match o.dst with|some s=>s::mks r|none=>mks r) else mks r
def lds:List Oper->List Operand
 | []=>[]
 | o::r=>match o.op with
  | .load _ p=>p::lds r
  | _=>lds r
def NB(x:AV)(k:Nat):Prop:=match x with
 | .ptr k' _ _=>k'≠k
 | _=>True
def aIF(x:AV)(base:Nat):List Nat->Prop
 | []=>True
 | s::r=>NB x (base+s)/\aIF x base r
def aGJ(S:AS)(base:Nat)(ms:List Nat):List Operand->Prop
 | []=>True
 | p::r=>aIF (S.ev p) base ms/\aGJ S base ms r
theorem aAd{x:AV}{base:Nat}:∀{l:List Nat} {s:Nat},aIF x base l->s∈l->NB x (base+s)
 | a::r,s,h,hs=>by
  rcases ca.1 hs with rfl|hs
  .exact h.1
  .exact aAd h.2 hs
theorem aAS{S:AS}{base:Nat}{ms:List Nat}:∀{l:List Operand} {p:Operand},aGJ S base ms l->p∈l->aIF (S.ev p) base ms
 | a::r,p,h,hp=>by
  rcases ca.1 hp with rfl|hp
  .exact h.1
  .exact aAS h.2 hp
theorem aF9{o:Oper}{s:Nat}(hm:mB o.op=true)(hd:o.dst=some s):∀{l:List Oper},o∈l->s∈mks l
 | a::r,h=>by
  rcases ca.1 h with rfl|h
  .rw[mks,af hm,hd];simp
  .have:=aF9 hm hd h
   rw[mks];split
   .split
    .exact f8 _ this
    .exact this
   .exact this
theorem aGd{o:Oper}{p:Operand}(hm:vP o.op=true)(hp:fO o.op=some p):∀{l:List Oper},o∈l->p∈lds l
 | a::r,h=>by
  rcases ca.1 h with rfl|h
  .cases jo:o.op<;>rw[jo] at hm hp<;>first|cases hm|skip
   simp only[fO,ad] at hp;subst hp;rw[lds,jo];simp
  .have:=aGd hm hp h
   rw[lds];split
   .exact f8 _ this
   .exact this
theorem aEv{n nb base:Nat}{ops:Array Oper}{Q:Exit->Act->World->Prop}{Sf:AS}{G0:Gh}{w0:World}{b0:Bxs}(l8:aCm ops=true)(hal:eZ ops=true)(kz:nQ n ops=true)(j8:base+n<=nb)(sf:Far Sf (oA ops.toList))(yc:aGJ Sf base (mks ops.toList) (lds ops.toList))(hQ:∀a' w' G',cS n nb G' Sf a' w'->LeK base G0 w0 b0 G' w' Sf.box->Q .normal a' w')(fuel:Nat)(listed:Array Bool)(rem:List Nat)(S:AS)(a:Act)(w:World)(G:Gh)(ot:rem=List.range ops.size)(pa:mH ops S)(h1:listed.size=ops.size)(h2:rem=(List.range ops.size).filter (fun i=>!listed.getD i true))(h3:rem.length=fuel)(h4:∀i o,ops[i]?=some o->listed.getD i false=true->∀j∈dH o,listed.getD j false=true)(h5:kT P false base ops rem S Sf)(h6:cS n nb G S a w)(h7:∀i∈rem,∀o,ops[i]?=some o->pG P base o G S.box)(h8:LeK base G0 w0 b0 G w S.box):wpAny P .any ops Q fuel listed a w:=by
 unfold aCm at l8;simp only[bd] at l8;obtain⟨hu,l8⟩:=l8;have key:∀(i:Nat) (o:Oper),ops[i]?=some o->(∀j∈dH o,j<i)/\∀j x,ops[j]?=some x->j<i->((pF ops.toList []).getD i 0).testBit j=true∨x.apart ops o=true/\((lD x o=false∨uA x.op=true/\uA o.op=true)∨lm x o=true):=by
  intro i o ho;have k7:i<ops.size:=(bj.1 ho).1
  have ik:=aq.1 l8 i (by simpa using k7);rw[ho] at ik;simp only[bd] at ik;refine⟨fun j hj=>by simpa using aq.1 ik.1 j hj,fun j x hx hj=>?_⟩;have h2:=aq.1 ik.2 j (by simpa using hj);rw[hx] at h2;simpa only[d9,bd,c9] using h2
 have start:Ivs Sf S:=by
  intro t;by_cases hd:∃o∈ops.toList,o.dst=some t
  .obtain⟨o,ho,hd⟩:=hd;exact .inr (pa o ho t hd)
  .refine .inl (lF (fun j _ x hx up=>hd ⟨x,by simpa using dk hx,up⟩) h5).symm
 refine pW (fun i o ho=>(key i o ho).1) (Iv:=Ivs Sf) (fun i o S' S'' rest ho uw jp jc qk=>aCR hu i o S' S'' rest ho uw jp jc qk) ?_ hal kz j8 hQ fuel listed rem S a w G h1 h2 h3 h4 start h5 h6 h7 h8;intro i j o x ho hx hj hb S' S1 S2 qk g1 g2;have back:∀(z:Operand) k i off,S'.ev z=.ptr k i off->Sf.ev z=.ptr k i off:=by
  intro z k i off hz;cases z with
  | tmp t =>
   rcases qk t with e|e
   .exact e.symm.trans hz
   .have BV:S'.tmps t=.ptr k i off:=hz
    rw[BV] at e;exact e.elim
  | const c=>exact hz
  | global c=>exact hz
  | func c=>exact hz
 have nb:∀(y z:Oper) (p:Operand) (s:Nat),vP y.op=true->fO y.op=some p->y∈ops.toList->mB z.op=true->z.dst=some s->z∈ops.toList->∀k i off,S'.ev p=.ptr k i off->k≠base+s:=fun y z p s hy hp DV hz hs DW k i off hk=>by
  have:=aAd (aAS yc (aGd hy hp DV)) (aF9 hz hs DW)
  rw[back p _ _ _ hk] at this;exact this
 have wq:x∈ops.toList:=by simpa using dk hx
 have B2:o∈ops.toList:=by simpa using dk ho
 rcases (key i o ho).2 j x hx hj with h|⟨h,h'⟩
 .rw[hb] at h;cases h
 .by_cases z7:lm x o=true
  .unfold lm at z7;simp only[d9,bd] at z7;refine jS h (fun {c0 c1 c2 s0 s1 s2 m0 m1 m2 vx vy} e1 e2=>?_) g1 g2;unfold Eff at e1 e2 ⊢;rcases z7 with ⟨q1,q2⟩|⟨q1,q2⟩
   .obtain⟨k1,p,hp⟩:=tZ q1;have k2:=zX q2;simp only[k1,k2] at e1 e2 ⊢;obtain⟨e1,rfl,rfl,rfl⟩:=e1;obtain⟨e2,rfl,rfl⟩:=e2;obtain⟨s,rows,hs,rfl⟩:=uD q2 e2;exact⟨_,_,_,⟨e2,rfl,rfl⟩,vS hp k1 e1 (nb x o p s q1 hp wq q2 hs B2),rfl,rfl,rfl⟩
   .obtain⟨k1,p,hp⟩:=tZ q2;have k2:=zX q1;simp only[k1,k2] at e1 e2 ⊢;obtain⟨e1,rfl,rfl⟩:=e1;obtain⟨e2,rfl,rfl,rfl⟩:=e2;obtain⟨s,rows,hs,rfl⟩:=uD q1 e1;exact⟨_,_,_,⟨aAk hp k1 (nb o x p s q2 hp B2 q1 hs wq) e2,rfl,rfl,rfl⟩,e1,rfl,rfl⟩
  .have h':=h'.resolve_right z7
   cases hc:lD x o with
   | false=>exact pQ h hc g1 g2
   | true =>
    rcases h' with h'|⟨tw,vv⟩
    .rw[hc] at h';cases h'
    .obtain⟨p,hp⟩:=cq.1 tw;obtain⟨q,hq⟩:=cq.1 vv;have wl:=aEb sf hj (by simpa using hx) (by simpa using ho) hp hq hc;refine jS h (fun {c0 c1 c2 s0 s1 s2 m0 m1 m2 vx vy} e1 e2=>?_) g1 g2;refine aFI hp hq (fun k i1 off k' i2 off' hk jv=>?_) e1 e2;rw[back p _ _ _ hk,back q _ _ _ jv] at wl;exact wl
theorem AT.region5{cx:Cx}{nt0 id:Nat}{ops:Array Oper}{S:AS}{K:Exit->AS->Prop}(hf:P.follows .mixedOrders=true)(j8:cx.base+cx.n<=cx.nb)(ia:(eZ ops&&nQ cx.n ops&&aCm ops)=true)(pa:mH ops S)(h:oJ P cx ops true S (fun S'=>(Far S' (oA ops.toList)/\aGJ S' cx.base (mks ops.toList) (lds ops.toList))/\K .normal S')):AT P cx nt0 (.region id ops true) S K:=by
 simp only[bd] at ia;obtain⟨⟨hal,kz⟩,l8⟩:=ia;intro G0 w0 he hn G a w hr hl;have hd:=lK kz;obtain⟨b,hb,ry,hp,jk⟩:=jE j8 ops.toList S.box (S:=S) hr (fun o ho d qb=>hd o d (by simpa using ho) qb) (kG hal) h;have mo:LeC cx G0 w0 G w { S with box:=b }:=⟨hl.1,fun k hk hg=>by
  rw[<-hl.2 k hk hg];refine jk k fun hm=>?_
  obtain⟨o,ho,he⟩:=gt.1 hm;split at he
  .rename_i T s h1 h2;simp only[ad] at he;subst he;exact absurd hk (by simp)
  .cases he⟩
 simp only at hb;obtain⟨S',jc,⟨sf,yc⟩,hK⟩:=hb;refine wp_region_any hf ?_;have A8:cS cx.n cx.nb G { S with box:=b } a w.drew:=ry.drew
 have A9:LeC cx G0 w0 G w.drew { S with box:=b }:=mo.step ⟨Le.drew,fun k _ hg=>⟨hg,rfl⟩⟩
 refine aEv (n:=cx.n) (nb:=cx.nb) (base:=cx.base) (Sf:=S') (G0:=G) (w0:=w.drew) (b0:=b) l8 hal kz j8 sf yc (fun a' w' G' h1 h2=>⟨S',G',hK,h1,A9.step h2⟩) ops.size (Array.replicate ops.size false) (List.range ops.size) { S with box:=b } a w.drew G rfl pa (by simp) ?_ (by simp) ?_ (kT.of_all jc) A8 ?_ (LeK.refl _ _ _ _)
 .rw[ez.2];intro i hi;simp at hi;simp[Array.getD,hi]
 .intro i o ho uz;have hi:=(bj.1 ho).1;simp[Array.getD,hi] at uz
 .intro i _ o ho;exact hp o (by simpa using dk ho)
theorem AL.region5{cx:Cx}{nt0:Nat}{r:List CI}{K:Exit->AS->Prop}{S:AS}{id:Nat}{ops:Array Oper}(hf:P.follows .mixedOrders=true)(j8:cx.base+cx.n<=cx.nb)(ia:(eZ ops&&nQ cx.n ops&&aCm ops)=true)(hs:mH ops S)(h:aE1 P cx ops true (fun S'=>(Far S' (oA ops.toList)/\aGJ S' cx.base (mks ops.toList) (lds ops.toList))/\AL P cx nt0 K r S') S):AL P cx nt0 K (.c (.region id ops true)::r) S:=by
 simp only[AL];exact AT.region5 hf j8 ia hs (pV h)
def aDC(t:Ty)(n:Int):Bool:=decide (0<=n/\n<t.nodes.length)
def aEz(t:Ty)(e:E):Bool:=decide (0<=e.ty/\e.ty<t.edges.length)
theorem xO{t:Ty}{l:List Int}{i:Nat}(h:i<l.length)(e:l[i]<0∨(t.nodes.length:Int)<=l[i]):l.all (aDC t)=false:=by
 rw[dz];exact⟨_,aa h,by simp[aDC];omega⟩
theorem wA{t:Ty}{l:List E}{i:Nat}(h:i<l.length)(e:l[i].ty<0∨(t.edges.length:Int)<=l[i].ty):l.all (aEz t)=false:=by
 rw[dz];exact⟨_,aa h,by simp[aEz];omega⟩
theorem aCT{α:Type}{p:α->Bool}{l:List α}{i:Nat}(h:i<l.length)(a:(l.take i).all p=true)(b:p l[i]=true):(l.take (i+1)).all p=true:=by
 rw[ah h,fw,a];simp[b]
def aPK(t:Ty)(g:Gr)(nb:Nat)(box:Bxs)(tok:Tks)(nt:Nat)(i:Nat):AS :=
 ⟨tl [(2,.ptr (nb+2) 0 0),(3,.ptr (nb+3) 0 0),(6,I i)],lb nb box [(2,[[.d (nts t.nodes),.d (ets t.edges)]]),(3,[[.d (ints g.nodes),.d (AM.edges g.edges)]])],tok,nt⟩
def pH(t:Ty)(g:Gr):Bool:=g.nodes.all (aDC t)&&g.edges.all (aEz t)
def aPy(t:Ty)(g:Gr)(nb:Nat)(box:Bxs)(tok:Tks)(nt:Nat)(i:Nat):AS :=
 ⟨tl [(2,.ptr (nb+2) 0 0),(3,.ptr (nb+3) 0 0),(5,I i)],lb nb box [(2,[[.d (nts t.nodes),.d (ets t.edges)]]),(3,[[.d (ints g.nodes),.d (AM.edges g.edges)]])],tok,nt⟩
theorem aAW(t:Ty)(ht:t.Fit)(g:Gr)(hg:g.Fit):DC 109 [t.av,g.av] (B (pH t g)):=by
 intro tok nt box nb;obtain⟨R,hR⟩:∃R,pH t g=R:=⟨_,rfl⟩
 rw[hR];unfold pH at hR;have qo:=ht.n;have wz:=ht.e;have rc:=hg.n;have hge:=hg.e;refine sI func109 ntmps109 fun Hb Ht=>?_
 repeat first|simp|refine sR ?_
 apply sN;refine sL (aPy t g nb box tok nt) (fun i=>i<=g.nodes.length/\(g.nodes.take i).all (aDC t)=true) (fun i=>g.nodes.length-i) 0 ⟨ai _,by simp⟩ wkA ?_;rintro i S' ⟨hi,ik⟩ hS;simp only[aPy] at hS;subst hS;have hw:=sW (i:=i) (by omega);by_cases hlt:i<g.nodes.length
 .by_cases z0:g.nodes[i]<0
  .rw[xO hlt (.inl z0),da] at hR;try (simp[hlt,z0])
   repeat ((first|refine sR ?_|apply sC|apply sX);simp[hlt,z0])
   refine sT (sH ?_);simp[<-hR]
  .by_cases z1:(t.nodes.length:Int)<=g.nodes[i]
   .rw[xO hlt (.inr z1),da] at hR;try (simp[hlt,z0,z1])
    repeat ((first|refine sR ?_|apply sC|apply sX);simp[hlt,z0,z1])
    refine sT (sH ?_);simp[<-hR]
   .try (simp[hlt,z0,z1,hw])
    repeat ((first|refine sR ?_|apply sC|apply sX);simp[hlt,z0,z1,hw])
    apply sE;exact⟨i+1,⟨hlt,aq.1 (aCT hlt ik (by simp[aDC];omega))⟩,by omega,wkA⟩
 .have:i=g.nodes.length:=by omega
  subst this;rw[bh] at ik;rw[ik,b9] at hR;try (simp)
  repeat ((first|refine sR ?_|apply sC|apply sX);simp)
  apply sN;refine sL (aPK t g nb box tok nt) (fun i=>i<=g.edges.length/\(g.edges.take i).all (aEz t)=true) (fun i=>g.edges.length-i) 0 ⟨ai _,by simp⟩ wkA ?_;rintro i S' ⟨hi,vn⟩ hS;simp only[aPK] at hS;subst hS;have hw:=sW (i:=i) (by omega);by_cases hlt:i<g.edges.length
  .by_cases z0:g.edges[i].ty<0
   .rw[wA hlt (.inl z0)] at hR;try (simp[hlt,z0])
    repeat ((first|refine sR ?_|apply sC|apply sX);simp[hlt,z0])
    refine sT (sH ?_);simp[<-hR]
   .by_cases z1:(t.edges.length:Int)<=g.edges[i].ty
    .rw[wA hlt (.inr z1)] at hR;try (simp[hlt,z0,z1])
     repeat ((first|refine sR ?_|apply sC|apply sX);simp[hlt,z0,z1])
     refine sT (sH ?_);simp[<-hR]
    .try (simp[hlt,z0,z1,hw])
     repeat ((first|refine sR ?_|apply sC|apply sX);simp[hlt,z0,z1,hw])
     apply sE;exact⟨i+1,⟨hlt,aq.1 (aCT hlt vn (by simp[aEz];omega))⟩,by omega,wkA⟩
  .have:i=g.edges.length:=by omega
   subst this;rw[bh] at vn;rw[vn] at hR;try (simp)
   repeat ((first|refine sR ?_|apply sC|apply sX);simp)
   refine sT (sH ?_);simp[<-hR]
def opl(n i:Nat):List Int:=List.replicate i (-1)++List.replicate (n-i) 0
theorem aDY(n:Nat):opl n 0=List.replicate n 0:=by simp[opl]
theorem aGl(n:Nat):opl n n=List.replicate n (-1):=by simp[opl]
theorem aFn{n i:Nat}(h:i<=n):(opl n i).length=n:=by simp[opl];omega
theorem aF4{n i:Nat}(h:i<n):(opl n i).set i (-1)=opl n (i+1):=by
 unfold opl;rw[List.set_append,ac (by simp),List.length_replicate,Nat.sub_self,show n-i=(n-(i+1))+1 by omega,List.replicate_succ,List.set_cons_zero,List.replicate_succ',cw];rfl
def aOp(p:Gr)(nb:Nat)(box:Bxs)(tok:Tks)(nt:Nat)(i:Nat):AS :=
 ⟨tl [(2,.ptr (nb+2) 0 0),(3,.ptr (nb+3) 0 0),(4,I i)],lb nb box [(2,[[.osl 0 [] .full,.osl 0 [] .full]]),(3,[[.msl (nb+9) 0 p.nodes.length 1,.msl (nb+13) 0 p.edges.length 1]]),(9,dL (opl p.nodes.length i)),(13,dL (List.replicate p.edges.length 0))],tok,nt⟩
def aQN(p:Gr)(nb:Nat)(box:Bxs)(tok:Tks)(nt:Nat)(i:Nat):AS :=
 ⟨tl [(2,.ptr (nb+2) 0 0),(3,.ptr (nb+3) 0 0),(5,I i)],lb nb box [(2,[[.osl 0 [] .full,.osl 0 [] .full]]),(3,[[.msl (nb+9) 0 p.nodes.length 1,.msl (nb+13) 0 p.edges.length 1]]),(9,dL (opl p.nodes.length p.nodes.length)),(13,dL (opl p.edges.length i))],tok,nt⟩
theorem aFM(v:Int){p q:Nat->Prop}{k n:Nat}:To p q (some (k,1,List.replicate n [D.raw (.int .i64 v)])) (.msl k 0 n 1) (.d (ints (List.replicate n v))):=by
 have h:=To.frz (p:=p) (q:=q) (fz:=some (k,1,List.replicate n [D.raw (.int .i64 v)])) (k:=k) (sz:=1) (es:=List.replicate n [D.raw (.int .i64 v)]) rfl;simp[ints] at h ⊢
theorem aH6(p:Gr)(hp:p.Fit):DC 67 [p.av] (Mo.av ⟨List.replicate p.nodes.length (-1),List.replicate p.edges.length (-1)⟩):=by
 intro tok nt box nb;have so:=hp.n;have rd:=hp.e;refine sI func67 ntmps67 fun Hb Ht=>?_
 refine sR ?_;simp;apply sN;refine AL.region5 bS (nr0 _) (by kernel_rfl) (mH.of (by simp)) ?_;simp[aGJ,aIF,NB,mks,lds,mB];refine⟨by omega,by omega,?_⟩;repeat first|simp|refine sR ?_
 apply sN;refine sL (aOp p nb box tok nt) (fun i=>i<=p.nodes.length) (fun i=>p.nodes.length-i) 0 (ai _) (wM (nr0 _) rfl (by simp[ToL,lk]) (by simp[aC,lk,aDY])) ?_;rintro i S' hi hS;simp only[aOp] at hS;subst hS;have hw:=sW (i:=i) (by omega);by_cases hlt:i<p.nodes.length
 .have jp:=aF4 hlt;have lw:=aFn hi;try (simp[hlt,hw,lw])
  repeat ((first|refine sR ?_|apply sC|apply sX);simp[hlt,hw,lw])
  apply sE;exact⟨i+1,hlt,by omega,wM (nr0 _) rfl (by simp[ToL,lk]) (by simp[aC,lk,jp])⟩
 .have:i=p.nodes.length:=by omega
  subst this;try (simp)
  repeat ((first|refine sR ?_|apply sC|apply sX);simp)
  apply sN;refine sL (aQN p nb box tok nt) (fun i=>i<=p.edges.length) (fun i=>p.edges.length-i) 0 (ai _) (wM (nr0 _) rfl (by simp[ToL,lk]) (by simp[aC,lk,aDY])) ?_;rintro i S' hi hS;simp only[aQN] at hS;subst hS;have hw:=sW (i:=i) (by omega);by_cases hlt:i<p.edges.length
  .have jp:=aF4 hlt;have lw:=aFn hi;try (simp[hlt,hw,lw])
   repeat ((first|refine sR ?_|apply sC|apply sX);simp[hlt,hw,lw])
   apply sE;exact⟨i+1,hlt,by omega,wM (nr0 _) rfl (by simp[ToL,lk]) (by simp[aC,lk,jp])⟩
  .have:i=p.edges.length:=by omega
   subst this;refine sR ?_;simp;apply sC;simp;apply sX;simp only[AU,↓reduceIte];rw[aGl,aGl];refine AL.weak (aS.frz (l':=[(2,.ptr (nb+2) 0 0),(3,.ptr (nb+3) 0 0)]) (loc':=[(2,[[cT,cT]]),(3,[[.d (ints (List.replicate p.nodes.length (-1))),.msl (nb+13) 0 p.edges.length 1]]),(13,dL (List.replicate p.edges.length (-1)))]) 9 1 (rI (List.replicate p.nodes.length (-1))) (nr0 _) rfl (by simp[lk,rA]) (by simp[lk]) (by simp) (by simp[ToL]) (by simp[aC,lk];exact aFM _)) ?_;refine AL.weak (aS.frz (l':=[(2,.ptr (nb+2) 0 0),(3,.ptr (nb+3) 0 0)]) (loc':=[(2,[[cT,cT]]),(3,[[.d (ints (List.replicate p.nodes.length (-1))),.d (ints (List.replicate p.edges.length (-1)))]])]) 13 1 (rI (List.replicate p.edges.length (-1))) (nr0 _) rfl (by simp[lk,rA]) (by simp[lk]) (by simp) (by simp[ToL]) (by simp[aC,lk];exact aFM _)) ?_;repeat first|simp|refine sR ?_
   refine sT (sH ?_);simp
def opM(p:Gr):Mo:=⟨List.replicate p.nodes.length (-1),List.replicate p.edges.length (-1)⟩
abbrev aHp(l:List Mo):List (List D):=l.map fun m=>[ints m.nodes,ints m.edges]
theorem aLl(s:Sr)(h:s.Ok):DC 66 [s.t.av,s.p.av,s.g.av,s.pt.av,B s.inj,I s.most] (.d (.sl 2 (aHp (s.fnR s.p.nodes.length [] [])))):=by
 intro tok nt box nb;refine sI func66 ntmps66 fun Hb Ht=>?_
 have so:=h.p.n;refine sR ?_;simp;refine sR ?_;simp;refine AL.weak (wM (l':=[(13,.ptr (nb+21) 0 0)]) (loc':=[(21,[s.row [] .full])]) (nr0 _) rfl (by simp[ToL,lk]) (by simp[aC,lk])) ?_;refine sR ?_;simp;refine aN.sub (args':=[.ptr (nb+21) 0 0,.d (ints [])]) ⟨Sub.refl _,Sub.nil _ _ _,trivial⟩ ?_;refine aN.of_a (aHi s h s.p.nodes.length [] [] .full _ _ (nb+21) _ _ (by simp) (by simp) (by simp) trivial) ?_;rintro v m' ⟨rfl,la,tok1,lc,rfl,i4⟩;simp;refine sR ?_;simp;apply sN;refine AL.ret ?_;try simp only[AU]
 have jk:∀t,tok t=true->tok1 t=true:=fun t ht=>i4.keep t ht (by simp)
 refine⟨by simp,(Fin.data (av:=.d (.sl 2 (aHp (s.fnR s.p.nodes.length [] [])))) (by simp[aP,bI];rfl) Hb rfl Ht jk i4.le (by simp)).mono fun v m hq=>⟨hq.1,hq.2⟩⟩
def gY(t:Ty)(p g:Gr):Int:=if tyE t≠0 then tyE t else if vG p≠0 then vG p else if vG g≠0 then vG g else if pH t p=false then 13 else if pH t g=false then 13 else 0
theorem zW(t:Ty)(ht:t.Fit)(p g:Gr)(hp:p.Fit)(hg:g.Fit):DC 65 [t.av,p.av,g.av] (I (gY t p g)):=by
 intro tok nt box nb;have h1:=kQ t ht ht.hM;have h2:=dU p hp;have h3:=dU g hg;have h4:=aAW t ht p hp;have h5:=aAW t ht g hg;obtain⟨R,hR⟩:∃R,gY t p g=R:=⟨_,rfl⟩
 rw[hR];unfold gY at hR;generalize tyE t=e1 at *;generalize tyN t=z1 at *;generalize vG p=e2 at *;generalize vG g=e3 at *;generalize pH t p=b1 at *;generalize pH t g=b2 at *;refine sI func65 ntmps65 fun Hb Ht=>?_
 repeat first|simp|refine sR ?_
 refine sD (h1 _ _) ?_;simp;by_cases c1:e1=0
 .try (simp[c1])
  repeat ((first|refine sR ?_|apply sC|apply sX);simp[c1])
  refine sD (h2 _ _) ?_;simp;by_cases c2:e2=0
  .try (simp[c2])
   repeat ((first|refine sR ?_|apply sC|apply sX);simp[c2])
   refine sD (h3 _ _) ?_;simp;by_cases c3:e3=0
   .try (simp[c3])
    repeat ((first|refine sR ?_|apply sC|apply sX);simp[c3])
    refine sD (h4 _ _) ?_;simp;rw[ac (by simp[c1]),ac (by simp[c2]),ac (by simp[c3])] at hR;cases b1
    .try (simp)
     repeat ((first|refine sR ?_|apply sC|apply sX);simp)
     refine sT (sH ?_);simp[<-hR]
    .try (simp)
     repeat ((first|refine sR ?_|apply sC|apply sX);simp)
     refine sD (h5 _ _) ?_;simp;cases b2
     .try (simp)
      repeat ((first|refine sR ?_|apply sC|apply sX);simp)
      refine sT (sH ?_);simp[<-hR]
     .try (simp)
      repeat ((first|refine sR ?_|apply sC|apply sX);simp)
      refine sT (sH ?_);simp[<-hR]
   .rw[ac (by simp[c1]),ac (by simp[c2]),af c3] at hR;try (simp[c3])
    repeat ((first|refine sR ?_|apply sC|apply sX);simp[c3])
    refine sT (sH ?_);simp[<-hR]
  .rw[ac (by simp[c1]),af c2] at hR;try (simp[c2])
   repeat ((first|refine sR ?_|apply sC|apply sX);simp[c2])
   refine sT (sH ?_);simp[<-hR]
 .rw[af c1] at hR;try (simp[c1])
  repeat ((first|refine sR ?_|apply sC|apply sX);simp[c1])
  refine sT (sH ?_);simp[<-hR]
def mG(t:Ty)(p g:Gr)(inj:Bool):Sr:=⟨t,p,g,opM p,inj,5000⟩
theorem gM{t:Ty}{g:Gr}(h:pH t g=true):∀n∈g.nodes,0<=n/\n<t.nodes.length:=by
 unfold pH at h;rw[bd] at h;intro n hn;have:=aq.1 h.1 n hn
 simpa[aDC] using this
theorem oF{t:Ty}{p g:Gr}(h:gY t p g=0):tyE t=0/\vG p=0/\vG g=0/\pH t p=true/\pH t g=true:=by
 unfold gY at h;split at h
 .contradiction
 .split at h
  .contradiction
  .split at h
   .contradiction
   .split at h
    .simp at h
    .split at h
     .simp at h
     .rename_i a b c d e;exact⟨by simpa using a,by simpa using b,by simpa using c,by simpa using d,by simpa using e⟩
theorem aI3{t:Ty}{p g:Gr}{inj:Bool}(ht:t.Fit)(hp:p.Fit)(hg:g.Fit)(h:gY t p g=0):(mG t p g inj).Ok:=by
 obtain⟨h1,h2,h3,h4,h5⟩:=oF h;exact⟨ht,kB h1,hp,hg,by simp[mG],aE h2,by simp[mG,opM],by simp[mG,opM],gM h4,gM h5⟩
theorem aAi{p:Gr}{N M:List Int}{i:Nat}(h1:(p.edges.getD i default).fr.toNat<N.length)(h2:(p.edges.getD i default).to.toNat<N.length):fZ p (N++M) i=fZ p N i:=by
 unfold fZ;generalize p.edges.getD i default=e at *;rw[ao,ao,ao,ao,bi h1,bi h2]
theorem Sr.fit_dead{s:Sr}(h:s.Ok){N:List Int}(hf:s.fit N=false)(r:Nat):mX s.okN s.g.nodes.length s.okE s.g.edges.length s.p.edges.length r N=[]:=by
 rw[List.eq_nil_iff_forall_not_mem];intro m hm;unfold mX at hm;obtain⟨N',Bg,hm⟩:=gm.1 hm;obtain⟨es,mf,rfl⟩:=bc.1 hm;obtain⟨T,t1,t2,rfl,t4⟩:=gO.1 Bg;obtain⟨U,u1,u2,rfl,u4⟩:=gO.1 mf;unfold Sr.fit at hf;obtain⟨i,hi,p9⟩:=dz.1 hf;have hi:=ay.1 hi;have p9:s.fitE N i=false:=by simpa using p9
 unfold Sr.fitE at p9;have pg:s.p.edges.getD i default=s.p.edges[i]:=by simp[hi]
 obtain⟨x1,x2,x3,x4⟩:=h.vp _ (aa hi);split at p9
 .cases p9
 .split at p9
  .cases p9
  .rename_i a b;rw[pg] at a b;have Bh:i<U.length:=by omega
   have hu:=u4 i Bh;have hk:=u2 _ (aa Bh);unfold Sr.anE at p9;have ju:=d7.1 p9 U[i] (ay.2 hk);unfold Sr.eqE at ju;unfold Sr.okE at hu;split at hu
   .split at hu
    .cases hu
    .have hl:(([]:List Int)++(U.take i).map (fun (k:Nat)=>(k:Int))).length=i:=by simp;omega
     rw[hl,aAi (by rw[pg];omega) (by rw[pg];omega)] at hu;exact ju hu
   .cases hu
theorem Sr.fit_nil{s:Sr}(h:s.Ok):s.fit []=true:=by
 refine Sr.fit_true fun i hi=>?_
 have pg:s.p.edges.getD i default=s.p.edges[i]:=by simp[hi]
 obtain⟨x1,x2,x3,x4⟩:=h.vp _ (aa hi);unfold Sr.fitE;rw[af (by rw[pg];simpa using x1)]
theorem Sr.fnR_all{s:Sr}(h:s.Ok):s.fnR s.p.nodes.length [] []=(mX s.okN s.g.nodes.length s.okE s.g.edges.length s.p.edges.length s.p.nodes.length []).take (s.most+1):=by
 rw[Sr.fnR_eq,af (Sr.fit_nil h)];have:=aBd (s.most+1) s.okN (fun N k=>s.fit (N++[(k:Int)])) s.g.nodes.length s.okE s.g.edges.length s.p.edges.length (fun _=>True) (fun _ _ _ _ _=>trivial) (fun r N k _ _ hp=>Sr.fit_dead h hp r) s.p.nodes.length [] [] trivial (by simp)
 simpa using this
theorem oL{ok:List Int->Nat->Bool}{m r:Nat}{x:List Int}:x∈jQ ok m r []↔x.length=r/\∀i (h:i<x.length),∃k:Nat,k<m/\x[i]=(k:Int)/\ok (x.take i) k=true:=by
 rw[gO];constructor
 .rintro⟨T,h1,h2,rfl,h4⟩;simp only[eq,br];refine⟨h1,fun i hi=>⟨T[i],h2 _ (aa hi),by simp,?_⟩⟩;have:=h4 i hi
  rw[eq] at this;rw[<-List.map_take];exact this
 .rintro⟨h1,h2⟩;have hx:(x.map Int.toNat).map (fun (k:Nat)=>(k:Int))=x:=by
   refine f7 (by simp) fun i a b=>?_
   obtain⟨k,_,hk,_⟩:=h2 i b;simp[hk]
  refine⟨x.map Int.toNat,by simpa using h1,fun k hk=>?_,by rw[eq,hx],fun i hi=>?_⟩
  .obtain⟨y,hy,rfl⟩:=bc.1 hk;obtain⟨i,hi,rfl⟩:=bf hy;obtain⟨k,hk,e,_⟩:=h2 i hi;rw[e];simpa using hk
  .have oe:i<x.length:=by simpa using hi
   obtain⟨k,hk,e,ho⟩:=h2 i oe;rw[eq,List.map_take,hx];simpa[e] using ho
structure Sr.Mt (s:Sr) (m:Mo):Prop where
 n:m.nodes.length=s.p.nodes.length
 e:m.edges.length=s.p.edges.length
 nodes:∀i (h:i<m.nodes.length),∃k:Nat,k<s.g.nodes.length/\m.nodes[i]=(k:Int)/\s.okN (m.nodes.take i) k=true
 edges:∀i (h:i<m.edges.length),∃k:Nat,k<s.g.edges.length/\m.edges[i]=(k:Int)/\s.okE m.nodes (m.edges.take i) k=true
theorem Sr.all_mem{s:Sr}{m:Mo}:m∈mX s.okN s.g.nodes.length s.okE s.g.edges.length s.p.edges.length s.p.nodes.length []↔s.Mt m:=by
 unfold mX;rw[gm];constructor
 .rintro⟨N,hN,hm⟩;obtain⟨es,mf,rfl⟩:=bc.1 hm;have a:=oL.1 hN;have b:=oL.1 mf;exact⟨a.1,b.1,a.2,b.2⟩
 .rintro h;exact⟨m.nodes,oL.2 ⟨h.n,h.nodes⟩,bc.2 ⟨m.edges,oL.2 ⟨h.e,h.edges⟩,rfl⟩⟩
theorem lN{x:List Int}:x.Nodup↔∀i (h:i<x.length),x[i]∉x.take i:=by
 unfold List.Nodup;rw[dh];constructor
 .intro h i hi hm;obtain⟨j,hj,e⟩:=cc.1 hm;exact h j i (by omega) hi (by omega) e
 .intro h i j hi hj pr e;exact h j hj (cc.2 ⟨i,by omega,e⟩)
structure Img (t:Ty) (p g:Gr) (inj:Bool) (m:Mo):Prop where
 n:m.nodes.length=p.nodes.length
 e:m.edges.length=p.edges.length
 rn:∀x∈m.nodes,0<=x/\x<g.nodes.length
 re:∀x∈m.edges,0<=x/\x<g.edges.length
 ty:∀i (h:i<m.nodes.length),isB t (g.nodes.getD m.nodes[i].toNat 0) (p.nodes.getD i 0)=true
 ed:∀i (h:i<m.edges.length),g.edges.getD m.edges[i].toNat default=fZ p m.nodes i
 dn:inj=true->m.nodes.Nodup
 de:inj=true->m.edges.Nodup
theorem aF6{n i k:Nat}(h:i<n):gvB (List.replicate n (-1)) i k=true:=by
 unfold gvB;rw[ac (by simp[h])]
theorem aAa{t:Ty}{p g:Gr}{inj:Bool}{N:List Int}{k:Nat}(h:N.length<p.nodes.length):
  (mG t p g inj).okN N k=true↔(inj=true->(k:Int)∉N)/\isB t (g.nodes.getD k 0) (p.nodes.getD N.length 0)=true:=by
 unfold Sr.okN;show (if gvB (List.replicate p.nodes.length (-1)) N.length k=true then _ else _)=true↔_
 rw[af (aF6 h)];show (if usB inj N k=true then false else isB t (g.nodes.getD k 0) (p.nodes.getD N.length 0))=true↔_
 unfold usB;cases inj<;>by_cases hm:(k:Int)∈N<;>simp[hm]
theorem aAY{t:Ty}{p g:Gr}{inj:Bool}{N M:List Int}{k:Nat}(h:M.length<p.edges.length):
  (mG t p g inj).okE N M k=true↔(inj=true->(k:Int)∉M)/\g.edges.getD k default=fZ p N M.length:=by
 unfold Sr.okE;show (if gvB (List.replicate p.edges.length (-1)) M.length k=true then _ else _)=true↔_
 rw[af (aF6 h)];show (if usB inj M k=true then false else decide (g.edges.getD k default=fZ p N M.length))=true↔_
 unfold usB;cases inj<;>by_cases hm:(k:Int)∈M<;>simp[hm]
theorem aIo{t:Ty}{p g:Gr}{inj:Bool}{m:Mo}:(mG t p g inj).Mt m↔Img t p g inj m:=by
 constructor
 .rintro⟨h1,h2,h3,h4⟩;have h1:m.nodes.length=p.nodes.length:=h1
  have h2:m.edges.length=p.edges.length:=h2
  have a3:∀i (h:i<m.nodes.length),∃k:Nat,k<g.nodes.length/\m.nodes[i]=(k:Int)/\(inj=true->(k:Int)∉m.nodes.take i)/\isB t (g.nodes.getD k 0) (p.nodes.getD i 0)=true:=by
   intro i hi;obtain⟨k,k1,k2,k3⟩:=h3 i hi;have hl:(m.nodes.take i).length=i:=by simp;omega
   have:=(aAa (by omega)).1 k3
   rw[hl] at this;exact⟨k,k1,k2,this.1,this.2⟩
  have a4:∀i (h:i<m.edges.length),∃k:Nat,k<g.edges.length/\m.edges[i]=(k:Int)/\(inj=true->(k:Int)∉m.edges.take i)/\g.edges.getD k default=fZ p m.nodes i:=by
   intro i hi;obtain⟨k,k1,k2,k3⟩:=h4 i hi;have hl:(m.edges.take i).length=i:=by simp;omega
   have:=(aAY (by omega)).1 k3
   rw[hl] at this;exact⟨k,k1,k2,this.1,this.2⟩
  refine⟨h1,h2,fun x hx=>?_,fun x hx=>?_,fun i hi=>?_,fun i hi=>?_,fun hj=>lN.2 fun i hi=>?_,fun hj=>lN.2 fun i hi=>?_⟩
  .obtain⟨i,hi,rfl⟩:=bf hx;obtain⟨k,k1,k2,_⟩:=a3 i hi;omega
  .obtain⟨i,hi,rfl⟩:=bf hx;obtain⟨k,k1,k2,_⟩:=a4 i hi;omega
  .obtain⟨k,k1,k2,k3,k4⟩:=a3 i hi;rw[k2];exact k4
  .obtain⟨k,k1,k2,k3,k4⟩:=a4 i hi;rw[k2];exact k4
  .obtain⟨k,k1,k2,k3,k4⟩:=a3 i hi;rw[k2];exact k3 hj
  .obtain⟨k,k1,k2,k3,k4⟩:=a4 i hi;rw[k2];exact k3 hj
 .intro h;have h1:=h.n;have h2:=h.e;refine⟨h1,h2,fun i hi=>?_,fun i hi=>?_⟩
  .have r:=h.rn _ (aa hi);have hl:(m.nodes.take i).length=i:=by simp;omega
   have hc:m.nodes[i]=((m.nodes[i].toNat:Nat):Int):=by omega
   refine⟨m.nodes[i].toNat,by show m.nodes[i].toNat<g.nodes.length;omega,hc,(aAa (by omega)).2 ⟨fun hj=>?_,?_⟩⟩
   .rw[<-hc];exact lN.1 (h.dn hj) i hi
   .rw[hl];exact h.ty i hi
  .have r:=h.re _ (aa hi);have hl:(m.edges.take i).length=i:=by simp;omega
   have hc:m.edges[i]=((m.edges[i].toNat:Nat):Int):=by omega
   refine⟨m.edges[i].toNat,by show m.edges[i].toNat<g.edges.length;omega,hc,(aAY (by omega)).2 ⟨fun hj=>?_,?_⟩⟩
   .rw[<-hc];exact lN.1 (h.de hj) i hi
   .rw[hl];exact h.ed i hi
def Sr.fitK(s:Sr)(N:List Int)(i k:Nat):Bool:=if gvB s.pt.edges i k=true then decide (s.g.edges.getD k default=fZ s.p N i) else false
def Sr.posE(s:Sr)(N:List Int)(i:Nat):Bool :=
 if max (s.p.edges.getD i default).fr (s.p.edges.getD i default).to=(N.length:Int)-1 then (List.range s.g.edges.length).any (s.fitK N i) else true
def Sr.pos(s:Sr)(N:List Int):Bool:=(List.range s.p.edges.length).all (s.posE N)
theorem Sr.pos_false{s:Sr}{N:List Int}{i:Nat}(hi:i<s.p.edges.length)(h:s.posE N i=false):s.pos N=false:=by
 unfold Sr.pos;rw[dz];exact⟨i,ay.2 hi,by simp[h]⟩
theorem Sr.pos_true{s:Sr}{N:List Int}(h:∀i,i<s.p.edges.length->s.posE N i=true):s.pos N=true:=by
 unfold Sr.pos;rw[aq];exact fun i hi=>h i (ay.1 hi)
theorem Sr.okE_eq(s:Sr)(N E:List Int)(k:Nat):s.okE N E k=(s.fitK N E.length k&&!usB s.inj E k):=by
 unfold Sr.okE Sr.fitK;cases gvB s.pt.edges E.length k<;>cases usB s.inj E k<;>simp
theorem Sr.pos_dead{s:Sr}(h:s.Ok){N:List Int}(hf:s.pos N=false)(r:Nat):mX s.okN s.g.nodes.length s.okE s.g.edges.length s.p.edges.length r N=[]:=by
 rw[List.eq_nil_iff_forall_not_mem];intro m hm;unfold mX at hm;obtain⟨N',Bg,hm⟩:=gm.1 hm;obtain⟨es,mf,rfl⟩:=bc.1 hm;obtain⟨T,t1,t2,rfl,t4⟩:=gO.1 Bg;obtain⟨U,u1,u2,rfl,u4⟩:=gO.1 mf;unfold Sr.pos at hf;obtain⟨i,hi,p9⟩:=dz.1 hf;have hi:=ay.1 hi;have p9:s.posE N i=false:=by simpa using p9
 unfold Sr.posE at p9;have pg:s.p.edges.getD i default=s.p.edges[i]:=by simp[hi]
 obtain⟨x1,x2,x3,x4⟩:=h.vp _ (aa hi);split at p9
 .rename_i sd;rw[pg] at sd;have Bh:i<U.length:=by omega
  have hu:=u4 i Bh;have hk:=u2 _ (aa Bh);have ju:=d7.1 p9 U[i] (ay.2 hk);have hl:(([]:List Int)++(U.take i).map (fun (k:Nat)=>(k:Int))).length=i:=by simp;omega
  rw[Sr.okE_eq,hl] at hu;have hu:=(Bool.and_eq_true_iff.1 hu).1;unfold Sr.fitK at hu ju;rw[aAi (by rw[pg];omega) (by rw[pg];omega)] at hu;exact ju hu
 .cases p9
abbrev Sr.fnP(s:Sr)(fm:Nat):Nat->List Int->List Mo->List Mo:=zP fm s.okN (fun N k=>s.pos (N++[(k:Int)])) s.g.nodes.length s.okE s.g.edges.length s.p.edges.length
theorem Sr.fnP_eq{s:Sr}(h:s.Ok)(fm r:Nat)(N:List Int)(out:List Mo)(ho:out.length<=fm):s.fnP fm r N out=(out++mX s.okN s.g.nodes.length s.okE s.g.edges.length s.p.edges.length r N).take fm :=
 aBd fm s.okN (fun N k=>s.pos (N++[(k:Int)])) s.g.nodes.length s.okE s.g.edges.length s.p.edges.length (fun _=>True) (fun _ _ _ _ _=>trivial) (fun r N k _ _ hp=>Sr.pos_dead h hp r) r N out trivial ho
theorem Sr.fnP_len{s:Sr}(h:s.Ok){fm r:Nat}{N:List Int}{out:List Mo}(ho:out.length<=fm):(s.fnP fm r N out).length<=fm:=by
 rw[Sr.fnP_eq h _ _ _ _ ho];simp;omega
theorem Sr.fnP_fnR{s:Sr}(h:s.Ok):s.fnP (s.most+1) s.p.nodes.length [] []=s.fnR s.p.nodes.length [] []:=by
 rw[Sr.fnR_all h,Sr.fnP_eq h _ _ _ _ (by simp)];simp
def iB(t:Ty)(a:Int)(i:Nat):List Int:=((List.range i).filter fun (b:Nat)=>isB t (b:Int) a).map fun (b:Nat)=>(b:Int)
theorem aGR(t:Ty)(a:Int):iB t a 0=[]:=rfl
theorem aGI(t:Ty)(a:Int)(i:Nat):iB t a (i+1)=if isB t i a=true then iB t a i++[(i:Int)] else iB t a i:=by
 unfold iB;rw[cn,dm,c7];by_cases h:isB t i a=true<;>simp[h]
theorem aC2(t:Ty)(a:Int)(i:Nat):(iB t a i).length<=i:=by
 unfold iB;rw[br];exact cb (dl _ _) (by simp)
theorem yP{t:Ty}{a x:Int}{i:Nat}:x∈iB t a i↔∃b:Nat,b<i/\isB t b a=true/\x=b:=by
 simp only[iB,bc,ce,ay];constructor
 .rintro⟨b,⟨h1,h2⟩,rfl⟩;exact⟨b,h1,h2,rfl⟩
 .rintro⟨b,h1,h2,rfl⟩;exact⟨b,⟨h1,h2⟩,rfl⟩
theorem aEo(t:Ty)(a:Int)(i:Nat):(iB t a i).Nodup:=by
 refine List.Pairwise.map _ (fun x y h=>?_) (List.nodup_range.filter _);omega
theorem aAJ{ps:List Int}{n:Nat}(hp:∀j,j<n->ps.getD j 0<j):∀(m:Nat) (b:Int),b<m->b<n->∀x∈upI ps b,x=b∨∃j:Nat,j<n/\ps.getD j 0=x
 | 0,b,hm,_,x,hx=>by
  rw[qZ (by omega)] at hx;simp at hx
 | m+1,b,hm,hb,x,hx=>by
  by_cases h0:0<=b
  .have h1:=hp b.toNat (by omega);have tw:ps.getD b.toNat 0<b:=by omega
   rw[wB h0 tw] at hx;rcases ca.1 hx with hx|hx
   .exact .inl hx
   .rcases aAJ hp m _ (by omega) (by omega) x hx with h|h
    .exact .inr ⟨b.toNat,by omega,h.symm⟩
    .exact .inr h
  .rw[qZ (by omega)] at hx;simp at hx
theorem aHO{t:Ty}{a:Int}(h0:0<=a)(ha:a<t.nodes.length)(hp:∀j,j<t.nodes.length->(t.nd j).par<j):isB t a a=true:=by
 have h1:=hp a.toNat (by omega);rw[<-fI t (by omega)] at h1;unfold isB;rw[wB h0 (by omega)];simp
theorem aEO{t:Ty}{a:Int}(h0:0<=a)(ha:a<t.nodes.length)(hp:∀j,j<t.nodes.length->(t.nd j).par<j):(iB t a t.nodes.length).length<=1↔eJ t a=true:=by
 have Dj:∀j,j<t.nodes.length->t.pars.getD j 0<j:=fun j hj=>by rw[fI t hj];exact hp j hj
 have ix:=aHO h0 ha hp;have tu:a∈iB t a t.nodes.length:=yP.2 ⟨a.toNat,by omega,by rw[fq h0];exact ix,by omega⟩
 constructor
 .intro hl;cases hb:eJ t a with
  | true=>rfl
  | false =>
   exfalso
   unfold eJ bB at hb;rw[Bool.not_eq_false'] at hb;obtain⟨n,hn,vg⟩:=dy.1 hb;obtain⟨j,hj,rfl⟩:=bf hn;have A3:t.pars.getD j 0=a:=by
    rw[fI t hj,iV hj];simpa using vg
   have hlt:=Dj j hj;have DX:(j:Int)∈iB t a t.nodes.length:=yP.2 ⟨j,hj,by
    unfold isB;rw[wB (by omega) (by rw[bz];omega),bz,A3];have:a∈upI t.pars a:=by simpa[isB] using ix
    simp[this],rfl⟩
   have:=rN [a,(j:Int)] _ (by simp;omega) (fun x hx=>by
    simp only[ca,List.not_mem_nil,or_false] at hx;rcases hx with rfl|rfl
    .exact tu
    .exact DX)
   simp only[ci,db] at this;omega
 .intro hb;have:=rN (iB t a t.nodes.length) [a] (aEo _ _ _) (fun x hx=>by
   obtain⟨b,tg,Av,rfl⟩:=yP.1 hx;have Av:a∈upI t.pars (b:Int):=by simpa[isB] using Av
   rcases aAJ Dj (b+1) b (by omega) (by omega) a Av with h|⟨j,hj,h⟩
   .simp[h]
   .exfalso
    unfold eJ bB at hb;rw[c9,<-Bool.not_eq_true,dy] at hb;refine hb ⟨_,aa hj,?_⟩;rw[fI t hj,iV hj] at h;simpa using h)
  simpa using this
theorem aIN(x:NT)(y:Int)(box:Bxs)(nb k:Nat)(tok:Tks)(nt:Nat)(h1:box k=some [[I y]]):
  aD prog 245 [x.av,.ptr k 0 0] ⟨box,nb,tok,nt⟩ fun v m=>v=B (x.par==y)/\m=⟨box,nb,tok,nt⟩:=by
 refine sI func245 ntmps245 fun Hb Ht=>?_
 have k1n:=bC Hb h1;repeat first|simp[lO k1n,h1]|refine sR ?_
 refine sT (sH ?_);simp
theorem aK0(t:Ty)(ht:t.nodes.length<=1000000)(k:Int):DC 187 [t.av,I k] (B (eJ t k)):=by
 intro tok nt box nb;obtain⟨p,pm⟩:∃p:NT->Bool,(fun n=>n.par==k)=p:=⟨_,rfl⟩
 have h2:=fun y box nb q oz=>aIN y k box nb q tok nt oz
 have t7:∀y:NT,(y.par==k)=p y:=fun y=>by rw[<-pm]
 simp only[t7] at h2;unfold eJ;rw[pm];refine sI func187 ntmps187 fun Hb Ht=>?_
 repeat first|simp|refine sR ?_
 refine aN.of_b (lX t.nodes 245 [.ptr (nb+3) 0 0] p ht _ _ _ _ (fun c hc=>by rw[a7.1 hc];simp[aQ]) (fun y hy box' nb' he=>h2 y box' nb' _ (he _ _ (by simp[aQ])))) ?_;repeat first|simp|refine sR ?_
 refine sT (sH ?_);simp
theorem aFi(t:Ty)(ht:t.Fit)(g:Gr)(e:E)(h0:0<=e.fr/\e.fr<g.nodes.length)(h2:0<=e.to/\e.to<g.nodes.length)(box:Bxs)(nb k1 k2:Nat)(tok:Tks)(nt:Nat)(h1:box k1=some [[.d (nts t.nodes),.d (ets t.edges)]])(h3:box k2=some [[.d (ints g.nodes),.d (AM.edges g.edges)]]):
  aD prog 189 [.agg [I e.ty,I e.fr,I e.to],.ptr k1 0 0,.ptr k2 0 0] ⟨box,nb,tok,nt⟩ fun v m=>v=B (!lvE t g e)/\m=⟨box,nb,tok,nt⟩:=by
 obtain⟨ty,fr,to'⟩:=e;simp only at h0 h2;obtain⟨a,rfl⟩:=cm h0.1;obtain⟨b,rfl⟩:=cm h2.1;have ha:a<g.nodes.length:=by omega
 have hb:b<g.nodes.length:=by omega
 have hc:=aGj t ht ty g.nodes[a] g.nodes[b];have hL:lvE t g ⟨ty,a,b⟩=pE t ty g.nodes[a] g.nodes[b]:=by simp[lvE,ha,hb]
 rw[hL];generalize pE t ty g.nodes[a] g.nodes[b]=R at *;refine sI func189 ntmps189 fun Hb Ht=>?_
 have k1n:=bC Hb h1;have k2n:=bC Hb h3;repeat first|simp[lO k1n,lO k2n,h1,h3,ha,hb]|refine sR ?_
 refine sD (hc _ _) ?_;repeat first|simp|refine sR ?_
 refine sT (sH ?_);simp
def aQv(t:Ty)(g:Gr)(nb:Nat)(box:Bxs)(tok:Tks)(nt:Nat)(i:Nat):AS :=
 ⟨tl [(10,I i),(9,I g.nodes.length),(8,.d (ints g.nodes)),(3,.ptr (nb+3) 0 0),(2,.ptr (nb+2) 0 0)],lb nb box [(3,[[.d (ints g.nodes),.d (AM.edges g.edges)]]),(2,[[.d (nts t.nodes),.d (ets t.edges)]])],tok,nt⟩
theorem aAD(t:Ty)(ht:t.Fit)(g:Gr)(hg:g.Fit)(hv:∀e∈g.edges,0<=e.fr/\e.fr<g.nodes.length/\0<=e.to/\e.to<g.nodes.length):DC 121 [t.av,g.av] (B (dF t g)):=by
 intro tok nt box nb;have rc:=hg.n;have hge:=hg.e;have qo:=ht.n;obtain⟨N,hN⟩:∃N,dF t g=N:=⟨_,rfl⟩
 rw[hN];unfold dF at hN;refine sI func121 ntmps121 fun Hb Ht=>?_
 repeat first|simp|refine sR ?_
 apply sN;refine sL (aQv t g nb box tok nt) (fun i=>i<=g.nodes.length/\cJ (lvN t) (g.nodes.take i)=true) (fun i=>g.nodes.length-i) 0 ⟨ai _,by simp[cJ]⟩ wkA ?_;rintro i S' ⟨hi,ia⟩ hS;simp only[aQv] at hS;subst hS;have hw:=sW (i:=i) (by omega);repeat first|simp|refine sR ?_|apply sC
 refine⟨fun hlt=>?_,fun hge=>?_⟩
 .have ju:=fun h=>gA (p:=lvN t) hlt h
  have jt:=fun h=>dA (p:=lvN t) hlt ia h
  have hl:lvN t g.nodes[i]=if (t.nodes.length:Int)<=g.nodes[i] then false else eJ t g.nodes[i]:=rfl
  have hc:=aK0 t (by omega) g.nodes[i];by_cases e1:(t.nodes.length:Int)<=g.nodes[i]
  .rw[af e1] at hl;rw[ju hl,ac (by simp)] at hN;repeat first|simp[hlt,e1]|refine sR ?_
   apply sC;simp[e1];repeat first|simp|refine sR ?_
   refine sT (sH ?_);simp[<-hN]
  .rw[ac e1] at hl;repeat first|simp[hlt,e1]|refine sR ?_
   refine sD (hc _ _) ?_;simp;cases e2:eJ t g.nodes[i]
   .rw[e2] at hl;rw[ju hl,ac (by simp)] at hN;repeat first|simp|refine sR ?_
    apply sC;repeat first|simp|refine sR ?_
    refine sT (sH ?_);simp[<-hN]
   .rw[e2] at hl;repeat first|simp[hw]|refine sR ?_|apply sC
    apply sE;exact⟨i+1,⟨hlt,jt hl⟩,by omega,wkA⟩
 .apply sX;simp only[AU,↓reduceIte];have:i=g.nodes.length:=by omega
  subst this;rw[bh] at ia;rw[af ia] at hN;obtain⟨p,pm⟩:∃p:E->Bool,(fun e=>!lvE t g e)=p:=⟨_,rfl⟩
  have h2:=fun y (hy:y∈g.edges) box nb k1 k2 qm hk2=>aFi t ht g y ⟨(hv y hy).1,(hv y hy).2.1⟩ ⟨(hv y hy).2.2.1,(hv y hy).2.2.2⟩ box nb k1 k2 tok nt qm hk2
  have t7:∀y:E,(!lvE t g y)=p y:=fun y=>by rw[<-pm]
  simp only[t7] at h2;have rh:(!bB p g.edges)=N:=by
   rw[<-hN,<-pm,cJ,bB,gb,Bool.not_not];simp
  repeat first|simp|refine sR ?_
  have i8:∀c∈[AV.ptr (nb+2) 0 0,AV.ptr (nb+3) 0 0],bF (fun k=>(lb nb box [(3,[[.d (ints g.nodes),.d (AM.edges g.edges)]]),(2,[[.d (nts t.nodes),.d (ets t.edges)]])]) k≠none) (fun _=>True) c:=by
   intro c hc;simp only[ca,List.not_mem_nil,or_false] at hc;rcases hc with h|h
   .rw[h];simp[aQ]
   .rw[h];simp[aQ]
  refine aN.of_b (eW g.edges 189 [.ptr (nb+2) 0 0,.ptr (nb+3) 0 0] p hg.e _ _ _ _ i8 (fun y hy box' nb' he=>h2 y hy box' nb' _ _ (he _ _ (by simp[aQ])) (he _ _ (by simp[aQ])))) ?_;repeat first|simp|refine sR ?_
  refine sT (sH ?_);simp[<-rh]
def aQl(t:Ty)(k:Int)(nb:Nat)(box:Bxs)(tok:Tks)(nt:Nat)(i:Nat):AS :=
 ⟨tl [(5,I i),(1,I k),(2,.ptr (nb+2) 0 0)],lb nb box [(2,[[.d (nts t.nodes),.d (ets t.edges)]])],tok,nt⟩
theorem aKz(t:Ty)(ht:t.nodes.length<=1000000)(k:Int):DC 100 [t.av,I k] (B (eJ t k)):=by
 intro tok nt box nb;obtain⟨N,hN⟩:∃N,eJ t k=N:=⟨_,rfl⟩
 rw[hN];have rh:cJ (fun n=>!(n.par==k)) t.nodes=N:=by rw[<-hN,cJ,eJ,bB,gb,Bool.not_not]
 clear hN;refine sI func100 ntmps100 fun Hb Ht=>?_
 repeat first|simp|refine sR ?_
 apply sN;refine sL (aQl t k nb box tok nt) (fun i=>i<=t.nodes.length/\cJ (fun n=>!(n.par==k)) (t.nodes.take i)=true) (fun i=>t.nodes.length-i) 0 ⟨ai _,by simp[cJ]⟩ wkA ?_;rintro i S' ⟨hi,ia⟩ hS;simp only[aQl] at hS;subst hS;have hw:=sW (i:=i) (by omega);repeat first|simp|refine sR ?_|apply sC
 refine⟨fun hlt=>?_,fun hge=>?_⟩
 .have ju:=fun h=>gA (p:=fun n:NT=>!(n.par==k)) hlt h
  have jt:=fun h=>dA (p:=fun n:NT=>!(n.par==k)) hlt ia h
  cases e1:t.nodes[i].par==k
  .repeat first|simp[hlt,e1]|refine sR ?_
   apply sC;simp[e1];repeat first|simp[hw]|refine sR ?_
   apply sE;exact⟨i+1,⟨hlt,jt (by simp only[e1];rfl)⟩,by omega,wkA⟩
  .rw[ju (by simp only[e1];rfl)] at rh;repeat first|simp[hlt,e1]|refine sR ?_
   apply sC;simp[e1];repeat first|simp|refine sR ?_
   refine sT (sH ?_);simp[<-rh]
 .apply sX;simp only[AU,↓reduceIte];have:i=t.nodes.length:=by omega
  subst this;rw[bh] at ia;rw[ia] at rh;repeat first|simp|refine sR ?_
  refine sT (sH ?_);simp[<-rh]
def aPw(t:Ty)(g:Gr)(nb:Nat)(box:Bxs)(tok:Tks)(nt:Nat)(i:Nat):AS :=
 ⟨tl [(5,I i),(3,.ptr (nb+3) 0 0),(2,.ptr (nb+2) 0 0)],lb nb box [(3,[[.d (ints g.nodes),.d (AM.edges g.edges)]]),(2,[[.d (nts t.nodes),.d (ets t.edges)]])],tok,nt⟩
def aOm(t:Ty)(g:Gr)(nb:Nat)(box:Bxs)(tok:Tks)(nt:Nat)(i:Nat):AS :=
 ⟨tl [(6,I i),(3,.ptr (nb+3) 0 0),(2,.ptr (nb+2) 0 0)],lb nb box [(3,[[.d (ints g.nodes),.d (AM.edges g.edges)]]),(2,[[.d (nts t.nodes),.d (ets t.edges)]])],tok,nt⟩
theorem oW(t:Ty)(ht:t.Fit)(g:Gr)(hg:g.Fit)(hv:∀e∈g.edges,0<=e.fr/\e.fr<g.nodes.length/\0<=e.to/\e.to<g.nodes.length):DC 131 [t.av,g.av] (B (dF t g)):=by
 intro tok nt box nb;have rc:=hg.n;have hge:=hg.e;have qo:=ht.n;obtain⟨N,hN⟩:∃N,dF t g=N:=⟨_,rfl⟩
 rw[hN];unfold dF at hN;refine sI func131 ntmps131 fun Hb Ht=>?_
 repeat first|simp|refine sR ?_
 apply sN;refine sL (aPw t g nb box tok nt) (fun i=>i<=g.nodes.length/\cJ (lvN t) (g.nodes.take i)=true) (fun i=>g.nodes.length-i) 0 ⟨ai _,by simp[cJ]⟩ wkA ?_;rintro i S' ⟨hi,ia⟩ hS;simp only[aPw] at hS;subst hS;have hw:=sW (i:=i) (by omega);repeat first|simp|refine sR ?_|apply sC
 refine⟨fun hlt=>?_,fun hge=>?_⟩
 .have ju:=fun h=>gA (p:=lvN t) hlt h
  have jt:=fun h=>dA (p:=lvN t) hlt ia h
  have hl:lvN t g.nodes[i]=if (t.nodes.length:Int)<=g.nodes[i] then false else eJ t g.nodes[i]:=rfl
  have hc:=aKz t (by omega) g.nodes[i];by_cases e1:(t.nodes.length:Int)<=g.nodes[i]
  .rw[af e1] at hl;rw[ju hl,ac (by simp)] at hN;repeat first|simp[hlt,e1]|refine sR ?_
   apply sC;simp[e1];repeat first|simp|refine sR ?_
   refine sT (sH ?_);simp[<-hN]
  .rw[ac e1] at hl;repeat first|simp[hlt,e1]|refine sR ?_
   refine sD (hc _ _) ?_;simp;cases e2:eJ t g.nodes[i]
   .rw[e2] at hl;rw[ju hl,ac (by simp)] at hN;repeat first|simp|refine sR ?_
    apply sC;repeat first|simp|refine sR ?_
    refine sT (sH ?_);simp[<-hN]
   .rw[e2] at hl;repeat first|simp[hw]|refine sR ?_|apply sC
    apply sE;exact⟨i+1,⟨hlt,jt hl⟩,by omega,wkA⟩
 .apply sX;simp only[AU,↓reduceIte];have:i=g.nodes.length:=by omega
  subst this;rw[bh] at ia;rw[af ia] at hN;repeat first|simp|refine sR ?_
  apply sN;refine sL (aOm t g nb box tok nt) (fun i=>i<=g.edges.length/\cJ (lvE t g) (g.edges.take i)=true) (fun i=>g.edges.length-i) 0 ⟨ai _,by simp[cJ]⟩ wkA ?_;rintro i S' ⟨hi,ia⟩ hS;simp only[aOm] at hS;subst hS;have hw:=sW (i:=i) (by omega);repeat first|simp|refine sR ?_|apply sC
  refine⟨fun hlt=>?_,fun hge=>?_⟩
  .have ju:=fun h=>gA (p:=lvE t g) hlt h
   have jt:=fun h=>dA (p:=lvE t g) hlt ia h
   have AQ:=hv _ (aa hlt);obtain⟨a,AR⟩:=cm AQ.1;obtain⟨b,AW⟩:=cm AQ.2.2.1;have ha:a<g.nodes.length:=by omega
   have hb:b<g.nodes.length:=by omega
   have hc:=aCP t ht g.edges[i].ty g.nodes[a] g.nodes[b];have hL:lvE t g g.edges[i]=pE t g.edges[i].ty g.nodes[a] g.nodes[b]:=by simp[lvE,AR,AW,ha,hb]
   rw[hL] at ju jt;repeat first|simp[hlt,AR,AW,ha,hb]|refine sR ?_
   refine sD (hc _ _) ?_;simp;cases e1:pE t g.edges[i].ty g.nodes[a] g.nodes[b]
   .rw[ju e1] at hN;repeat first|simp|refine sR ?_
    apply sC;repeat first|simp|refine sR ?_
    refine sT (sH ?_);simp[<-hN]
   .repeat first|simp[hw]|refine sR ?_|apply sC
    apply sE;exact⟨i+1,⟨hlt,jt e1⟩,by omega,wkA⟩
  .apply sX;simp only[AU,↓reduceIte];have:i=g.edges.length:=by omega
   subst this;rw[bh] at ia;rw[ia] at hN;repeat first|simp|refine sR ?_
   refine sT (sH ?_);simp[<-hN]
def aOS(xs:List Xt)(f:FuncId)(caps:List AV)(nb:Nat)(box:Bxs)(tok:Tks)(nt:Nat)(i:Nat):AS:=⟨tl [(0,.d (xts xs)),(1,.fn (.func f) caps),(7,I xs.length),(8,I i)],lb nb box [],tok,nt⟩
theorem aB5(xs:List Xt)(f:FuncId)(caps:List AV)(p:Xt->Bool)(hx:xs.length<=1000000)(box:Bxs)(nb:Nat)(tok:Tks)(nt:Nat)(hc:∀c∈caps,bF (fun k=>box k≠none) (fun _=>True) c)(hf:∀x∈xs,∀box' nb',Ext box box'->aD prog f (x.av::caps) ⟨box',nb',tok,nt⟩ fun v m=>v=B (p x)/\m=⟨box',nb',tok,nt⟩):
  aD prog 191 [.d (xts xs),.fn (.func f) caps] ⟨box,nb,tok,nt⟩ fun v m=>v=I (if bB p xs=true then (xs.findIdx p:Nat) else -1)/\m=⟨box,nb,tok,nt⟩:=by
 refine sI func191 ntmps191 fun Hb Ht=>?_
 repeat first|simp|refine sR ?_
 apply sN;refine sL (aOS xs f caps nb box tok nt) (fun i=>i<=xs.length/\∀x∈xs.take i,p x=false) (fun i=>xs.length-i) 0 ⟨ai _,by simp⟩ (wM (nr0 _) rfl (by simp[ToL];exact .same (lI hc Hb [] (by simp) rfl _)) trivial) ?_;rintro i S' ⟨hi,htk⟩ hS;simp only[aOS] at hS;subst hS;have hw:=sW (i:=i) (by omega);repeat first|simp|refine sR ?_|apply sC
 refine⟨fun hlt=>?_,fun hge=>?_⟩
 .have rp:=hf xs[i] (aa _);have w7:p xs[i]=true->bB p xs=true/\(xs.findIdx p=i):=fun he=>lB hlt htk he
  have ld:p xs[i]=false->∀x∈xs.take (i+1),p x=false:=fun he x hx=>by
   rw[ah hlt] at hx;rcases ap.1 hx with hx|hx
   .exact htk x hx
   .simp at hx;rw[hx];exact he
  repeat first|simp[hlt]|refine sR ?_
  generalize xs[i]=x at *;refine aN.of_b (rp _ _ ((Ext.refl box).lb Hb [])) ?_;simp;cases he:p x
  .apply sC;simp;repeat first|simp[hw]|refine sR ?_
   apply sE;refine⟨i+1,⟨hlt,?_⟩,by omega,wM (nr0 _) rfl (by simp[ToL];exact .same (lI hc Hb [] (by simp) rfl _)) trivial⟩;exact ld he
  .obtain⟨h1,h2⟩:=w7 he;apply sC;repeat first|simp|refine sR ?_
   refine sT (sH ?_);simp[h1,h2]
 .have hn:bB p xs=false:=by
   rw[ak hge] at htk;simpa[bB] using htk
  apply sX;simp only[AU,↓reduceIte];repeat first|simp|refine sR ?_
  refine sT (sH ?_);simp[hn]
theorem vC(xs:List Xt)(f:FuncId)(caps:List AV)(p:Xt->Bool)(hx:xs.length<=1000000)(box:Bxs)(nb:Nat)(tok:Tks)(nt:Nat)(hc:∀c∈caps,bF (fun k=>box k≠none) (fun _=>True) c)(hf:∀x∈xs,∀box' nb',Ext box box'->aD prog f (x.av::caps) ⟨box',nb',tok,nt⟩ fun v m=>v=B (p x)/\m=⟨box',nb',tok,nt⟩):
  aD prog 122 [.d (xts xs),.fn (.func f) caps] ⟨box,nb,tok,nt⟩ fun v m=>v=B (bB p xs)/\m=⟨box,nb,tok,nt⟩:=by
 obtain⟨A,j7⟩:∃A,bB p xs=A:=⟨_,rfl⟩
 have hi:=fun b nb' h1 h2=>aB5 xs f caps p hx b nb' tok nt h1 h2
 rw[j7];simp only[j7] at hi;refine sI func122 ntmps122 fun Hb Ht=>?_
 repeat first|simp|refine sR ?_
 refine aN.of_b (hi (lb nb box []) _ (fun c h=>(hc c h).mono (fun k hk=>by rw[Hb];exact hk) fun _ h=>h) (fun x qs box' nb' he=>hf x qs box' nb' (by rw[Hb] at he;exact he))) ?_;simp;cases A
 .repeat first|simp|refine sR ?_
  refine sT (sH ?_);simp
 .have h0:(0:Int)<=(xs.findIdx p:Nat):=by omega
  repeat first|simp|refine sR ?_
  refine sT (sH ?_);simp[h0]
theorem aFa(g:Gr)(hg:g.Fit):DC 185 [g.av] (B (pB g)):=by
 intro tok nt box nb;have hn:=hg.n;have he:=hg.e;obtain⟨N,hN⟩:∃N,pB g=N:=⟨_,rfl⟩
 rw[hN];unfold pB at hN;by_cases e1:6<g.nodes.length
 .have j9:(6:Int)<g.nodes.length:=by omega
  rw[af e1] at hN;refine sI func185 ntmps185 fun Hb Ht=>?_
  try (simp[e1,j9])
  repeat ((first|refine sR ?_|apply sC|apply sX);simp[e1,j9])
  refine sT (sH ?_);simp[<-hN]
 .have j9:¬(6:Int)<g.nodes.length:=by omega
  rw[ac e1] at hN;by_cases e2:8<g.edges.length
  .have j0:(8:Int)<g.edges.length:=by omega
   rw[bv e2] at hN;refine sI func185 ntmps185 fun Hb Ht=>?_
   try (simp[e1,j9,e2,j0])
   repeat ((first|refine sR ?_|apply sC|apply sX);simp[e1,j9,e2,j0])
   refine sT (sH ?_);simp[<-hN,j0]
  .have j0:¬(8:Int)<g.edges.length:=by omega
   rw[bk e2] at hN;refine sI func185 ntmps185 fun Hb Ht=>?_
   try (simp[e1,j9,e2,j0])
   repeat ((first|refine sR ?_|apply sC|apply sX);simp[e1,j9,e2,j0])
   refine sT (sH ?_);simp[<-hN,j0]
theorem aCH(c:Co):(c.kind=1/\c.exts=[]/\kdE c=0)∨(c.kind=1/\c.exts≠[]/\kdE c=1)∨(c.kind=2/\c.exts=[]/\kdE c=7)∨(c.kind=2/\c.exts≠[]/\6<c.exts.length/\kdE c=3)∨(c.kind=2/\c.exts≠[]/\¬6<c.exts.length/\kdE c=0)∨(c.kind≠1/\c.kind≠2/\kdE c=1):=by
 unfold kdE;by_cases h1:c.kind=1
 .by_cases h2:c.exts=[]<;>simp[h1,h2]
 .by_cases h2:c.kind=2
  .by_cases h3:c.exts=[]
   .simp[h2,h3]
   .by_cases h4:6<c.exts.length<;>simp[h2,h3,h4]
  .simp[h1,h2]
def aKF(c:Co)(nb:Nat)(box:Bxs)(tok:Tks)(nt:Nat)(i:Nat):AS :=
 ⟨tl [(59,I i),(58,I c.exts.length),(57,.d (xts c.exts)),(1,.ptr (nb+1) 0 0)],lb nb box [(1,[c.row])],tok,nt⟩
theorem aNp(c:Co)(hc:c.Fit):DC 120 [c.av] (I (lL c)):=by
 intro tok nt box nb;have h1:=nI c.name hc.name;have h2:=bW c.g hc.g;have h3:=aFa c.g hc.g;have Dk:=hc.n;obtain⟨N,hN⟩:∃N,lL c=N:=⟨_,rfl⟩
 rw[hN];unfold lL at hN;generalize cO c.name=B1 at *;generalize vG c.g=E2 at *;generalize pB c.g=B3 at *;cases B1
 .rw[af rfl] at hN;refine sI func120 ntmps120 fun Hb Ht=>?_
  repeat first|simp|refine sR ?_
  refine sD (h1 _ _) ?_;simp;try (simp)
  repeat ((first|refine sR ?_|apply sC|apply sX);simp)
  refine sT (sH ?_);simp[<-hN]
 .rw[ac (by simp)] at hN;have xp:=fun (h:c.exts≠[])=>dg.2 h
  rcases aCH c with ⟨k1,x1,kd⟩|⟨k1,x1,kd⟩|⟨k1,x1,kd⟩|⟨k1,x1,x2,kd⟩|⟨k1,x1,x2,kd⟩|⟨k1,k2,kd⟩
  .rw[ac (by rw[kd];decide)] at hN;refine sI func120 ntmps120 fun Hb Ht=>?_
   repeat first|simp|refine sR ?_
   refine sD (h1 _ _) ?_;simp;try (simp[k1,x1])
   repeat ((first|refine sR ?_|apply sC|apply sX);simp[k1,x1])
   refine sD (h2 _ _) ?_;repeat first|simp|refine sR ?_
   by_cases v0:E2=0
   .rw[ac (by simp[v0])] at hN;apply sC;simp[v0];repeat first|simp|refine sR ?_
    refine sD (h3 _ _) ?_;simp;cases B3
    .rw[ac (by simp)] at hN;repeat first|simp|refine sR ?_
     apply sC;repeat first|simp|refine sR ?_
     apply sN;refine sL (aKF c nb box tok nt) (fun i=>i<=c.exts.length/\aA (dZ c) i=0) (fun i=>c.exts.length-i) 0 ⟨ai _,rfl⟩ wkA ?_;rintro i S' ⟨hi,ia⟩ hS;simp only[aKF] at hS;subst hS;have hw:=sW (i:=i) (by omega);repeat first|simp|refine sR ?_|apply sC
     refine⟨fun hlt=>?_,fun hge=>?_⟩
     .have hx:=hc.exts _ (aa hlt);have hR:dZ c i≠0->aA (dZ c) c.exts.length=dZ c i:=fun h0=>aL ia h0 _ hlt
      have hnx:dZ c i=0->aA (dZ c) (i+1)=0:=fun h0=>by simp only[aA,ia,h0,↓reduceIte]
      have hd:dZ c i=xtE c.g c.exts[i]:=qM hlt
      unfold xtE at hd;have c1:=lC c.g c.exts[i].g c.exts[i].m hc.g hx.g;have c2:=aFa c.exts[i].g hx.g;have c3:=kH c.g c.exts[i].g c.exts[i].m hc.g hx.g hx.m;generalize dZ c i=E at *;repeat first|simp[hlt]|refine sR ?_
      refine sD (c1 _ _) ?_;repeat first|simp|refine sR ?_
      by_cases f1:aG c.g c.exts[i].g c.exts[i].m=0
      .rw[ac (by simp[f1])] at hd;simp only[f1];apply sC;repeat first|simp|refine sR ?_
       refine sD (c2 _ _) ?_;simp;cases f2:pB c.exts[i].g
       .rw[f2,ac (by simp)] at hd;repeat first|simp|refine sR ?_
        apply sC;repeat first|simp|refine sR ?_
        refine sD (c3 _ _) ?_;simp;cases f3:fV c.g c.exts[i].g c.exts[i].m
        .rw[f3,ac (by simp)] at hd;rw[hR (by rw[hd];decide),hd] at hN;repeat first|simp|refine sR ?_
         apply sC;repeat first|simp|refine sR ?_
         refine sT (sH ?_);simp[<-hN]
        .rw[f3,af rfl] at hd;repeat first|simp[hw]|refine sR ?_|apply sC
         apply sE;exact⟨i+1,⟨hlt,hnx hd⟩,by omega,wkA⟩
       .rw[f2,af rfl] at hd;rw[hR (by rw[hd];decide),hd] at hN;repeat first|simp|refine sR ?_
        apply sC;repeat first|simp|refine sR ?_
        refine sT (sH ?_);simp[<-hN]
      .rw[af f1] at hd;have b1:(aG c.g c.exts[i].g c.exts[i].m != 0)=true:=by simp[f1]
       rw[hR (by rw[hd];exact f1),hd] at hN;simp only[b1];apply sC;repeat first|simp|refine sR ?_
       refine sT (sH ?_);simp[<-hN]
     .apply sX;simp only[AU,↓reduceIte];have:i=c.exts.length:=by omega
      subst this;rw[ia] at hN;repeat first|simp|refine sR ?_
      refine sT (sH ?_);simp[<-hN]
    .rw[af rfl] at hN;repeat first|simp|refine sR ?_
     apply sC;repeat first|simp|refine sR ?_
     refine sT (sH ?_);simp[<-hN]
   .have b0:(E2 != 0)=true:=by simp[v0]
    rw[af v0] at hN;apply sC;simp[v0,b0];repeat first|simp|refine sR ?_
    refine sT (sH ?_);simp[<-hN]
  .rw[af (by rw[kd];decide),kd] at hN;have x1':=xp x1
   refine sI func120 ntmps120 fun Hb Ht=>?_
   repeat first|simp|refine sR ?_
   refine sD (h1 _ _) ?_;simp;try (simp[k1,x1,x1'])
   repeat ((first|refine sR ?_|apply sC|apply sX);simp[k1,x1,x1'])
   refine sT (sH ?_);simp[<-hN]
  .rw[af (by rw[kd];decide),kd] at hN;refine sI func120 ntmps120 fun Hb Ht=>?_
   repeat first|simp|refine sR ?_
   refine sD (h1 _ _) ?_;simp;try (simp[k1,x1])
   repeat ((first|refine sR ?_|apply sC|apply sX);simp[k1,x1])
   refine sT (sH ?_);simp[<-hN]
  .rw[af (by rw[kd];decide),kd] at hN;have x2':(6:Int)<c.exts.length:=by omega
   refine sI func120 ntmps120 fun Hb Ht=>?_
   repeat first|simp|refine sR ?_
   refine sD (h1 _ _) ?_;simp;try (simp[k1,x1,x2,x2'])
   repeat ((first|refine sR ?_|apply sC|apply sX);simp[k1,x1,x2,x2'])
   refine sT (sH ?_);simp[<-hN]
  .rw[ac (by rw[kd];decide)] at hN;have x2':¬(6:Int)<c.exts.length:=by omega
   refine sI func120 ntmps120 fun Hb Ht=>?_
   repeat first|simp|refine sR ?_
   refine sD (h1 _ _) ?_;simp;try (simp[k1,x1,x2,x2'])
   repeat ((first|refine sR ?_|apply sC|apply sX);simp[k1,x1,x2,x2'])
   refine sD (h2 _ _) ?_;repeat first|simp|refine sR ?_
   by_cases v0:E2=0
   .rw[ac (by simp[v0])] at hN;apply sC;simp[v0];repeat first|simp|refine sR ?_
    refine sD (h3 _ _) ?_;simp;cases B3
    .rw[ac (by simp)] at hN;repeat first|simp|refine sR ?_
     apply sC;repeat first|simp|refine sR ?_
     apply sN;refine sL (aKF c nb box tok nt) (fun i=>i<=c.exts.length/\aA (dZ c) i=0) (fun i=>c.exts.length-i) 0 ⟨ai _,rfl⟩ wkA ?_;rintro i S' ⟨hi,ia⟩ hS;simp only[aKF] at hS;subst hS;have hw:=sW (i:=i) (by omega);repeat first|simp|refine sR ?_|apply sC
     refine⟨fun hlt=>?_,fun hge=>?_⟩
     .have hx:=hc.exts _ (aa hlt);have hR:dZ c i≠0->aA (dZ c) c.exts.length=dZ c i:=fun h0=>aL ia h0 _ hlt
      have hnx:dZ c i=0->aA (dZ c) (i+1)=0:=fun h0=>by simp only[aA,ia,h0,↓reduceIte]
      have hd:dZ c i=xtE c.g c.exts[i]:=qM hlt
      unfold xtE at hd;have c1:=lC c.g c.exts[i].g c.exts[i].m hc.g hx.g;have c2:=aFa c.exts[i].g hx.g;have c3:=kH c.g c.exts[i].g c.exts[i].m hc.g hx.g hx.m;generalize dZ c i=E at *;repeat first|simp[hlt]|refine sR ?_
      refine sD (c1 _ _) ?_;repeat first|simp|refine sR ?_
      by_cases f1:aG c.g c.exts[i].g c.exts[i].m=0
      .rw[ac (by simp[f1])] at hd;simp only[f1];apply sC;repeat first|simp|refine sR ?_
       refine sD (c2 _ _) ?_;simp;cases f2:pB c.exts[i].g
       .rw[f2,ac (by simp)] at hd;repeat first|simp|refine sR ?_
        apply sC;repeat first|simp|refine sR ?_
        refine sD (c3 _ _) ?_;simp;cases f3:fV c.g c.exts[i].g c.exts[i].m
        .rw[f3,ac (by simp)] at hd;rw[hR (by rw[hd];decide),hd] at hN;repeat first|simp|refine sR ?_
         apply sC;repeat first|simp|refine sR ?_
         refine sT (sH ?_);simp[<-hN]
        .rw[f3,af rfl] at hd;repeat first|simp[hw]|refine sR ?_|apply sC
         apply sE;exact⟨i+1,⟨hlt,hnx hd⟩,by omega,wkA⟩
       .rw[f2,af rfl] at hd;rw[hR (by rw[hd];decide),hd] at hN;repeat first|simp|refine sR ?_
        apply sC;repeat first|simp|refine sR ?_
        refine sT (sH ?_);simp[<-hN]
      .rw[af f1] at hd;have b1:(aG c.g c.exts[i].g c.exts[i].m != 0)=true:=by simp[f1]
       rw[hR (by rw[hd];exact f1),hd] at hN;simp only[b1];apply sC;repeat first|simp|refine sR ?_
       refine sT (sH ?_);simp[<-hN]
     .apply sX;simp only[AU,↓reduceIte];have:i=c.exts.length:=by omega
      subst this;rw[ia] at hN;repeat first|simp|refine sR ?_
      refine sT (sH ?_);simp[<-hN]
    .rw[af rfl] at hN;repeat first|simp|refine sR ?_
     apply sC;repeat first|simp|refine sR ?_
     refine sT (sH ?_);simp[<-hN]
   .have b0:(E2 != 0)=true:=by simp[v0]
    rw[af v0] at hN;apply sC;simp[v0,b0];repeat first|simp|refine sR ?_
    refine sT (sH ?_);simp[<-hN]
  .rw[af (by rw[kd];decide),kd] at hN;have b1:(c.kind==1)=false:=by simp[k1]
   have b2:(c.kind==2)=false:=by simp[k2]
   have b3:(c.kind != 1)=true:=by simp[k1]
   have b4:(c.kind != 2)=true:=by simp[k2]
   refine sI func120 ntmps120 fun Hb Ht=>?_
   repeat first|simp|refine sR ?_
   refine sD (h1 _ _) ?_;simp;try (simp[k1,k2,b1,b2,b3,b4])
   repeat ((first|refine sR ?_|apply sC|apply sX);simp[k1,k2,b1,b2,b3,b4])
   refine sT (sH ?_);simp[<-hN]
theorem aHd(t:Ty)(ht:t.Fit)(x:Xt)(hx:x.g.Fit)(hv:∀e∈x.g.edges,0<=e.fr/\e.fr<x.g.nodes.length/\0<=e.to/\e.to<x.g.nodes.length)(box:Bxs)(nb k1:Nat)(tok:Tks)(nt:Nat)(h1:box k1=some [[.d (nts t.nodes),.d (ets t.edges)]]):
  aD prog 123 [x.av,.ptr k1 0 0] ⟨box,nb,tok,nt⟩ fun v m=>v=B (!dF t x.g)/\m=⟨box,nb,tok,nt⟩:=by
 have hc:=aAD t ht x.g hx hv;generalize dF t x.g=R at *;refine sI func123 ntmps123 fun Hb Ht=>?_
 have k1n:=bC Hb h1;repeat first|simp[lO k1n,h1]|refine sR ?_
 refine sD (hc _ _) ?_;repeat first|simp|refine sR ?_
 refine sT (sH ?_);simp
theorem aCY(t:Ty)(ht:t.Fit)(c:Co)(hc:c.Fit):DC 73 [t.av,c.av] (I (cnE t c)):=by
 intro tok nt box nb;have h1:=nW t ht ht.hM;have h2:=aNp c hc;have hv:=@tG c;obtain⟨N,hN⟩:∃N,cnE t c=N:=⟨_,rfl⟩
 rw[hN];unfold cnE at hN;generalize tyE t=E at *;generalize tyN t=Z at *;generalize lL c=S at *;refine sI func73 ntmps73 fun Hb Ht=>?_
 repeat first|simp|refine sR ?_
 refine sD (h1 _ _) ?_;repeat first|simp|refine sR ?_
 by_cases e1:E=0
 .rw[ac (by simp[e1])] at hN;apply sC;simp[e1];repeat first|simp|refine sR ?_
  refine sD (h2 _ _) ?_;repeat first|simp|refine sR ?_
  by_cases e2:S=0
  .rw[ac (by simp[e2])] at hN;obtain⟨_,_,v1,_,v2⟩:=hv e2;have l1:=aAD t ht c.g hc.g (aE v1);have l2:=fun x (hx:x∈c.exts)=>aHd t ht x (hc.exts x hx).g (aE (lE (v2 x hx).1).vb)
   unfold lvX at hN;apply sC;simp[e2];repeat first|simp|refine sR ?_
   refine sD (l1 _ _) ?_;simp;cases e3:dF t c.g
   .rw[e3,ac (by simp)] at hN;repeat first|simp|refine sR ?_
    apply sC;repeat first|simp|refine sR ?_
    refine sT (sH ?_);simp[<-hN]
   .rw[e3,af rfl] at hN;obtain⟨p,pm⟩:∃p:Xt->Bool,(fun x:Xt=>!dF t x.g)=p:=⟨_,rfl⟩
    have t7:∀y:Xt,(!dF t y.g)=p y:=fun y=>by rw[<-pm]
    simp only[t7] at l2;have rh:(!bB p c.exts)=cJ (fun x:Xt=>dF t x.g) c.exts:=by
     rw[<-pm,cJ,bB,gb,Bool.not_not];simp
    rw[<-rh] at hN;repeat first|simp|refine sR ?_
    refine aN.of_b (vC c.exts 123 [.ptr (nb+2) 0 0] p hc.n _ _ _ _ (fun c hc=>by rw[a7.1 hc];simp[aQ]) (fun y hy box' nb' he=>l2 y hy box' nb' _ _ _ (he _ _ (by simp[aQ])))) ?_;simp;cases e4:bB p c.exts
    .rw[e4,Bool.not_false,af rfl] at hN;repeat first|simp|refine sR ?_
     apply sC;repeat first|simp|refine sR ?_
     refine sT (sH ?_);simp[<-hN]
    .rw[e4,Bool.not_true,ac (by simp)] at hN;repeat first|simp|refine sR ?_
     apply sC;repeat first|simp|refine sR ?_
     refine sT (sH ?_);simp[<-hN]
  .rw[af e2] at hN;have b2:(S != 0)=true:=by simp[e2]
   apply sC;simp[b2];repeat first|simp|refine sR ?_
   refine sT (sH ?_);simp[<-hN]
 .rw[af e1] at hN;have b1:(E != 0)=true:=by simp[e1]
  apply sC;simp[b1];repeat first|simp|refine sR ?_
  refine sT (sH ?_);simp[<-hN]
theorem aB8(g:Gr)(p:Mo)(hg:g.Fit)(hp:p.Fit)(h:cU g p≠0):DC 69 [g.av,p.av] (.tup [(Gr.mk [] []).av,(Mo.mk [] []).av,I (cU g p)]):=by
 intro tok nt box nb;have h1:=rK g p hg hp;have b1:(cU g p != 0)=true:=by simp[h]
 generalize cU g p=E at *;refine sI func69 ntmps69 fun Hb Ht=>?_
 repeat first|simp|refine sR ?_
 refine sD (h1 _ _) ?_;repeat first|simp[b1]|refine sR ?_|apply sC
 refine sT (sH ?_);simp[ints,AM.edges]
def aPB(r:Ru)(nb:Nat)(box:Bxs)(tok:Tks)(nt:Nat)(i:Nat):AS :=
 ⟨tl [(62,I i),(61,I 2),(60,.osl 5 [[ints r.lg.nodes,AM.edges r.lg.edges,iE r.lsl,.raw (.int .i64 r.lv),iG r.lte],[ints r.rg.nodes,AM.edges r.rg.edges,iE r.rsl,.raw (.int .i64 r.rv),iG r.rte]] .full),(1,.ptr (nb+1) 0 0)],lb nb box [(1,[r.row])],tok,nt⟩
theorem xS(r:Ru)(hr:r.Fit):DC 201 [r.av] (I (cQ r)):=by
 intro tok nt box nb;have h1:=bW r.lg hr.lg;have h2:=bW r.rg hr.rg;have h3:=aB8 r.lg r.k hr.lg hr.k;have h4:=fun h=>aEQ r.lg r.k hr.lg hr.k h
 have h5:=fun h=>lC (exG r.lg r.k) r.rg r.i h hr.rg
 have h6:=fun h=>kH (exG r.lg r.k) r.rg r.i h hr.rg hr.i
 refine sI func201 ntmps201 fun Hb Ht=>?_
 repeat first|simp|refine sR ?_
 refine sD (h1 _ _) ?_;repeat first|simp|refine sR ?_
 by_cases e1:vG r.lg=0
 .simp only[e1];apply sC;repeat first|simp|refine sR ?_
  refine sD (h2 _ _) ?_;repeat first|simp|refine sR ?_
  by_cases e2:vG r.rg=0
  .simp only[e2];apply sC;repeat first|simp|refine sR ?_
   by_cases e3:cU r.lg r.k=0
   .have hp:=VP.of e3;have hx:=hp.emb.fit.2.1;refine sD (h4 hp _ _) ?_;repeat first|simp|refine sR ?_
    apply sC;repeat first|simp|refine sR ?_
    refine sD (h5 hx _ _) ?_;repeat first|simp|refine sR ?_
    by_cases e4:aG (exG r.lg r.k) r.rg r.i=0
    .simp only[e4];apply sC;repeat first|simp|refine sR ?_
     refine sD (h6 hx _ _) ?_;repeat first|simp|refine sR ?_
     cases e5:fV (exG r.lg r.k) r.rg r.i
     .apply sC;repeat first|simp|refine sR ?_
      refine sT (sH ?_);simp[cQ,e1,e2,e3,e4,e5]
     .apply sC;repeat first|simp|refine sR ?_
      have zg:=hr.ls;have hlt:=hr.lt;have qj:=hr.rs;have Cu:=hr.rt;rw[bP] at zg hlt qj Cu;have w1:IntKind.i64.wrap ((r.lsl.length:Int)+r.lte.length)=((r.lsl.length+r.lte.length:Nat):Int):=by rw[aM (by omega) (by omega)];omega
      have w2:IntKind.i64.wrap ((r.rsl.length:Int)+r.rte.length)=((r.rsl.length+r.rte.length:Nat):Int):=by rw[aM (by omega) (by omega)];omega
      refine⟨rfl,?_⟩;repeat first|simp|refine sR ?_
      apply sN;refine sL (aPB r nb box tok nt) (fun i=>i<=2/\(1<=i->r.plainL)/\(2<=i->r.plainR)) (fun i=>2-i) 0 ⟨by omega,by omega,by omega⟩ wkA ?_;rintro i S ⟨hi,mg,Aq⟩ hS;simp only[aPB] at hS;subst hS;obtain rfl|rfl|rfl:i=0∨i=1∨i=2:=by omega
      .have hw:IntKind.i64.wrap 1=1:=rfl
       repeat (first|simp|refine sR ?_)
       apply sC
       repeat (first|simp|refine sR ?_)
       by_cases s2:r.lv=0
       .have b2:(r.lv != 0)=false:=by simp[s2]
        by_cases s1:(0:Int)<(r.lsl.length:Int)+r.lte.length
        .have hne:¬r.plainL:=fun h=>by have:=h.1;omega
         try (simp[w1,s1,b2])
         repeat ((first|refine sR ?_|apply sC|apply sX);simp[w1,s1,b2])
         refine sT (sH ?_);simp[cQ,e1,e2,e3,e4,e5,hne]
        .have jt:r.plainL:=⟨by omega,s2⟩
         try (simp[w1,s1,b2,hw])
         repeat ((first|refine sR ?_|apply sC|apply sX);simp[w1,s1,b2,hw])
         apply sE;exact⟨1,⟨by omega,fun _=>jt,by omega⟩,by omega,wkA⟩
       .have hne:¬r.plainL:=fun h=>s2 h.2
        have b2:(r.lv != 0)=true:=by simp[s2]
        try (simp[b2])
        repeat ((first|refine sR ?_|apply sC|apply sX);simp[b2])
        refine sT (sH ?_);simp[cQ,e1,e2,e3,e4,e5,hne]
      .have hw:IntKind.i64.wrap 2=2:=rfl
       have hl:=mg (by omega);repeat (first|simp|refine sR ?_)
       apply sC
       repeat (first|simp|refine sR ?_)
       by_cases s2:r.rv=0
       .have b2:(r.rv != 0)=false:=by simp[s2]
        by_cases s1:(0:Int)<(r.rsl.length:Int)+r.rte.length
        .have hne:¬r.plainR:=fun h=>by have:=h.1;omega
         try (simp[w2,s1,b2])
         repeat ((first|refine sR ?_|apply sC|apply sX);simp[w2,s1,b2])
         refine sT (sH ?_);simp[cQ,e1,e2,e3,e4,e5,hne]
        .have jt:r.plainR:=⟨by omega,s2⟩
         try (simp[w2,s1,b2,hw])
         repeat ((first|refine sR ?_|apply sC|apply sX);simp[w2,s1,b2,hw])
         apply sE;exact⟨2,⟨by omega,fun _=>hl,fun _=>jt⟩,by omega,wkA⟩
       .have hne:¬r.plainR:=fun h=>s2 h.2
        have b2:(r.rv != 0)=true:=by simp[s2]
        try (simp[b2])
        repeat ((first|refine sR ?_|apply sC|apply sX);simp[b2])
        refine sT (sH ?_);simp[cQ,e1,e2,e3,e4,e5,hne]
      .have hl:=mg (by omega);have hr2:=Aq (by omega);repeat first|simp|refine sR ?_|apply sC
       apply sX;simp only[AU,↓reduceIte];repeat first|simp|refine sR ?_
       cases jf:r.inj
       .apply sC;repeat first|simp|refine sR ?_
        refine sT (sH ?_);simp[cQ,e1,e2,e3,e4,e5,hl,hr2,jf]
       .apply sC;repeat first|simp|refine sR ?_
        refine sT (sH ?_);simp[cQ,e1,e2,e3,e4,e5,hl,hr2,jf]
    .have b4:(aG (exG r.lg r.k) r.rg r.i != 0)=true:=by simp[e4]
     simp only[b4];apply sC;repeat first|simp|refine sR ?_
     refine sT (sH ?_);simp[cQ,e1,e2,e3,e4]
   .have b3:(cU r.lg r.k != 0)=true:=by simp[e3]
    refine sD (h3 e3 _ _) ?_;repeat first|simp|refine sR ?_
    simp only[b3];apply sC;repeat first|simp|refine sR ?_
    refine sT (sH ?_);simp[cQ,e1,e2,e3]
  .have b2:(vG r.rg != 0)=true:=by simp[e2]
   simp only[b2];apply sC;repeat first|simp|refine sR ?_
   refine sT (sH ?_);simp[cQ,e1,e2]
 .have b1:(vG r.lg != 0)=true:=by simp[e1]
  simp only[b1];apply sC;repeat first|simp|refine sR ?_
  refine sT (sH ?_);simp[cQ,e1]
def qE(l r into:List Int)(i:Nat):Bool:=if decide ((i:Int)∈into)=true then false else decide (l.getD i 0∈r)
def eA(l r into:List Int):Bool:=bB (qE l r into) (List.range l.length)
theorem aCy{l r into:List Int}(h:∀j,j<l.length->qE l r into j=false):eA l r into=false:=by
 unfold eA bB;rw[d7];intro x hx;rw[h x (ay.1 hx)];simp
theorem aAc{l r into:List Int}{i:Nat}(hi:i<l.length)(h:qE l r into i=true):eA l r into=true:=by
 unfold eA bB;rw[dy];exact⟨i,ay.2 hi,h⟩
def qW(r:Ru)(o:Ov):Bool:=if eA o.l.nodes o.r.nodes r.i.nodes=true then true else eA o.l.edges o.r.edges r.i.edges
def rC(t:Ty)(r:Ru)(c:Co):Int:=if tyE t≠0 then tyE t else if cQ r≠0 then cQ r else if dF t r.lg=true then (if dF t r.rg=true then cnE t c else 13) else 13
def cH(t:Ty)(r:Ru)(c:Co):List Ov × Int :=
 if rC t r c≠0 then ([],rC t r c) else if c.kind=1 then (if (oR r.rg c.g).2≠0 then ([],(oR r.rg c.g).2) else ((oR r.rg c.g).1.filter (qW r),0)) else ([],8)
theorem aEN(g:Gr)(hg:g.Fit):DC 166 [g.av] (B (pB g)):=by
 intro tok nt box nb;have hn:=hg.n;have he:=hg.e;obtain⟨N,hN⟩:∃N,pB g=N:=⟨_,rfl⟩
 rw[hN];unfold pB at hN;by_cases e1:6<g.nodes.length
 .have j9:(6:Int)<g.nodes.length:=by omega
  rw[af e1] at hN;refine sI func166 ntmps166 fun Hb Ht=>?_
  try (simp[e1,j9])
  repeat ((first|refine sR ?_|apply sC|apply sX);simp[e1,j9])
  refine sT (sH ?_);simp[<-hN]
 .have j9:¬(6:Int)<g.nodes.length:=by omega
  rw[ac e1] at hN;by_cases e2:8<g.edges.length
  .have j0:(8:Int)<g.edges.length:=by omega
   rw[bv e2] at hN;refine sI func166 ntmps166 fun Hb Ht=>?_
   try (simp[e1,j9,e2,j0])
   repeat ((first|refine sR ?_|apply sC|apply sX);simp[e1,j9,e2,j0])
   refine sT (sH ?_);simp[<-hN,j0]
  .have j0:¬(8:Int)<g.edges.length:=by omega
   rw[bk e2] at hN;refine sI func166 ntmps166 fun Hb Ht=>?_
   try (simp[e1,j9,e2,j0])
   repeat ((first|refine sR ?_|apply sC|apply sX);simp[e1,j9,e2,j0])
   refine sT (sH ?_);simp[<-hN,j0]
def aKT(c:Co)(nb:Nat)(box:Bxs)(tok:Tks)(nt:Nat)(i:Nat):AS :=
 ⟨tl [(4,I i),(1,.ptr (nb+1) 0 0)],lb nb box [(1,[c.row])],tok,nt⟩
theorem aIa(c:Co)(hc:c.Fit):DC 108 [c.av] (I (lL c)):=by
 intro tok nt box nb;have h1:=jA c.name hc.name;have h2:=dU c.g hc.g;have h3:=aEN c.g hc.g;have Dk:=hc.n;obtain⟨N,hN⟩:∃N,lL c=N:=⟨_,rfl⟩
 rw[hN];unfold lL at hN;generalize cO c.name=B1 at *;generalize vG c.g=E2 at *;generalize pB c.g=B3 at *;cases B1
 .rw[af rfl] at hN;refine sI func108 ntmps108 fun Hb Ht=>?_
  repeat first|simp|refine sR ?_
  refine sD (h1 _ _) ?_;simp;try (simp)
  repeat ((first|refine sR ?_|apply sC|apply sX);simp)
  refine sT (sH ?_);simp[<-hN]
 .rw[ac (by simp)] at hN;have xp:=fun (h:c.exts≠[])=>dg.2 h
  rcases aCH c with ⟨k1,x1,kd⟩|⟨k1,x1,kd⟩|⟨k1,x1,kd⟩|⟨k1,x1,x2,kd⟩|⟨k1,x1,x2,kd⟩|⟨k1,k2,kd⟩
  .rw[ac (by rw[kd];decide)] at hN;refine sI func108 ntmps108 fun Hb Ht=>?_
   repeat first|simp|refine sR ?_
   refine sD (h1 _ _) ?_;simp;try (simp[k1,x1])
   repeat ((first|refine sR ?_|apply sC|apply sX);simp[k1,x1])
   refine sD (h2 _ _) ?_;repeat first|simp|refine sR ?_
   by_cases v0:E2=0
   .rw[ac (by simp[v0])] at hN;apply sC;simp[v0];repeat first|simp|refine sR ?_
    refine sD (h3 _ _) ?_;simp;cases B3
    .rw[ac (by simp)] at hN;repeat first|simp|refine sR ?_
     apply sC;repeat first|simp|refine sR ?_
     apply sN;refine sL (aKT c nb box tok nt) (fun i=>i<=c.exts.length/\aA (dZ c) i=0) (fun i=>c.exts.length-i) 0 ⟨ai _,rfl⟩ wkA ?_;rintro i S' ⟨hi,ia⟩ hS;simp only[aKT] at hS;subst hS;have hw:=sW (i:=i) (by omega);repeat first|simp|refine sR ?_|apply sC
     refine⟨fun hlt=>?_,fun hge=>?_⟩
     .have hx:=hc.exts _ (aa hlt);have hR:dZ c i≠0->aA (dZ c) c.exts.length=dZ c i:=fun h0=>aL ia h0 _ hlt
      have hnx:dZ c i=0->aA (dZ c) (i+1)=0:=fun h0=>by simp only[aA,ia,h0,↓reduceIte]
      have hd:dZ c i=xtE c.g c.exts[i]:=qM hlt
      unfold xtE at hd;have c1:=kK c.g c.exts[i].g c.exts[i].m hc.g hx.g;have c2:=aEN c.exts[i].g hx.g;have c3:=kI c.g c.exts[i].g c.exts[i].m hc.g hx.g hx.m;generalize dZ c i=E at *;repeat first|simp[hlt]|refine sR ?_
      refine sD (c1 _ _) ?_;repeat first|simp|refine sR ?_
      by_cases f1:aG c.g c.exts[i].g c.exts[i].m=0
      .rw[ac (by simp[f1])] at hd;simp only[f1];apply sC;repeat first|simp|refine sR ?_
       refine sD (c2 _ _) ?_;simp;cases f2:pB c.exts[i].g
       .rw[f2,ac (by simp)] at hd;repeat first|simp|refine sR ?_
        apply sC;repeat first|simp|refine sR ?_
        refine sD (c3 _ _) ?_;simp;cases f3:fV c.g c.exts[i].g c.exts[i].m
        .rw[f3,ac (by simp)] at hd;rw[hR (by rw[hd];decide),hd] at hN;repeat first|simp|refine sR ?_
         apply sC;repeat first|simp|refine sR ?_
         refine sT (sH ?_);simp[<-hN]
        .rw[f3,af rfl] at hd;repeat first|simp[hw]|refine sR ?_|apply sC
         apply sE;exact⟨i+1,⟨hlt,hnx hd⟩,by omega,wkA⟩
       .rw[f2,af rfl] at hd;rw[hR (by rw[hd];decide),hd] at hN;repeat first|simp|refine sR ?_
        apply sC;repeat first|simp|refine sR ?_
        refine sT (sH ?_);simp[<-hN]
      .rw[af f1] at hd;have b1:(aG c.g c.exts[i].g c.exts[i].m != 0)=true:=by simp[f1]
       rw[hR (by rw[hd];exact f1),hd] at hN;simp only[b1];apply sC;repeat first|simp|refine sR ?_
       refine sT (sH ?_);simp[<-hN]
     .apply sX;simp only[AU,↓reduceIte];have:i=c.exts.length:=by omega
      subst this;rw[ia] at hN;repeat first|simp|refine sR ?_
      refine sT (sH ?_);simp[<-hN]
    .rw[af rfl] at hN;repeat first|simp|refine sR ?_
     apply sC;repeat first|simp|refine sR ?_
     refine sT (sH ?_);simp[<-hN]
   .have b0:(E2 != 0)=true:=by simp[v0]
    rw[af v0] at hN;apply sC;simp[v0,b0];repeat first|simp|refine sR ?_
    refine sT (sH ?_);simp[<-hN]
  .rw[af (by rw[kd];decide),kd] at hN;have x1':=xp x1
   refine sI func108 ntmps108 fun Hb Ht=>?_
   repeat first|simp|refine sR ?_
   refine sD (h1 _ _) ?_;simp;try (simp[k1,x1,x1'])
   repeat ((first|refine sR ?_|apply sC|apply sX);simp[k1,x1,x1'])
   refine sT (sH ?_);simp[<-hN]
  .rw[af (by rw[kd];decide),kd] at hN;refine sI func108 ntmps108 fun Hb Ht=>?_
   repeat first|simp|refine sR ?_
   refine sD (h1 _ _) ?_;simp;try (simp[k1,x1])
   repeat ((first|refine sR ?_|apply sC|apply sX);simp[k1,x1])
   refine sT (sH ?_);simp[<-hN]
  .rw[af (by rw[kd];decide),kd] at hN;have x2':(6:Int)<c.exts.length:=by omega
   refine sI func108 ntmps108 fun Hb Ht=>?_
   repeat first|simp|refine sR ?_
   refine sD (h1 _ _) ?_;simp;try (simp[k1,x1,x2,x2'])
   repeat ((first|refine sR ?_|apply sC|apply sX);simp[k1,x1,x2,x2'])
   refine sT (sH ?_);simp[<-hN]
  .rw[ac (by rw[kd];decide)] at hN;have x2':¬(6:Int)<c.exts.length:=by omega
   refine sI func108 ntmps108 fun Hb Ht=>?_
   repeat first|simp|refine sR ?_
   refine sD (h1 _ _) ?_;simp;try (simp[k1,x1,x2,x2'])
   repeat ((first|refine sR ?_|apply sC|apply sX);simp[k1,x1,x2,x2'])
   refine sD (h2 _ _) ?_;repeat first|simp|refine sR ?_
   by_cases v0:E2=0
   .rw[ac (by simp[v0])] at hN;apply sC;simp[v0];repeat first|simp|refine sR ?_
    refine sD (h3 _ _) ?_;simp;cases B3
    .rw[ac (by simp)] at hN;repeat first|simp|refine sR ?_
     apply sC;repeat first|simp|refine sR ?_
     apply sN;refine sL (aKT c nb box tok nt) (fun i=>i<=c.exts.length/\aA (dZ c) i=0) (fun i=>c.exts.length-i) 0 ⟨ai _,rfl⟩ wkA ?_;rintro i S' ⟨hi,ia⟩ hS;simp only[aKT] at hS;subst hS;have hw:=sW (i:=i) (by omega);repeat first|simp|refine sR ?_|apply sC
     refine⟨fun hlt=>?_,fun hge=>?_⟩
     .have hx:=hc.exts _ (aa hlt);have hR:dZ c i≠0->aA (dZ c) c.exts.length=dZ c i:=fun h0=>aL ia h0 _ hlt
      have hnx:dZ c i=0->aA (dZ c) (i+1)=0:=fun h0=>by simp only[aA,ia,h0,↓reduceIte]
      have hd:dZ c i=xtE c.g c.exts[i]:=qM hlt
      unfold xtE at hd;have c1:=kK c.g c.exts[i].g c.exts[i].m hc.g hx.g;have c2:=aEN c.exts[i].g hx.g;have c3:=kI c.g c.exts[i].g c.exts[i].m hc.g hx.g hx.m;generalize dZ c i=E at *;repeat first|simp[hlt]|refine sR ?_
      refine sD (c1 _ _) ?_;repeat first|simp|refine sR ?_
      by_cases f1:aG c.g c.exts[i].g c.exts[i].m=0
      .rw[ac (by simp[f1])] at hd;simp only[f1];apply sC;repeat first|simp|refine sR ?_
       refine sD (c2 _ _) ?_;simp;cases f2:pB c.exts[i].g
       .rw[f2,ac (by simp)] at hd;repeat first|simp|refine sR ?_
        apply sC;repeat first|simp|refine sR ?_
        refine sD (c3 _ _) ?_;simp;cases f3:fV c.g c.exts[i].g c.exts[i].m
        .rw[f3,ac (by simp)] at hd;rw[hR (by rw[hd];decide),hd] at hN;repeat first|simp|refine sR ?_
         apply sC;repeat first|simp|refine sR ?_
         refine sT (sH ?_);simp[<-hN]
        .rw[f3,af rfl] at hd;repeat first|simp[hw]|refine sR ?_|apply sC
         apply sE;exact⟨i+1,⟨hlt,hnx hd⟩,by omega,wkA⟩
       .rw[f2,af rfl] at hd;rw[hR (by rw[hd];decide),hd] at hN;repeat first|simp|refine sR ?_
        apply sC;repeat first|simp|refine sR ?_
        refine sT (sH ?_);simp[<-hN]
      .rw[af f1] at hd;have b1:(aG c.g c.exts[i].g c.exts[i].m != 0)=true:=by simp[f1]
       rw[hR (by rw[hd];exact f1),hd] at hN;simp only[b1];apply sC;repeat first|simp|refine sR ?_
       refine sT (sH ?_);simp[<-hN]
     .apply sX;simp only[AU,↓reduceIte];have:i=c.exts.length:=by omega
      subst this;rw[ia] at hN;repeat first|simp|refine sR ?_
      refine sT (sH ?_);simp[<-hN]
    .rw[af rfl] at hN;repeat first|simp|refine sR ?_
     apply sC;repeat first|simp|refine sR ?_
     refine sT (sH ?_);simp[<-hN]
   .have b0:(E2 != 0)=true:=by simp[v0]
    rw[af v0] at hN;apply sC;simp[v0,b0];repeat first|simp|refine sR ?_
    refine sT (sH ?_);simp[<-hN]
  .rw[af (by rw[kd];decide),kd] at hN;have b1:(c.kind==1)=false:=by simp[k1]
   have b2:(c.kind==2)=false:=by simp[k2]
   have b3:(c.kind != 1)=true:=by simp[k1]
   have b4:(c.kind != 2)=true:=by simp[k2]
   refine sI func108 ntmps108 fun Hb Ht=>?_
   repeat first|simp|refine sR ?_
   refine sD (h1 _ _) ?_;simp;try (simp[k1,k2,b1,b2,b3,b4])
   repeat ((first|refine sR ?_|apply sC|apply sX);simp[k1,k2,b1,b2,b3,b4])
   refine sT (sH ?_);simp[<-hN]
def aQU(t:Ty)(c:Co)(nb:Nat)(box:Bxs)(tok:Tks)(nt:Nat)(i:Nat):AS :=
 ⟨tl [(8,I i),(3,.ptr (nb+3) 0 0),(2,.ptr (nb+2) 0 0)],lb nb box [(3,[c.row]),(2,[[.d (nts t.nodes),.d (ets t.edges)]])],tok,nt⟩
theorem aDn(t:Ty)(ht:t.Fit)(c:Co)(hc:c.Fit):DC 79 [t.av,c.av] (I (cnE t c)):=by
 intro tok nt box nb;have h1:=kQ t ht ht.hM;have h2:=aIa c hc;have Dk:=hc.n;have hv:=@tG c;obtain⟨N,hN⟩:∃N,cnE t c=N:=⟨_,rfl⟩
 rw[hN];unfold cnE at hN;generalize tyE t=E at *;generalize tyN t=Z at *;generalize lL c=S at *;refine sI func79 ntmps79 fun Hb Ht=>?_
 repeat first|simp|refine sR ?_
 refine sD (h1 _ _) ?_;repeat first|simp|refine sR ?_
 by_cases e1:E=0
 .rw[ac (by simp[e1])] at hN;apply sC;simp[e1];repeat first|simp|refine sR ?_
  refine sD (h2 _ _) ?_;repeat first|simp|refine sR ?_
  by_cases e2:S=0
  .rw[ac (by simp[e2])] at hN;obtain⟨_,_,v1,_,v2⟩:=hv e2;have l1:=oW t ht c.g hc.g (aE v1);have l2:=fun x (hx:x∈c.exts)=>oW t ht x.g (hc.exts x hx).g (aE (lE (v2 x hx).1).vb)
   unfold lvX at hN;apply sC;simp[e2];repeat first|simp|refine sR ?_
   refine sD (l1 _ _) ?_;simp;cases e3:dF t c.g
   .rw[e3,ac (by simp)] at hN;repeat first|simp|refine sR ?_
    apply sC;repeat first|simp|refine sR ?_
    refine sT (sH ?_);simp[<-hN]
   .rw[e3,af rfl] at hN;repeat first|simp|refine sR ?_
    apply sC;repeat first|simp|refine sR ?_
    apply sN;refine sL (aQU t c nb box tok nt) (fun i=>i<=c.exts.length/\cJ (fun x:Xt=>dF t x.g) (c.exts.take i)=true) (fun i=>c.exts.length-i) 0 ⟨ai _,by simp[cJ]⟩ wkA ?_;rintro i S' ⟨hi,ia⟩ hS;simp only[aQU] at hS;subst hS;have hw:=sW (i:=i) (by omega);repeat first|simp|refine sR ?_|apply sC
    refine⟨fun hlt=>?_,fun hge=>?_⟩
    .have ju:=fun h=>gA (p:=fun x:Xt=>dF t x.g) hlt h
     have jt:=fun h=>dA (p:=fun x:Xt=>dF t x.g) hlt ia h
     have hcx:=l2 _ (aa hlt);repeat first|simp[hlt]|refine sR ?_
     refine sD (hcx _ _) ?_;simp;cases e4:dF t c.exts[i].g
     .rw[ju e4,ac (by simp)] at hN;repeat first|simp|refine sR ?_
      apply sC;repeat first|simp|refine sR ?_
      refine sT (sH ?_);simp[<-hN]
     .repeat first|simp[hw]|refine sR ?_|apply sC
      apply sE;exact⟨i+1,⟨hlt,jt e4⟩,by omega,wkA⟩
    .apply sX;simp only[AU,↓reduceIte];have:i=c.exts.length:=by omega
     subst this;rw[bh] at ia;rw[ia,af rfl] at hN;repeat first|simp|refine sR ?_
     refine sT (sH ?_);simp[<-hN]
  .rw[af e2] at hN;have b2:(S != 0)=true:=by simp[e2]
   apply sC;simp[b2];repeat first|simp|refine sR ?_
   refine sT (sH ?_);simp[<-hN]
 .rw[af e1] at hN;have b1:(E != 0)=true:=by simp[e1]
  apply sC;simp[b1];repeat first|simp|refine sR ?_
  refine sT (sH ?_);simp[<-hN]
end Go.AM
