import Derived.Test.YtchfmhhbiealcaaGreatDoorPIC11
set_option linter.unusedSimpArgs false
set_option linter.unusedVariables false
namespace Go.AM
theorem ct:type_of% @decide_eq_true:=@decide_eq_true
theorem ca:type_of% @decide_eq_false:=@decide_eq_false
theorem fe:type_of% @Nat.le_succ_of_le:=@Nat.le_succ_of_le
open Go Go.Proofs
open Go.Proofs.Tryz
theorem aEv(g:Gr)(hg:g.Fit):DC 185 [g.av] (B (oB g)):=by
 intro tok nt box nb;have hn:=hg.n;have he:=hg.e;obtain⟨N,hN⟩:∃N,oB g=N:=⟨_,rfl⟩
 rw[hN];unfold oB at hN;by_cases e1:6<g.nodes.length
 .have jt:(6:Int)<g.nodes.length:=by omega
  rw[af e1] at hN;refine sI func185 ntmps185 fun Hb Ht=>?_
  try (simp[e1,jt])
  repeat ((first|refine sR ?_|apply sC|apply sX);simp[e1,jt])
  refine sT (sH ?_);simp[<-hN]
 .have jt:¬(6:Int)<g.nodes.length:=by omega
  rw[ac e1] at hN;by_cases e2:8<g.edges.length
  .have ji:(8:Int)<g.edges.length:=by omega
   rw[ct e2] at hN;refine sI func185 ntmps185 fun Hb Ht=>?_
   try (simp[e1,jt,e2,ji])
   repeat ((first|refine sR ?_|apply sC|apply sX);simp[e1,jt,e2,ji])
   refine sT (sH ?_);simp[<-hN,ji]
  .have ji:¬(8:Int)<g.edges.length:=by omega
   rw[ca e2] at hN;refine sI func185 ntmps185 fun Hb Ht=>?_
   try (simp[e1,jt,e2,ji])
   repeat ((first|refine sR ?_|apply sC|apply sX);simp[e1,jt,e2,ji])
   refine sT (sH ?_);simp[<-hN,ji]
theorem aCz(c:Co):(c.kind=1/\c.exts=[]/\kdE c=0)∨(c.kind=1/\c.exts≠[]/\kdE c=1)∨(c.kind=2/\c.exts=[]/\kdE c=7)∨(c.kind=2/\c.exts≠[]/\6<c.exts.length/\kdE c=3)∨(c.kind=2/\c.exts≠[]/\¬6<c.exts.length/\kdE c=0)∨(c.kind≠1/\c.kind≠2/\kdE c=1):=by
 unfold kdE;by_cases h1:c.kind=1
 .by_cases h2:c.exts=[]<;>simp[h1,h2]
 .by_cases h2:c.kind=2
  .by_cases h3:c.exts=[]
   .simp[h2,h3]
   .by_cases h4:6<c.exts.length<;>simp[h2,h3,h4]
  .simp[h1,h2]
def aKY(c:Co)(nb:Nat)(box:Bxs)(tok:Tks)(nt:Nat)(i:Nat):AS :=
 ⟨tl [(59,I i),(58,I c.exts.length),(57,.d (xts c.exts)),(1,.ptr (nb+1) 0 0)],lb nb box [(1,[c.row])],tok,nt⟩
theorem aMg(c:Co)(hc:c.Fit):DC 120 [c.av] (I (kT c)):=by
 intro tok nt box nb;have h1:=mG c.name hc.name;have h2:=bT c.g hc.g;have h3:=aEv c.g hc.g;have CT:=hc.n;obtain⟨N,hN⟩:∃N,kT c=N:=⟨_,rfl⟩
 rw[hN];unfold kT at hN;generalize cM c.name=B1 at *;generalize vG c.g=E2 at *;generalize oB c.g=B3 at *;cases B1
 .rw[af rfl] at hN;refine sI func120 ntmps120 fun Hb Ht=>?_
  repeat first|simp|refine sR ?_
  refine sD (h1 _ _) ?_;simp;try (simp)
  repeat ((first|refine sR ?_|apply sC|apply sX);simp)
  refine sT (sH ?_);simp[<-hN]
 .rw[ac (by simp)] at hN;have xp:=fun (h:c.exts≠[])=>dg.2 h
  rcases aCz c with ⟨k1,x1,kd⟩|⟨k1,x1,kd⟩|⟨k1,x1,kd⟩|⟨k1,x1,x2,kd⟩|⟨k1,x1,x2,kd⟩|⟨k1,k2,kd⟩
  .rw[ac (by rw[kd];decide)] at hN;refine sI func120 ntmps120 fun Hb Ht=>?_
   repeat first|simp|refine sR ?_
   refine sD (h1 _ _) ?_;simp;try (simp[k1,x1])
   repeat ((first|refine sR ?_|apply sC|apply sX);simp[k1,x1])
   refine sD (h2 _ _) ?_;repeat first|simp|refine sR ?_
   by_cases v0:E2=0
   .rw[ac (by simp[v0])] at hN;apply sC;simp[v0];repeat first|simp|refine sR ?_
    refine sD (h3 _ _) ?_;simp;cases B3
    .rw[ac (by simp)] at hN;repeat first|simp|refine sR ?_
     apply sC;repeat first|simp|refine sR ?_
     apply sN;refine sL (aKY c nb box tok nt) (fun i=>i<=c.exts.length/\aA (dW c) i=0) (fun i=>c.exts.length-i) 0 ⟨ai _,rfl⟩ wkA ?_;rintro i S' ⟨hi,gt⟩ hS;simp only[aKY] at hS;subst hS;have hw:=sW (i:=i) (by omega);repeat first|simp|refine sR ?_|apply sC
     refine⟨fun hlt=>?_,fun hge=>?_⟩
     .have hx:=hc.exts _ (aa hlt);have hR:dW c i≠0->aA (dW c) c.exts.length=dW c i:=fun h0=>aK gt h0 _ hlt
      have hnx:dW c i=0->aA (dW c) (i+1)=0:=fun h0=>by simp only[aA,gt,h0,↓reduceIte]
      have hd:dW c i=xtE c.g c.exts[i]:=rD hlt
      unfold xtE at hd;have c1:=kF c.g c.exts[i].g c.exts[i].m hc.g hx.g;have c2:=aEv c.exts[i].g hx.g;have c3:=jQ c.g c.exts[i].g c.exts[i].m hc.g hx.g hx.m;generalize dW c i=E at *;repeat first|simp[hlt]|refine sR ?_
      refine sD (c1 _ _) ?_;repeat first|simp|refine sR ?_
      by_cases f1:aG c.g c.exts[i].g c.exts[i].m=0
      .rw[ac (by simp[f1])] at hd;simp only[f1];apply sC;repeat first|simp|refine sR ?_
       refine sD (c2 _ _) ?_;simp;cases f2:oB c.exts[i].g
       .rw[f2,ac (by simp)] at hd;repeat first|simp|refine sR ?_
        apply sC;repeat first|simp|refine sR ?_
        refine sD (c3 _ _) ?_;simp;cases f3:fJ c.g c.exts[i].g c.exts[i].m
        .rw[f3,ac (by simp)] at hd;rw[hR (by rw[hd];decide),hd] at hN;repeat first|simp|refine sR ?_
         apply sC;repeat first|simp|refine sR ?_
         refine sT (sH ?_);simp[<-hN]
        .rw[f3,af rfl] at hd;repeat first|simp[hw]|refine sR ?_|apply sC
         apply sE;exact⟨i+1,⟨hlt,hnx hd⟩,by omega,wkA⟩
       .rw[f2,af rfl] at hd;rw[hR (by rw[hd];decide),hd] at hN;repeat first|simp|refine sR ?_
        apply sC;repeat first|simp|refine sR ?_
        refine sT (sH ?_);simp[<-hN]
      .rw[af f1] at hd;have b1:(aG c.g c.exts[i].g c.exts[i].m != 0)=true:=by simp[f1]
       rw[hR (by rw[hd];exact f1),hd] at hN;simp only[b1];apply sC;repeat first|simp|refine sR ?_
       refine sT (sH ?_);simp[<-hN]
     .apply sX;simp only[AU,↓reduceIte];have:i=c.exts.length:=by omega
      subst this;rw[gt] at hN;repeat first|simp|refine sR ?_
      refine sT (sH ?_);simp[<-hN]
    .rw[af rfl] at hN;repeat first|simp|refine sR ?_
     apply sC;repeat first|simp|refine sR ?_
     refine sT (sH ?_);simp[<-hN]
   .have b0:(E2 != 0)=true:=by simp[v0]
    rw[af v0] at hN;apply sC;simp[v0,b0];repeat first|simp|refine sR ?_
    refine sT (sH ?_);simp[<-hN]
  .rw[af (by rw[kd];decide),kd] at hN;have x1':=xp x1
   refine sI func120 ntmps120 fun Hb Ht=>?_
   repeat first|simp|refine sR ?_
   refine sD (h1 _ _) ?_;simp;try (simp[k1,x1,x1'])
   repeat ((first|refine sR ?_|apply sC|apply sX);simp[k1,x1,x1'])
   refine sT (sH ?_);simp[<-hN]
  .rw[af (by rw[kd];decide),kd] at hN;refine sI func120 ntmps120 fun Hb Ht=>?_
   repeat first|simp|refine sR ?_
   refine sD (h1 _ _) ?_;simp;try (simp[k1,x1])
   repeat ((first|refine sR ?_|apply sC|apply sX);simp[k1,x1])
   refine sT (sH ?_);simp[<-hN]
  .rw[af (by rw[kd];decide),kd] at hN;have x2':(6:Int)<c.exts.length:=by omega
   refine sI func120 ntmps120 fun Hb Ht=>?_
   repeat first|simp|refine sR ?_
   refine sD (h1 _ _) ?_;simp;try (simp[k1,x1,x2,x2'])
   repeat ((first|refine sR ?_|apply sC|apply sX);simp[k1,x1,x2,x2'])
   refine sT (sH ?_);simp[<-hN]
  .rw[ac (by rw[kd];decide)] at hN;have x2':¬(6:Int)<c.exts.length:=by omega
   refine sI func120 ntmps120 fun Hb Ht=>?_
   repeat first|simp|refine sR ?_
   refine sD (h1 _ _) ?_;simp;try (simp[k1,x1,x2,x2'])
   repeat ((first|refine sR ?_|apply sC|apply sX);simp[k1,x1,x2,x2'])
   refine sD (h2 _ _) ?_;repeat first|simp|refine sR ?_
   by_cases v0:E2=0
   .rw[ac (by simp[v0])] at hN;apply sC;simp[v0];repeat first|simp|refine sR ?_
    refine sD (h3 _ _) ?_;simp;cases B3
    .rw[ac (by simp)] at hN;repeat first|simp|refine sR ?_
     apply sC;repeat first|simp|refine sR ?_
     apply sN;refine sL (aKY c nb box tok nt) (fun i=>i<=c.exts.length/\aA (dW c) i=0) (fun i=>c.exts.length-i) 0 ⟨ai _,rfl⟩ wkA ?_;rintro i S' ⟨hi,gt⟩ hS;simp only[aKY] at hS;subst hS;have hw:=sW (i:=i) (by omega);repeat first|simp|refine sR ?_|apply sC
     refine⟨fun hlt=>?_,fun hge=>?_⟩
     .have hx:=hc.exts _ (aa hlt);have hR:dW c i≠0->aA (dW c) c.exts.length=dW c i:=fun h0=>aK gt h0 _ hlt
      have hnx:dW c i=0->aA (dW c) (i+1)=0:=fun h0=>by simp only[aA,gt,h0,↓reduceIte]
      have hd:dW c i=xtE c.g c.exts[i]:=rD hlt
      unfold xtE at hd;have c1:=kF c.g c.exts[i].g c.exts[i].m hc.g hx.g;have c2:=aEv c.exts[i].g hx.g;have c3:=jQ c.g c.exts[i].g c.exts[i].m hc.g hx.g hx.m;generalize dW c i=E at *;repeat first|simp[hlt]|refine sR ?_
      refine sD (c1 _ _) ?_;repeat first|simp|refine sR ?_
      by_cases f1:aG c.g c.exts[i].g c.exts[i].m=0
      .rw[ac (by simp[f1])] at hd;simp only[f1];apply sC;repeat first|simp|refine sR ?_
       refine sD (c2 _ _) ?_;simp;cases f2:oB c.exts[i].g
       .rw[f2,ac (by simp)] at hd;repeat first|simp|refine sR ?_
        apply sC;repeat first|simp|refine sR ?_
        refine sD (c3 _ _) ?_;simp;cases f3:fJ c.g c.exts[i].g c.exts[i].m
        .rw[f3,ac (by simp)] at hd;rw[hR (by rw[hd];decide),hd] at hN;repeat first|simp|refine sR ?_
         apply sC;repeat first|simp|refine sR ?_
         refine sT (sH ?_);simp[<-hN]
        .rw[f3,af rfl] at hd;repeat first|simp[hw]|refine sR ?_|apply sC
         apply sE;exact⟨i+1,⟨hlt,hnx hd⟩,by omega,wkA⟩
       .rw[f2,af rfl] at hd;rw[hR (by rw[hd];decide),hd] at hN;repeat first|simp|refine sR ?_
        apply sC;repeat first|simp|refine sR ?_
        refine sT (sH ?_);simp[<-hN]
      .rw[af f1] at hd;have b1:(aG c.g c.exts[i].g c.exts[i].m != 0)=true:=by simp[f1]
       rw[hR (by rw[hd];exact f1),hd] at hN;simp only[b1];apply sC;repeat first|simp|refine sR ?_
       refine sT (sH ?_);simp[<-hN]
     .apply sX;simp only[AU,↓reduceIte];have:i=c.exts.length:=by omega
      subst this;rw[gt] at hN;repeat first|simp|refine sR ?_
      refine sT (sH ?_);simp[<-hN]
    .rw[af rfl] at hN;repeat first|simp|refine sR ?_
     apply sC;repeat first|simp|refine sR ?_
     refine sT (sH ?_);simp[<-hN]
   .have b0:(E2 != 0)=true:=by simp[v0]
    rw[af v0] at hN;apply sC;simp[v0,b0];repeat first|simp|refine sR ?_
    refine sT (sH ?_);simp[<-hN]
  .rw[af (by rw[kd];decide),kd] at hN;have b1:(c.kind==1)=false:=by simp[k1]
   have b2:(c.kind==2)=false:=by simp[k2]
   have b3:(c.kind != 1)=true:=by simp[k1]
   have b4:(c.kind != 2)=true:=by simp[k2]
   refine sI func120 ntmps120 fun Hb Ht=>?_
   repeat first|simp|refine sR ?_
   refine sD (h1 _ _) ?_;simp;try (simp[k1,k2,b1,b2,b3,b4])
   repeat ((first|refine sR ?_|apply sC|apply sX);simp[k1,k2,b1,b2,b3,b4])
   refine sT (sH ?_);simp[<-hN]
theorem aFN(t:Ty)(ht:t.Fit)(x:Xt)(hx:x.g.Fit)(hv:∀e∈x.g.edges,0<=e.fr/\e.fr<x.g.nodes.length/\0<=e.to/\e.to<x.g.nodes.length)(box:Bxs)(nb k1:Nat)(tok:Tks)(nt:Nat)(h1:box k1=some [[.d (nts t.nodes),.d (ets t.edges)]]):
  aC prog 123 [x.av,.ptr k1 0 0] ⟨box,nb,tok,nt⟩ fun v m=>v=B (!dA t x.g)/\m=⟨box,nb,tok,nt⟩:=by
 have hc:=aAs t ht x.g hx hv;generalize dA t x.g=R at *;refine sI func123 ntmps123 fun Hb Ht=>?_
 have k1n:=bH Hb h1;repeat first|simp[lO k1n,h1]|refine sR ?_
 refine sD (hc _ _) ?_;repeat first|simp|refine sR ?_
 refine sT (sH ?_);simp
theorem aDb(t:Ty)(ht:t.Fit)(c:Co)(hc:c.Fit):DC 73 [t.av,c.av] (I (cnE t c)):=by
 intro tok nt box nb;have h1:=lW t ht ht.hM;have h2:=aMg c hc;have hv:=@rS c;obtain⟨N,hN⟩:∃N,cnE t c=N:=⟨_,rfl⟩
 rw[hN];unfold cnE at hN;generalize tyE t=E at *;generalize tyN t=Z at *;generalize kT c=S at *;refine sI func73 ntmps73 fun Hb Ht=>?_
 repeat first|simp|refine sR ?_
 refine sD (h1 _ _) ?_;repeat first|simp|refine sR ?_
 by_cases e1:E=0
 .rw[ac (by simp[e1])] at hN;apply sC;simp[e1];repeat first|simp|refine sR ?_
  refine sD (h2 _ _) ?_;repeat first|simp|refine sR ?_
  by_cases e2:S=0
  .rw[ac (by simp[e2])] at hN;obtain⟨_,_,v1,_,v2⟩:=hv e2;have l1:=aAs t ht c.g hc.g (aD v1);have l2:=fun x (hx:x∈c.exts)=>aFN t ht x (hc.exts x hx).g (aD (kD (v2 x hx).1).vb)
   unfold lvX at hN;apply sC;simp[e2];repeat first|simp|refine sR ?_
   refine sD (l1 _ _) ?_;simp;cases e3:dA t c.g
   .rw[e3,ac (by simp)] at hN;repeat first|simp|refine sR ?_
    apply sC;repeat first|simp|refine sR ?_
    refine sT (sH ?_);simp[<-hN]
   .rw[e3,af rfl] at hN;obtain⟨p,oy⟩:∃p:Xt->Bool,(fun x:Xt=>!dA t x.g)=p:=⟨_,rfl⟩
    have so:∀y:Xt,(!dA t y.g)=p y:=fun y=>by rw[<-oy]
    simp only[so] at l2;have qp:(!bA p c.exts)=cJ (fun x:Xt=>dA t x.g) c.exts:=by
     rw[<-oy,cJ,bA,fu,Bool.not_not];simp
    rw[<-qp] at hN;repeat first|simp|refine sR ?_
    refine aT.of_b (tZ c.exts 123 [.ptr (nb+2) 0 0] p hc.n _ _ _ _ (fun c hc=>by rw[a7.1 hc];simp[aN]) (fun y hy box' nb' he=>l2 y hy box' nb' _ _ _ (he _ _ (by simp[aN])))) ?_;simp;cases e4:bA p c.exts
    .rw[e4,Bool.not_false,af rfl] at hN;repeat first|simp|refine sR ?_
     apply sC;repeat first|simp|refine sR ?_
     refine sT (sH ?_);simp[<-hN]
    .rw[e4,Bool.not_true,ac (by simp)] at hN;repeat first|simp|refine sR ?_
     apply sC;repeat first|simp|refine sR ?_
     refine sT (sH ?_);simp[<-hN]
  .rw[af e2] at hN;have b2:(S != 0)=true:=by simp[e2]
   apply sC;simp[b2];repeat first|simp|refine sR ?_
   refine sT (sH ?_);simp[<-hN]
 .rw[af e1] at hN;have b1:(E != 0)=true:=by simp[e1]
  apply sC;simp[b1];repeat first|simp|refine sR ?_
  refine sT (sH ?_);simp[<-hN]
theorem aAG(g:Gr)(p:Mo)(hg:g.Fit)(hp:p.Fit)(h:cQ g p≠0):DC 69 [g.av,p.av] (.tup [(Gr.mk [] []).av,(Mo.mk [] []).av,I (cQ g p)]):=by
 intro tok nt box nb;have h1:=pV g p hg hp;have b1:(cQ g p != 0)=true:=by simp[h]
 generalize cQ g p=E at *;refine sI func69 ntmps69 fun Hb Ht=>?_
 repeat first|simp|refine sR ?_
 refine sD (h1 _ _) ?_;repeat first|simp[b1]|refine sR ?_|apply sC
 refine sT (sH ?_);simp[ints,AM.edges]
def aPp(r:Ru)(nb:Nat)(box:Bxs)(tok:Tks)(nt:Nat)(i:Nat):AS :=
 ⟨tl [(62,I i),(61,I 2),(60,.osl 5 [[ints r.lg.nodes,AM.edges r.lg.edges,gS r.lsl,.raw (.int .i64 r.lv),gT r.lte],[ints r.rg.nodes,AM.edges r.rg.edges,gS r.rsl,.raw (.int .i64 r.rv),gT r.rte]] .full),(1,.ptr (nb+1) 0 0)],lb nb box [(1,[r.row])],tok,nt⟩
theorem xH(r:Ru)(hr:r.Fit):DC 201 [r.av] (I (cN r)):=by
 intro tok nt box nb;have h1:=bT r.lg hr.lg;have h2:=bT r.rg hr.rg;have h3:=aAG r.lg r.k hr.lg hr.k;have h4:=fun h=>aEf r.lg r.k hr.lg hr.k h
 have h5:=fun h=>kF (exG r.lg r.k) r.rg r.i h hr.rg
 have h6:=fun h=>jQ (exG r.lg r.k) r.rg r.i h hr.rg hr.i
 refine sI func201 ntmps201 fun Hb Ht=>?_
 repeat first|simp|refine sR ?_
 refine sD (h1 _ _) ?_;repeat first|simp|refine sR ?_
 by_cases e1:vG r.lg=0
 .simp only[e1];apply sC;repeat first|simp|refine sR ?_
  refine sD (h2 _ _) ?_;repeat first|simp|refine sR ?_
  by_cases e2:vG r.rg=0
  .simp only[e2];apply sC;repeat first|simp|refine sR ?_
   by_cases e3:cQ r.lg r.k=0
   .have hp:=VP.of e3;have hx:=hp.emb.fit.2.1;refine sD (h4 hp _ _) ?_;repeat first|simp|refine sR ?_
    apply sC;repeat first|simp|refine sR ?_
    refine sD (h5 hx _ _) ?_;repeat first|simp|refine sR ?_
    by_cases e4:aG (exG r.lg r.k) r.rg r.i=0
    .simp only[e4];apply sC;repeat first|simp|refine sR ?_
     refine sD (h6 hx _ _) ?_;repeat first|simp|refine sR ?_
     cases e5:fJ (exG r.lg r.k) r.rg r.i
     .apply sC;repeat first|simp|refine sR ?_
      refine sT (sH ?_);simp[cN,e1,e2,e3,e4,e5]
     .apply sC;repeat first|simp|refine sR ?_
      have yj:=hr.ls;have hlt:=hr.lt;have p7:=hr.rs;have BZ:=hr.rt;rw[bI] at yj hlt p7 BZ;have w1:IntKind.i64.wrap ((r.lsl.length:Int)+r.lte.length)=((r.lsl.length+r.lte.length:Nat):Int):=by rw[aL (by omega) (by omega)];omega
      have w2:IntKind.i64.wrap ((r.rsl.length:Int)+r.rte.length)=((r.rsl.length+r.rte.length:Nat):Int):=by rw[aL (by omega) (by omega)];omega
      refine⟨rfl,?_⟩;repeat first|simp|refine sR ?_
      apply sN;refine sL (aPp r nb box tok nt) (fun i=>i<=2/\(1<=i->r.plainL)/\(2<=i->r.plainR)) (fun i=>2-i) 0 ⟨by omega,by omega,by omega⟩ wkA ?_;rintro i S ⟨hi,l5,Ac⟩ hS;simp only[aPp] at hS;subst hS;obtain rfl|rfl|rfl:i=0∨i=1∨i=2:=by omega
      .have hw:IntKind.i64.wrap 1=1:=rfl
       repeat (first|simp|refine sR ?_)
       apply sC
       repeat (first|simp|refine sR ?_)
       by_cases s2:r.lv=0
       .have b2:(r.lv != 0)=false:=by simp[s2]
        by_cases s1:(0:Int)<(r.lsl.length:Int)+r.lte.length
        .have hne:¬r.plainL:=fun h=>by have:=h.1;omega
         try (simp[w1,s1,b2])
         repeat ((first|refine sR ?_|apply sC|apply sX);simp[w1,s1,b2])
         refine sT (sH ?_);simp[cN,e1,e2,e3,e4,e5,hne]
        .have jg:r.plainL:=⟨by omega,s2⟩
         try (simp[w1,s1,b2,hw])
         repeat ((first|refine sR ?_|apply sC|apply sX);simp[w1,s1,b2,hw])
         apply sE;exact⟨1,⟨by omega,fun _=>jg,by omega⟩,by omega,wkA⟩
       .have hne:¬r.plainL:=fun h=>s2 h.2
        have b2:(r.lv != 0)=true:=by simp[s2]
        try (simp[b2])
        repeat ((first|refine sR ?_|apply sC|apply sX);simp[b2])
        refine sT (sH ?_);simp[cN,e1,e2,e3,e4,e5,hne]
      .have hw:IntKind.i64.wrap 2=2:=rfl
       have hl:=l5 (by omega);repeat (first|simp|refine sR ?_)
       apply sC
       repeat (first|simp|refine sR ?_)
       by_cases s2:r.rv=0
       .have b2:(r.rv != 0)=false:=by simp[s2]
        by_cases s1:(0:Int)<(r.rsl.length:Int)+r.rte.length
        .have hne:¬r.plainR:=fun h=>by have:=h.1;omega
         try (simp[w2,s1,b2])
         repeat ((first|refine sR ?_|apply sC|apply sX);simp[w2,s1,b2])
         refine sT (sH ?_);simp[cN,e1,e2,e3,e4,e5,hne]
        .have jg:r.plainR:=⟨by omega,s2⟩
         try (simp[w2,s1,b2,hw])
         repeat ((first|refine sR ?_|apply sC|apply sX);simp[w2,s1,b2,hw])
         apply sE;exact⟨2,⟨by omega,fun _=>hl,fun _=>jg⟩,by omega,wkA⟩
       .have hne:¬r.plainR:=fun h=>s2 h.2
        have b2:(r.rv != 0)=true:=by simp[s2]
        try (simp[b2])
        repeat ((first|refine sR ?_|apply sC|apply sX);simp[b2])
        refine sT (sH ?_);simp[cN,e1,e2,e3,e4,e5,hne]
      .have hl:=l5 (by omega);have hr2:=Ac (by omega);repeat first|simp|refine sR ?_|apply sC
       apply sX;simp only[AU,↓reduceIte];repeat first|simp|refine sR ?_
       cases i6:r.inj
       .apply sC;repeat first|simp|refine sR ?_
        refine sT (sH ?_);simp[cN,e1,e2,e3,e4,e5,hl,hr2,i6]
       .apply sC;repeat first|simp|refine sR ?_
        refine sT (sH ?_);simp[cN,e1,e2,e3,e4,e5,hl,hr2,i6]
    .have b4:(aG (exG r.lg r.k) r.rg r.i != 0)=true:=by simp[e4]
     simp only[b4];apply sC;repeat first|simp|refine sR ?_
     refine sT (sH ?_);simp[cN,e1,e2,e3,e4]
   .have b3:(cQ r.lg r.k != 0)=true:=by simp[e3]
    refine sD (h3 e3 _ _) ?_;repeat first|simp|refine sR ?_
    simp only[b3];apply sC;repeat first|simp|refine sR ?_
    refine sT (sH ?_);simp[cN,e1,e2,e3]
  .have b2:(vG r.rg != 0)=true:=by simp[e2]
   simp only[b2];apply sC;repeat first|simp|refine sR ?_
   refine sT (sH ?_);simp[cN,e1,e2]
 .have b1:(vG r.lg != 0)=true:=by simp[e1]
  simp only[b1];apply sC;repeat first|simp|refine sR ?_
  refine sT (sH ?_);simp[cN,e1]
def oO(l r into:List Int)(i:Nat):Bool:=if decide ((i:Int)∈into)=true then false else decide (l.getD i 0∈r)
def dV(l r into:List Int):Bool:=bA (oO l r into) (List.range l.length)
theorem aDe{l r into:List Int}(h:∀j,j<l.length->oO l r into j=false):dV l r into=false:=by
 unfold dV bA;rw[dz];intro x hx;rw[h x (ba.1 hx)];simp
theorem aAa{l r into:List Int}{i:Nat}(hi:i<l.length)(h:oO l r into i=true):dV l r into=true:=by
 unfold dV bA;rw[dv];exact⟨i,ba.2 hi,h⟩
def pX(r:Ru)(o:Ov):Bool:=if dV o.l.nodes o.r.nodes r.i.nodes=true then true else dV o.l.edges o.r.edges r.i.edges
def qK(t:Ty)(r:Ru)(c:Co):Int:=if tyE t≠0 then tyE t else if cN r≠0 then cN r else if dA t r.lg=true then (if dA t r.rg=true then cnE t c else 13) else 13
def cF(t:Ty)(r:Ru)(c:Co):List Ov × Int :=
 if qK t r c≠0 then ([],qK t r c) else if c.kind=1 then (if (oR r.rg c.g).2≠0 then ([],(oR r.rg c.g).2) else ((oR r.rg c.g).1.filter (pX r),0)) else ([],8)
theorem aD5(g:Gr)(hg:g.Fit):DC 166 [g.av] (B (oB g)):=by
 intro tok nt box nb;have hn:=hg.n;have he:=hg.e;obtain⟨N,hN⟩:∃N,oB g=N:=⟨_,rfl⟩
 rw[hN];unfold oB at hN;by_cases e1:6<g.nodes.length
 .have jt:(6:Int)<g.nodes.length:=by omega
  rw[af e1] at hN;refine sI func166 ntmps166 fun Hb Ht=>?_
  try (simp[e1,jt])
  repeat ((first|refine sR ?_|apply sC|apply sX);simp[e1,jt])
  refine sT (sH ?_);simp[<-hN]
 .have jt:¬(6:Int)<g.nodes.length:=by omega
  rw[ac e1] at hN;by_cases e2:8<g.edges.length
  .have ji:(8:Int)<g.edges.length:=by omega
   rw[ct e2] at hN;refine sI func166 ntmps166 fun Hb Ht=>?_
   try (simp[e1,jt,e2,ji])
   repeat ((first|refine sR ?_|apply sC|apply sX);simp[e1,jt,e2,ji])
   refine sT (sH ?_);simp[<-hN,ji]
  .have ji:¬(8:Int)<g.edges.length:=by omega
   rw[ca e2] at hN;refine sI func166 ntmps166 fun Hb Ht=>?_
   try (simp[e1,jt,e2,ji])
   repeat ((first|refine sR ?_|apply sC|apply sX);simp[e1,jt,e2,ji])
   refine sT (sH ?_);simp[<-hN,ji]
def aJF(c:Co)(nb:Nat)(box:Bxs)(tok:Tks)(nt:Nat)(i:Nat):AS :=
 ⟨tl [(4,I i),(1,.ptr (nb+1) 0 0)],lb nb box [(1,[c.row])],tok,nt⟩
theorem aIO(c:Co)(hc:c.Fit):DC 108 [c.av] (I (kT c)):=by
 intro tok nt box nb;have h1:=iT c.name hc.name;have h2:=dS c.g hc.g;have h3:=aD5 c.g hc.g;have CT:=hc.n;obtain⟨N,hN⟩:∃N,kT c=N:=⟨_,rfl⟩
 rw[hN];unfold kT at hN;generalize cM c.name=B1 at *;generalize vG c.g=E2 at *;generalize oB c.g=B3 at *;cases B1
 .rw[af rfl] at hN;refine sI func108 ntmps108 fun Hb Ht=>?_
  repeat first|simp|refine sR ?_
  refine sD (h1 _ _) ?_;simp;try (simp)
  repeat ((first|refine sR ?_|apply sC|apply sX);simp)
  refine sT (sH ?_);simp[<-hN]
 .rw[ac (by simp)] at hN;have xp:=fun (h:c.exts≠[])=>dg.2 h
  rcases aCz c with ⟨k1,x1,kd⟩|⟨k1,x1,kd⟩|⟨k1,x1,kd⟩|⟨k1,x1,x2,kd⟩|⟨k1,x1,x2,kd⟩|⟨k1,k2,kd⟩
  .rw[ac (by rw[kd];decide)] at hN;refine sI func108 ntmps108 fun Hb Ht=>?_
   repeat first|simp|refine sR ?_
   refine sD (h1 _ _) ?_;simp;try (simp[k1,x1])
   repeat ((first|refine sR ?_|apply sC|apply sX);simp[k1,x1])
   refine sD (h2 _ _) ?_;repeat first|simp|refine sR ?_
   by_cases v0:E2=0
   .rw[ac (by simp[v0])] at hN;apply sC;simp[v0];repeat first|simp|refine sR ?_
    refine sD (h3 _ _) ?_;simp;cases B3
    .rw[ac (by simp)] at hN;repeat first|simp|refine sR ?_
     apply sC;repeat first|simp|refine sR ?_
     apply sN;refine sL (aJF c nb box tok nt) (fun i=>i<=c.exts.length/\aA (dW c) i=0) (fun i=>c.exts.length-i) 0 ⟨ai _,rfl⟩ wkA ?_;rintro i S' ⟨hi,gt⟩ hS;simp only[aJF] at hS;subst hS;have hw:=sW (i:=i) (by omega);repeat first|simp|refine sR ?_|apply sC
     refine⟨fun hlt=>?_,fun hge=>?_⟩
     .have hx:=hc.exts _ (aa hlt);have hR:dW c i≠0->aA (dW c) c.exts.length=dW c i:=fun h0=>aK gt h0 _ hlt
      have hnx:dW c i=0->aA (dW c) (i+1)=0:=fun h0=>by simp only[aA,gt,h0,↓reduceIte]
      have hd:dW c i=xtE c.g c.exts[i]:=rD hlt
      unfold xtE at hd;have c1:=kI c.g c.exts[i].g c.exts[i].m hc.g hx.g;have c2:=aD5 c.exts[i].g hx.g;have c3:=jO c.g c.exts[i].g c.exts[i].m hc.g hx.g hx.m;generalize dW c i=E at *;repeat first|simp[hlt]|refine sR ?_
      refine sD (c1 _ _) ?_;repeat first|simp|refine sR ?_
      by_cases f1:aG c.g c.exts[i].g c.exts[i].m=0
      .rw[ac (by simp[f1])] at hd;simp only[f1];apply sC;repeat first|simp|refine sR ?_
       refine sD (c2 _ _) ?_;simp;cases f2:oB c.exts[i].g
       .rw[f2,ac (by simp)] at hd;repeat first|simp|refine sR ?_
        apply sC;repeat first|simp|refine sR ?_
        refine sD (c3 _ _) ?_;simp;cases f3:fJ c.g c.exts[i].g c.exts[i].m
        .rw[f3,ac (by simp)] at hd;rw[hR (by rw[hd];decide),hd] at hN;repeat first|simp|refine sR ?_
         apply sC;repeat first|simp|refine sR ?_
         refine sT (sH ?_);simp[<-hN]
        .rw[f3,af rfl] at hd;repeat first|simp[hw]|refine sR ?_|apply sC
         apply sE;exact⟨i+1,⟨hlt,hnx hd⟩,by omega,wkA⟩
       .rw[f2,af rfl] at hd;rw[hR (by rw[hd];decide),hd] at hN;repeat first|simp|refine sR ?_
        apply sC;repeat first|simp|refine sR ?_
        refine sT (sH ?_);simp[<-hN]
      .rw[af f1] at hd;have b1:(aG c.g c.exts[i].g c.exts[i].m != 0)=true:=by simp[f1]
       rw[hR (by rw[hd];exact f1),hd] at hN;simp only[b1];apply sC;repeat first|simp|refine sR ?_
       refine sT (sH ?_);simp[<-hN]
     .apply sX;simp only[AU,↓reduceIte];have:i=c.exts.length:=by omega
      subst this;rw[gt] at hN;repeat first|simp|refine sR ?_
      refine sT (sH ?_);simp[<-hN]
    .rw[af rfl] at hN;repeat first|simp|refine sR ?_
     apply sC;repeat first|simp|refine sR ?_
     refine sT (sH ?_);simp[<-hN]
   .have b0:(E2 != 0)=true:=by simp[v0]
    rw[af v0] at hN;apply sC;simp[v0,b0];repeat first|simp|refine sR ?_
    refine sT (sH ?_);simp[<-hN]
  .rw[af (by rw[kd];decide),kd] at hN;have x1':=xp x1
   refine sI func108 ntmps108 fun Hb Ht=>?_
   repeat first|simp|refine sR ?_
   refine sD (h1 _ _) ?_;simp;try (simp[k1,x1,x1'])
   repeat ((first|refine sR ?_|apply sC|apply sX);simp[k1,x1,x1'])
   refine sT (sH ?_);simp[<-hN]
  .rw[af (by rw[kd];decide),kd] at hN;refine sI func108 ntmps108 fun Hb Ht=>?_
   repeat first|simp|refine sR ?_
   refine sD (h1 _ _) ?_;simp;try (simp[k1,x1])
   repeat ((first|refine sR ?_|apply sC|apply sX);simp[k1,x1])
   refine sT (sH ?_);simp[<-hN]
  .rw[af (by rw[kd];decide),kd] at hN;have x2':(6:Int)<c.exts.length:=by omega
   refine sI func108 ntmps108 fun Hb Ht=>?_
   repeat first|simp|refine sR ?_
   refine sD (h1 _ _) ?_;simp;try (simp[k1,x1,x2,x2'])
   repeat ((first|refine sR ?_|apply sC|apply sX);simp[k1,x1,x2,x2'])
   refine sT (sH ?_);simp[<-hN]
  .rw[ac (by rw[kd];decide)] at hN;have x2':¬(6:Int)<c.exts.length:=by omega
   refine sI func108 ntmps108 fun Hb Ht=>?_
   repeat first|simp|refine sR ?_
   refine sD (h1 _ _) ?_;simp;try (simp[k1,x1,x2,x2'])
   repeat ((first|refine sR ?_|apply sC|apply sX);simp[k1,x1,x2,x2'])
   refine sD (h2 _ _) ?_;repeat first|simp|refine sR ?_
   by_cases v0:E2=0
   .rw[ac (by simp[v0])] at hN;apply sC;simp[v0];repeat first|simp|refine sR ?_
    refine sD (h3 _ _) ?_;simp;cases B3
    .rw[ac (by simp)] at hN;repeat first|simp|refine sR ?_
     apply sC;repeat first|simp|refine sR ?_
     apply sN;refine sL (aJF c nb box tok nt) (fun i=>i<=c.exts.length/\aA (dW c) i=0) (fun i=>c.exts.length-i) 0 ⟨ai _,rfl⟩ wkA ?_;rintro i S' ⟨hi,gt⟩ hS;simp only[aJF] at hS;subst hS;have hw:=sW (i:=i) (by omega);repeat first|simp|refine sR ?_|apply sC
     refine⟨fun hlt=>?_,fun hge=>?_⟩
     .have hx:=hc.exts _ (aa hlt);have hR:dW c i≠0->aA (dW c) c.exts.length=dW c i:=fun h0=>aK gt h0 _ hlt
      have hnx:dW c i=0->aA (dW c) (i+1)=0:=fun h0=>by simp only[aA,gt,h0,↓reduceIte]
      have hd:dW c i=xtE c.g c.exts[i]:=rD hlt
      unfold xtE at hd;have c1:=kI c.g c.exts[i].g c.exts[i].m hc.g hx.g;have c2:=aD5 c.exts[i].g hx.g;have c3:=jO c.g c.exts[i].g c.exts[i].m hc.g hx.g hx.m;generalize dW c i=E at *;repeat first|simp[hlt]|refine sR ?_
      refine sD (c1 _ _) ?_;repeat first|simp|refine sR ?_
      by_cases f1:aG c.g c.exts[i].g c.exts[i].m=0
      .rw[ac (by simp[f1])] at hd;simp only[f1];apply sC;repeat first|simp|refine sR ?_
       refine sD (c2 _ _) ?_;simp;cases f2:oB c.exts[i].g
       .rw[f2,ac (by simp)] at hd;repeat first|simp|refine sR ?_
        apply sC;repeat first|simp|refine sR ?_
        refine sD (c3 _ _) ?_;simp;cases f3:fJ c.g c.exts[i].g c.exts[i].m
        .rw[f3,ac (by simp)] at hd;rw[hR (by rw[hd];decide),hd] at hN;repeat first|simp|refine sR ?_
         apply sC;repeat first|simp|refine sR ?_
         refine sT (sH ?_);simp[<-hN]
        .rw[f3,af rfl] at hd;repeat first|simp[hw]|refine sR ?_|apply sC
         apply sE;exact⟨i+1,⟨hlt,hnx hd⟩,by omega,wkA⟩
       .rw[f2,af rfl] at hd;rw[hR (by rw[hd];decide),hd] at hN;repeat first|simp|refine sR ?_
        apply sC;repeat first|simp|refine sR ?_
        refine sT (sH ?_);simp[<-hN]
      .rw[af f1] at hd;have b1:(aG c.g c.exts[i].g c.exts[i].m != 0)=true:=by simp[f1]
       rw[hR (by rw[hd];exact f1),hd] at hN;simp only[b1];apply sC;repeat first|simp|refine sR ?_
       refine sT (sH ?_);simp[<-hN]
     .apply sX;simp only[AU,↓reduceIte];have:i=c.exts.length:=by omega
      subst this;rw[gt] at hN;repeat first|simp|refine sR ?_
      refine sT (sH ?_);simp[<-hN]
    .rw[af rfl] at hN;repeat first|simp|refine sR ?_
     apply sC;repeat first|simp|refine sR ?_
     refine sT (sH ?_);simp[<-hN]
   .have b0:(E2 != 0)=true:=by simp[v0]
    rw[af v0] at hN;apply sC;simp[v0,b0];repeat first|simp|refine sR ?_
    refine sT (sH ?_);simp[<-hN]
  .rw[af (by rw[kd];decide),kd] at hN;have b1:(c.kind==1)=false:=by simp[k1]
   have b2:(c.kind==2)=false:=by simp[k2]
   have b3:(c.kind != 1)=true:=by simp[k1]
   have b4:(c.kind != 2)=true:=by simp[k2]
   refine sI func108 ntmps108 fun Hb Ht=>?_
   repeat first|simp|refine sR ?_
   refine sD (h1 _ _) ?_;simp;try (simp[k1,k2,b1,b2,b3,b4])
   repeat ((first|refine sR ?_|apply sC|apply sX);simp[k1,k2,b1,b2,b3,b4])
   refine sT (sH ?_);simp[<-hN]
def aPd(t:Ty)(c:Co)(nb:Nat)(box:Bxs)(tok:Tks)(nt:Nat)(i:Nat):AS :=
 ⟨tl [(8,I i),(3,.ptr (nb+3) 0 0),(2,.ptr (nb+2) 0 0)],lb nb box [(3,[c.row]),(2,[[.d (nts t.nodes),.d (ets t.edges)]])],tok,nt⟩
theorem aB6(t:Ty)(ht:t.Fit)(c:Co)(hc:c.Fit):DC 79 [t.av,c.av] (I (cnE t c)):=by
 intro tok nt box nb;have h1:=jV t ht ht.hM;have h2:=aIO c hc;have CT:=hc.n;have hv:=@rS c;obtain⟨N,hN⟩:∃N,cnE t c=N:=⟨_,rfl⟩
 rw[hN];unfold cnE at hN;generalize tyE t=E at *;generalize tyN t=Z at *;generalize kT c=S at *;refine sI func79 ntmps79 fun Hb Ht=>?_
 repeat first|simp|refine sR ?_
 refine sD (h1 _ _) ?_;repeat first|simp|refine sR ?_
 by_cases e1:E=0
 .rw[ac (by simp[e1])] at hN;apply sC;simp[e1];repeat first|simp|refine sR ?_
  refine sD (h2 _ _) ?_;repeat first|simp|refine sR ?_
  by_cases e2:S=0
  .rw[ac (by simp[e2])] at hN;obtain⟨_,_,v1,_,v2⟩:=hv e2;have l1:=nS t ht c.g hc.g (aD v1);have l2:=fun x (hx:x∈c.exts)=>nS t ht x.g (hc.exts x hx).g (aD (kD (v2 x hx).1).vb)
   unfold lvX at hN;apply sC;simp[e2];repeat first|simp|refine sR ?_
   refine sD (l1 _ _) ?_;simp;cases e3:dA t c.g
   .rw[e3,ac (by simp)] at hN;repeat first|simp|refine sR ?_
    apply sC;repeat first|simp|refine sR ?_
    refine sT (sH ?_);simp[<-hN]
   .rw[e3,af rfl] at hN;repeat first|simp|refine sR ?_
    apply sC;repeat first|simp|refine sR ?_
    apply sN;refine sL (aPd t c nb box tok nt) (fun i=>i<=c.exts.length/\cJ (fun x:Xt=>dA t x.g) (c.exts.take i)=true) (fun i=>c.exts.length-i) 0 ⟨ai _,by simp[cJ]⟩ wkA ?_;rintro i S' ⟨hi,gt⟩ hS;simp only[aPd] at hS;subst hS;have hw:=sW (i:=i) (by omega);repeat first|simp|refine sR ?_|apply sC
    refine⟨fun hlt=>?_,fun hge=>?_⟩
    .have jq:=fun h=>fL (p:=fun x:Xt=>dA t x.g) hlt h
     have jg:=fun h=>cW (p:=fun x:Xt=>dA t x.g) hlt gt h
     have hcx:=l2 _ (aa hlt);repeat first|simp[hlt]|refine sR ?_
     refine sD (hcx _ _) ?_;simp;cases e4:dA t c.exts[i].g
     .rw[jq e4,ac (by simp)] at hN;repeat first|simp|refine sR ?_
      apply sC;repeat first|simp|refine sR ?_
      refine sT (sH ?_);simp[<-hN]
     .repeat first|simp[hw]|refine sR ?_|apply sC
      apply sE;exact⟨i+1,⟨hlt,jg e4⟩,by omega,wkA⟩
    .apply sX;simp only[AU,↓reduceIte];have:i=c.exts.length:=by omega
     subst this;rw[bh] at gt;rw[gt,af rfl] at hN;repeat first|simp|refine sR ?_
     refine sT (sH ?_);simp[<-hN]
  .rw[af e2] at hN;have b2:(S != 0)=true:=by simp[e2]
   apply sC;simp[b2];repeat first|simp|refine sR ?_
   refine sT (sH ?_);simp[<-hN]
 .rw[af e1] at hN;have b1:(E != 0)=true:=by simp[e1]
  apply sC;simp[b1];repeat first|simp|refine sR ?_
  refine sT (sH ?_);simp[<-hN]
def yA(t:Ty)(a:Int):List Int × Int:=if oC t [a]≠0 then ([],oC t [a]) else (gP t a t.nodes.length,0)
theorem zK{t:Ty}(h:tyE t=0){a:Int}(h0:0<=a):oC t [a]=if (t.nodes.length:Int)<=a then 6 else 0:=by
 unfold oC;rw[af h];by_cases h1:(t.nodes.length:Int)<=a
 .have:¬a<t.nodes.length:=by omega
  simp[bA,fT,h1,this]
 .have:a<t.nodes.length:=by omega
  simp[bA,fT,h1,this,h0]
def aPT(t:Ty)(a:Int)(nb:Nat)(box:Bxs)(x:Acc):AS :=
 ⟨tl [(19,I x.i),(18,I t.nodes.length),(7,.osl 1 (rI (gP t a x.i)) x.own),(1,I a),(2,.ptr (nb+2) 0 0)],lb nb box [(2,[[.d (nts t.nodes),.d (ets t.edges)]])],x.tok,x.nt⟩
theorem aEW(t:Ty)(ht:t.Fit)(a:Int):DC 254 [t.av,I a] (.tup [.d (ints (yA t a).1),I (yA t a).2]):=by
 intro tok nt box nb;have qb:=ht.n;have h1:=aFx t ht [a] (by simp);have i6:=@aBC t [a];obtain⟨N,hN⟩:∃N,yA t a=N:=⟨_,rfl⟩
 rw[hN];unfold yA at hN;generalize oC t [a]=E at *;refine sI func254 ntmps254 fun Hb Ht=>?_
 repeat first|simp|refine sR ?_
 refine aT.data ?_;refine sD (h1 _ _) ?_;repeat first|simp|refine sR ?_
 by_cases e1:E=0
 .rw[ac (by simp[e1])] at hN;have hp:=jH (i6 e1).1;apply sC;simp[e1];repeat first|simp|refine sR ?_
  apply sN;refine sL (aPT t a nb box) (fun x=>x.i<=t.nodes.length/\TK tok nt x.tok x.nt [x.own]) (fun x=>t.nodes.length-x.i) ⟨0,.full,tok,nt⟩ ⟨ai _,(TK.start Ht).full⟩ (wM (nr0 _) rfl (by simp[ToL,lk,aGe]) (by simp[aE,lk])) ?_;rintro⟨i,own,tok',nt'⟩ S ⟨hi,htk⟩ hS;simp only[aPT] at hS hi htk;subst hS;have hw:=sW (i:=i) (by omega);have hlen:=aCY t a i;have lw:=aGi t a i;repeat first|simp|refine sR ?_|apply sC
  refine⟨fun hlt=>?_,fun hge=>?_⟩
  .have hc:=aMx t ht i a (by omega) (by omega) hp;generalize gP t a i=L at *;repeat first|simp[hlt]|refine sR ?_
   refine sD (hc _ _) ?_;simp;cases e2:isB t i a
   .rw[e2,ac (by simp)] at lw;repeat first|simp[hw]|refine sR ?_|apply sC
    apply sE;exact⟨⟨i+1,own,tok',nt'⟩,⟨hlt,htk⟩,by simp only;omega,wM htk.le rfl (by simp[ToL,lk,lw]) (by simp[aE,lk])⟩
   .rw[e2,af rfl] at lw;repeat first|simp|refine sR ?_
    apply sC;repeat first|simp|refine sR ?_
    refine⟨⟨by omega,htk.live⟩,?_⟩;repeat first|simp[hw]|refine sR ?_
    apply sE;exact⟨⟨i+1,_,_,_⟩,⟨hlt,htk.app⟩,by simp only;omega,wM htk.app.le rfl (by simp[ToL,lk,lw]) (by simp[aE,lk])⟩
  .apply sX;simp only[AU,↓reduceIte];have:i=t.nodes.length:=by omega
   subst this;repeat first|simp|refine sR ?_
   refine sT (sG Hb Ht htk.old htk.le ?_);simp[<-hN]
 .rw[af e1] at hN;have b1:(E != 0)=true:=by simp[e1]
  apply sC;simp[b1];repeat first|simp|refine sR ?_
  refine sT (sH ?_);simp[<-hN,ints]
theorem aD4(t:Ty)(ht:t.Fit)(g:Gr)(e:E)(h0:0<=e.fr/\e.fr<g.nodes.length)(h2:0<=e.to/\e.to<g.nodes.length)(box:Bxs)(nb k1 k2:Nat)(tok:Tks)(nt:Nat)(h1:box k1=some [[.d (nts t.nodes),.d (ets t.edges)]])(h3:box k2=some [[.d (ints g.nodes),.d (AM.edges g.edges)]]):
  aC prog 262 [.agg [I e.ty,I e.fr,I e.to],.ptr k1 0 0,.ptr k2 0 0] ⟨box,nb,tok,nt⟩ fun v m=>v=B (!lvE t g e)/\m=⟨box,nb,tok,nt⟩:=by
 obtain⟨ty,fr,to'⟩:=e;simp only at h0 h2;obtain⟨a,rfl⟩:=ch h0.1;obtain⟨b,rfl⟩:=ch h2.1;have ha:a<g.nodes.length:=by omega
 have hb:b<g.nodes.length:=by omega
 have hc:=aFA t ht ty g.nodes[a] g.nodes[b];have hL:lvE t g ⟨ty,a,b⟩=nY t ty g.nodes[a] g.nodes[b]:=by simp[lvE,ha,hb]
 rw[hL];generalize nY t ty g.nodes[a] g.nodes[b]=R at *;refine sI func262 ntmps262 fun Hb Ht=>?_
 have k1n:=bH Hb h1;have k2n:=bH Hb h3;repeat first|simp[lO k1n,lO k2n,h1,h3,ha,hb]|refine sR ?_
 refine sD (hc _ _) ?_;repeat first|simp|refine sR ?_
 refine sT (sH ?_);simp
def aOk(t:Ty)(g:Gr)(nb:Nat)(box:Bxs)(tok:Tks)(nt:Nat)(i:Nat):AS :=
 ⟨tl [(12,I i),(11,I g.nodes.length),(10,.d (ints g.nodes)),(3,.ptr (nb+3) 0 0),(2,.ptr (nb+2) 0 0)],lb nb box [(3,[[.d (ints g.nodes),.d (AM.edges g.edges)]]),(2,[[.d (nts t.nodes),.d (ets t.edges)]])],tok,nt⟩
theorem zE(t:Ty)(ht:t.Fit)(g:Gr)(hg:g.Fit)(sq:tyE t=0)(h0:∀n∈g.nodes,0<=n)(hv:∀e∈g.edges,0<=e.fr/\e.fr<g.nodes.length/\0<=e.to/\e.to<g.nodes.length):DC 202 [t.av,g.av] (B (dA t g)):=by
 intro tok nt box nb;have sc:=hg.n;have hge:=hg.e;have qb:=ht.n;obtain⟨N,hN⟩:∃N,dA t g=N:=⟨_,rfl⟩
 rw[hN];unfold dA at hN;refine sI func202 ntmps202 fun Hb Ht=>?_
 repeat first|simp|refine sR ?_
 apply sN;refine sL (aOk t g nb box tok nt) (fun i=>i<=g.nodes.length/\cJ (lvN t) (g.nodes.take i)=true) (fun i=>g.nodes.length-i) 0 ⟨ai _,by simp[cJ]⟩ wkA ?_;rintro i S' ⟨hi,gt⟩ hS;simp only[aOk] at hS;subst hS;have hw:=sW (i:=i) (by omega);repeat first|simp|refine sR ?_|apply sC
 refine⟨fun hlt=>?_,fun hge=>?_⟩
 .have jq:=fun h=>fL (p:=lvN t) hlt h
  have jg:=fun h=>cW (p:=lvN t) hlt gt h
  have hl:lvN t g.nodes[i]=if (t.nodes.length:Int)<=g.nodes[i] then false else eF t g.nodes[i]:=rfl
  have hc:=aEW t ht g.nodes[i];have u7:=h0 _ (aa hlt);have qd:=fun (e1:¬(t.nodes.length:Int)<=g.nodes[i])=>aEc u7 (by omega) (jH sq)
  have rm:=zK (t:=t) sq u7;by_cases e1:(t.nodes.length:Int)<=g.nodes[i]
  .rw[af e1] at hl;rw[jq hl,ac (by simp)] at hN;have hR:yA t g.nodes[i]=([],6):=by rw[yA,af (by rw[rm,af e1];decide),rm,af e1]
   rw[hR] at hc;repeat first|simp[hlt]|refine sR ?_
   refine sD (hc _ _) ?_;repeat first|simp|refine sR ?_
   apply sC;repeat first|simp|refine sR ?_
   refine sT (sH ?_);simp[<-hN]
  .rw[ac e1] at hl;have qd:=qd e1;have hR:yA t g.nodes[i]=(gP t g.nodes[i] t.nodes.length,0):=by rw[yA,ac (by rw[rm,ac e1];simp)]
   rw[hR] at hc;simp only at hc;generalize gP t g.nodes[i] t.nodes.length=L at *;repeat first|simp[hlt]|refine sR ?_
   refine sD (hc _ _) ?_;repeat first|simp|refine sR ?_
   cases e2:eF t g.nodes[i]
   .rw[e2] at hl qd;have e3:(1:Int)<L.length:=by
     have:¬L.length<=1:=fun h=>by simpa using qd.1 h
     omega
    have oz:1<L.length:=by omega
    rw[jq hl,ac (by simp)] at hN;try (simp[e3,oz])
    repeat ((first|refine sR ?_|apply sC|apply sX);simp[e3,oz])
    refine sT (sH ?_);simp[<-hN]
   .rw[e2] at hl qd;have e3:¬(1:Int)<L.length:=by
     have:=qd.2 rfl
     omega
    have oz:¬1<L.length:=by omega
    try (simp[e3,oz,hw])
    repeat ((first|refine sR ?_|apply sC|apply sX);simp[e3,oz,hw])
    apply sE;exact⟨i+1,⟨hlt,jg hl⟩,by omega,wkA⟩
 .apply sX;simp only[AU,↓reduceIte];have:i=g.nodes.length:=by omega
  subst this;rw[bh] at gt;rw[af gt] at hN;obtain⟨p,oy⟩:∃p:E->Bool,(fun e=>!lvE t g e)=p:=⟨_,rfl⟩
  have h2:=fun y (hy:y∈g.edges) box nb k1 k2 p9 hk2=>aD4 t ht g y ⟨(hv y hy).1,(hv y hy).2.1⟩ ⟨(hv y hy).2.2.1,(hv y hy).2.2.2⟩ box nb k1 k2 tok nt p9 hk2
  have so:∀y:E,(!lvE t g y)=p y:=fun y=>by rw[<-oy]
  simp only[so] at h2;have qp:(!bA p g.edges)=N:=by
   rw[<-hN,<-oy,cJ,bA,fu,Bool.not_not];simp
  repeat first|simp|refine sR ?_
  have iq:∀c∈[AV.ptr (nb+2) 0 0,AV.ptr (nb+3) 0 0],bD (fun k=>(lb nb box [(3,[[.d (ints g.nodes),.d (AM.edges g.edges)]]),(2,[[.d (nts t.nodes),.d (ets t.edges)]])]) k≠none) (fun _=>True) c:=by
   intro c hc;simp only[cj,List.not_mem_nil,or_false] at hc;rcases hc with h|h
   .rw[h];simp[aN]
   .rw[h];simp[aN]
  refine aT.of_b (eQ g.edges 262 [.ptr (nb+2) 0 0,.ptr (nb+3) 0 0] p hg.e _ _ _ _ iq (fun y hy box' nb' he=>h2 y hy box' nb' _ _ (he _ _ (by simp[aN])) (he _ _ (by simp[aN])))) ?_;repeat first|simp|refine sR ?_
  refine sT (sH ?_);simp[<-qp]
theorem yW{g:Gr}(h:vG g=0):∀n∈g.nodes,0<=n:=by
 intro n hn;unfold vG at h;split at h
 .cases h
 .split at h
  .cases h
  .rename_i h1 h2;have:=dz.1 (Bool.not_eq_true _ ▸ h2) n hn
   simp[aZ] at this;omega
theorem aIa(t:Ty)(ht:t.Fit)(r:Ru)(hr:r.Fit)(c:Co)(hc:c.Fit):DC 136 [t.av,r.av,c.av] (I (qK t r c)):=by
 intro tok nt box nb;have h1:=lW t ht ht.hM;have h2:=xH r hr;have h3:=aDb t ht c hc;have hv:=@vV r;have l1:=fun sq (h:vG r.lg=0)=>zE t ht r.lg hr.lg sq (yW h) (aD h)
 have l2:=fun sq (h:vG r.rg=0)=>zE t ht r.rg hr.rg sq (yW h) (aD h)
 obtain⟨N,hN⟩:∃N,qK t r c=N:=⟨_,rfl⟩
 rw[hN];unfold qK at hN;generalize tyE t=E at *;generalize tyN t=Z at *;generalize cN r=S at *;refine sI func136 ntmps136 fun Hb Ht=>?_
 repeat first|simp|refine sR ?_
 refine sD (h1 _ _) ?_;repeat first|simp|refine sR ?_
 by_cases e1:E=0
 .rw[ac (by simp[e1])] at hN;apply sC;simp[e1];repeat first|simp|refine sR ?_
  refine sD (h2 _ _) ?_;repeat first|simp|refine sR ?_
  by_cases e2:S=0
  .rw[ac (by simp[e2])] at hN;obtain⟨v1,v2⟩:=hv e2;apply sC;simp[e2];repeat first|simp|refine sR ?_
   refine sD (l1 e1 v1 _ _) ?_;simp;cases e3:dA t r.lg
   .rw[e3,ac (by simp)] at hN;repeat first|simp|refine sR ?_
    apply sC;repeat first|simp|refine sR ?_
    refine sT (sH ?_);simp[<-hN]
   .rw[e3,af rfl] at hN;repeat first|simp|refine sR ?_
    refine sD (l2 e1 v2 _ _) ?_;simp;cases e4:dA t r.rg
    .rw[e4,ac (by simp)] at hN;repeat first|simp|refine sR ?_
     apply sC;repeat first|simp|refine sR ?_
     refine sT (sH ?_);simp[<-hN]
    .rw[e4,af rfl] at hN;repeat first|simp|refine sR ?_
     apply sC;repeat first|simp|refine sR ?_
     refine sD (h3 _ _) ?_;repeat first|simp|refine sR ?_
     refine sT (sH ?_);simp[<-hN]
  .rw[af e2] at hN;have b2:(S != 0)=true:=by simp[e2]
   apply sC;simp[b2];repeat first|simp|refine sR ?_
   refine sT (sH ?_);simp[<-hN]
 .rw[af e1] at hN;have b1:(E != 0)=true:=by simp[e1]
  apply sC;simp[b1];repeat first|simp|refine sR ?_
  refine sT (sH ?_);simp[<-hN]
theorem aGJ(t:Ty)(ht:t.Fit)(r:Ru)(hr:r.Fit)(c:Co)(hc:c.Fit):DC 143 [t.av,r.av,c.av] (I (qK t r c)):=by
 intro tok nt box nb;have h1:=jV t ht ht.hM;have h2:=fU r hr;have h3:=aB6 t ht c hc;have hv:=@vV r;have l1:=fun (h:vG r.lg=0)=>nS t ht r.lg hr.lg (aD h)
 have l2:=fun (h:vG r.rg=0)=>nS t ht r.rg hr.rg (aD h)
 obtain⟨N,hN⟩:∃N,qK t r c=N:=⟨_,rfl⟩
 rw[hN];unfold qK at hN;generalize tyE t=E at *;generalize tyN t=Z at *;generalize cN r=S at *;refine sI func143 ntmps143 fun Hb Ht=>?_
 repeat first|simp|refine sR ?_
 refine sD (h1 _ _) ?_;repeat first|simp|refine sR ?_
 by_cases e1:E=0
 .rw[ac (by simp[e1])] at hN;apply sC;simp[e1];repeat first|simp|refine sR ?_
  refine sD (h2 _ _) ?_;repeat first|simp|refine sR ?_
  by_cases e2:S=0
  .rw[ac (by simp[e2])] at hN;obtain⟨v1,v2⟩:=hv e2;apply sC;simp[e2];repeat first|simp|refine sR ?_
   refine sD (l1 v1 _ _) ?_;simp;cases e3:dA t r.lg
   .rw[e3,ac (by simp)] at hN;repeat first|simp|refine sR ?_
    apply sC;repeat first|simp|refine sR ?_
    refine sT (sH ?_);simp[<-hN]
   .rw[e3,af rfl] at hN;repeat first|simp|refine sR ?_
    refine sD (l2 v2 _ _) ?_;simp;cases e4:dA t r.rg
    .rw[e4,ac (by simp)] at hN;repeat first|simp|refine sR ?_
     apply sC;repeat first|simp|refine sR ?_
     refine sT (sH ?_);simp[<-hN]
    .rw[e4,af rfl] at hN;repeat first|simp|refine sR ?_
     apply sC;repeat first|simp|refine sR ?_
     refine sD (h3 _ _) ?_;repeat first|simp|refine sR ?_
     refine sT (sH ?_);simp[<-hN]
  .rw[af e2] at hN;have b2:(S != 0)=true:=by simp[e2]
   apply sC;simp[b2];repeat first|simp|refine sR ?_
   refine sT (sH ?_);simp[<-hN]
 .rw[af e1] at hN;have b1:(E != 0)=true:=by simp[e1]
  apply sC;simp[b1];repeat first|simp|refine sR ?_
  refine sT (sH ?_);simp[<-hN]
abbrev blB(l:List Bool):D:=.sl 1 (l.map fun b=>[D.raw (.bool b)])
def eO(t:Ty)(a:Nat):List Bool:=(List.range t.nodes.length).map fun (b:Nat)=>isB t (b:Int) (a:Int)
def lP(t:Ty):List (List Bool):=(List.range t.nodes.length).map (eO t)
def isD(t:Ty):D:=.sl 1 ((lP t).map fun r=>[blB r])
def ptD(nl:Bool)(l:List Int):D:=if nl=true then .raw aJV else ints l
structure Sr.Nl (s:Sr) (nl:Bool):Prop where
 n:nl=true->∀x∈s.pt.nodes,x = -1
 e:nl=true->∀x∈s.pt.edges,x = -1
def Sr.rowD(s:Sr)(nl:Bool)(fm:Nat)(N E:List Int)(out:List Mo):List D :=
 [ints s.p.nodes,AM.edges s.p.edges,ints s.g.nodes,AM.edges s.g.edges,isD s.t,ptD nl s.pt.nodes,ptD nl s.pt.edges,.raw (.bool s.inj),.raw (.int .i64 fm),ints N,ints E,.sl 2 (aJy out)]
abbrev Sr.rowF(s:Sr)(nl:Bool)(fm:Nat)(N:List Int)(a:Nat)(E:List Int)(b:Nat)(out:List Mo)(own:Own):List AV :=
 [.d (ints s.p.nodes),.d (AM.edges s.p.edges),.d (ints s.g.nodes),.d (AM.edges s.g.edges),.d (isD s.t),.d (ptD nl s.pt.nodes),.d (ptD nl s.pt.edges),B s.inj,I fm,.stk a 1 (rI N),.stk b 1 (rI E),.osl 2 (aJy out) own]
theorem Sr.row_cds{s:Sr}{nl:Bool}{fm:Nat}{N:List Int}{a:Nat}{E:List Int}{b:Nat}{out:List Mo}{own:Own}{tok:Nat->Bool}(ha:tok a=true)(hb:tok b=true):mA tok (s.rowF nl fm N a E b out own) (s.rowD nl fm N E out) :=
 ⟨.d,.d,.d,.d,.d,.d,.d,.d,.d,.stk ha,.stk hb,.osl,trivial⟩
def gvI(nl:Bool)(l:List Int)(i:Nat):Int:=if nl=true then -1 else l.getD i 0
theorem aEV{nl:Bool}{l:List Int}{i:Nat}(h:nl=true->∀x∈l,x = -1)(hi:i<l.length)(k:Nat):gvB l i k=if 0<=gvI nl l i then decide (gvI nl l i=(k:Int)) else true:=by
 unfold gvB gvI;cases nl
 .simp
 .have:l.getD i 0 = -1:=by
   have:=h rfl _ (aa hi)
   simp[hi,this]
  rw[this];simp
theorem aDs(nl:Bool)(l:List Int)(i:Nat)(hi:i<l.length)(hl:l.length<=1000000):DC 255 [.d (ptD nl l),I i] (I (gvI nl l i)):=by
 intro tok nt box nb;cases nl
 .refine sI func255 ntmps255 fun Hb Ht=>?_
  simp only[ptD,bt,if_false];repeat first|simp[hi]|refine sR ?_
  refine⟨?_,fun h=>by rw[h] at hi;simp at hi⟩;try (simp[hi])
  repeat ((first|refine sR ?_|apply sC|apply sX);simp[hi])
  refine sT (sH ?_);simp[gvI,hi]
 .refine sI func255 ntmps255 fun Hb Ht=>?_
  simp only[ptD,if_true];try (simp)
  repeat ((first|refine sR ?_|apply sC|apply sX);simp)
  refine sT (sH ?_);simp[gvI]
theorem E.dec3(e:E)(a b c:Int):decide (e=⟨a,b,c⟩)=(decide (e.ty=a)&&(decide (e.fr=b)&&decide (e.to=c))):=by
 cases e;simp
theorem aE1(s:Sr)(h:s.Ok)(nl:Bool)(o7:s.Nl nl)(fm:Nat)(N E:List Int)(out:List Mo)(i k:Nat)(hi:i<s.p.edges.length)(hk:k<s.g.edges.length)(hf:(s.p.edges.getD i default).fr<N.length)(ht:(s.p.edges.getD i default).to<N.length):DC 257 [.cptr (s.rowD nl fm N E out) 0,I i,I k] (B (s.fitK N i k)):=by
 intro tok nt box nb;have s8:=h.p.e;have l5:i<s.pt.edges.length:=by rw[h.pe];exact hi
 have hg:=aDs nl s.pt.edges i l5 (by rw[h.pe];omega);have rm:=aEV o7.e l5 k;obtain⟨x1,x2,x3,x4⟩:=h.vp _ (aa hi);have pw:s.p.edges.getD i default=s.p.edges[i]:=by simp[hi]
 rw[pw] at hf ht;have y1:s.p.edges[i].fr.toNat<N.length:=by omega
 have y2:s.p.edges[i].to.toNat<N.length:=by omega
 have zm:qM s.p N i=⟨s.p.edges[i].ty,N[s.p.edges[i].fr.toNat],N[s.p.edges[i].to.toNat]⟩:=by simp[qM,hi,y1,y2]
 have og:s.g.edges.getD k default=s.g.edges[k]:=by simp[hk]
 obtain⟨R,hR⟩:∃R,s.fitK N i k=R:=⟨_,rfl⟩
 rw[hR];unfold Sr.fitK at hR;rw[rm,zm,og] at hR;generalize gvI nl s.pt.edges i=W at *;refine sI func257 ntmps257 fun Hb Ht=>?_
 repeat first|simp[Sr.rowD,hi]|refine sR ?_
 refine sD (hg _ _) ?_;simp;by_cases p01:0<=W/\W≠(k:Int)
 .obtain⟨p0,p1⟩:=p01;have b1:(W != (k:Int))=true:=by simp[p1]
  rw[af p0,ac (by simp[p1])] at hR;try (simp[p0,b1])
  repeat ((first|refine sR ?_|apply sC|apply sX);simp[p0,b1])
  refine sT (sH ?_);simp[<-hR]
 .have hW:(if 0<=W then decide (W=(k:Int)) else true)=true:=by
   by_cases p0:0<=W
   .rw[af p0];by_cases p1:W=(k:Int)
    .simp[p1]
    .exact absurd ⟨p0,p1⟩ p01
   .rw[ac p0]
  rw[af hW,_root_.Go.AM.E.dec3] at hR;have jo:∀Q,(0<=W->(W != (k:Int))=false->Q)->(¬0<=W->Q)->Q:=by
   intro Q h1 h2;by_cases p0:0<=W
   .refine h1 p0 ?_;by_cases p1:W=(k:Int)
    .simp[p1]
    .exact absurd ⟨p0,p1⟩ p01
   .exact h2 p0
  refine jo _ (fun p0 b1=>?_) (fun p0=>?_)
  .try (simp[p0,b1,hk,x1,x3,y1,y2,hf,ht,Sr.rowD])
   repeat ((first|refine sR ?_|apply sC|apply sX);simp[p0,b1,hk,x1,x3,y1,y2,hf,ht,Sr.rowD])
   refine sT (sH ?_);simp[<-hR]
  .try (simp[p0,hk,x1,x3,y1,y2,hf,ht,Sr.rowD])
   repeat ((first|refine sR ?_|apply sC|apply sX);simp[p0,hk,x1,x3,y1,y2,hf,ht,Sr.rowD])
   refine sT (sH ?_);simp[<-hR]
def aLw(s:Sr)(nl:Bool)(fm:Nat)(N E:List Int)(out:List Mo)(nb:Nat)(box:Bxs)(tok:Tks)(nt:Nat)(i:Nat):AS :=
 ⟨tl [(20,I i),(19,I s.p.edges.length),(18,.d (AM.edges s.p.edges)),(3,I ((N.length:Int)-1)),(0,.cptr (s.rowD nl fm N E out) 0)],lb nb box [],tok,nt⟩
def aLE(s:Sr)(nl:Bool)(fm:Nat)(N E:List Int)(out:List Mo)(nb:Nat)(box:Bxs)(tok:Tks)(nt:Nat)(i:Nat)(q:Nat):AS :=
 ⟨tl [(38,I q),(37,I s.g.edges.length),(6,B false),(5,.ptr (nb+5) 0 0),(4,I i),(20,I i),(19,I s.p.edges.length),(18,.d (AM.edges s.p.edges)),(3,I ((N.length:Int)-1)),(0,.cptr (s.rowD nl fm N E out) 0)],
  lb nb box [(5,[[I (s.p.edges.getD i default).ty,I (s.p.edges.getD i default).fr,I (s.p.edges.getD i default).to]])],tok,nt⟩
theorem jJ(s:Sr)(h:s.Ok)(nl:Bool)(o7:s.Nl nl)(fm:Nat)(N E:List Int)(hN:N.length<=s.p.nodes.length)(out:List Mo):DC 256 [.cptr (s.rowD nl fm N E out) 0] (B (s.pos N)):=by
 intro tok nt box nb;have s8:=h.p.e;have v6:=h.p.n;have hge:=h.g.e;have pp:IntKind.i64.wrap (↑N.length-1)=(N.length:Int)-1:=aL (by omega) (by omega)
 have i9:=fun i k hi hk hf ht=>aE1 s h nl o7 fm N E out i k hi hk hf ht
 obtain⟨R,hR⟩:∃R,s.pos N=R:=⟨_,rfl⟩
 rw[hR];refine sI func256 ntmps256 fun Hb Ht=>?_
 repeat first|simp[Sr.rowD,pp]|refine sR ?_
 apply sN;refine sL (aLw s nl fm N E out nb box tok nt) (fun i=>i<=s.p.edges.length/\∀j,j<i->s.posE N j=true) (fun i=>s.p.edges.length-i) 0 ⟨ai _,fun j hj=>absurd hj (b9 _)⟩ (wM (nr0 _) rfl (by simp[ToL,lk,Sr.rowD]) (by simp[aE,lk])) ?_;rintro i S' ⟨hi,gz⟩ hS;simp only[aLw] at hS;subst hS;have hw:=sW (i:=i) (by omega);by_cases hlt:i<s.p.edges.length
 .have pw:s.p.edges.getD i default=s.p.edges[i]:=by simp[hlt]
  have i9:=fun k hk=>i9 i k hlt hk
  obtain⟨x1,x2,x3,x4⟩:=h.vp _ (aa hlt);by_cases rf:max s.p.edges[i].fr s.p.edges[i].to=(N.length:Int)-1
  .have b1:(max s.p.edges[i].fr s.p.edges[i].to != (N.length:Int)-1)=false:=by simp[rf]
   have AK:s.posE N i=(List.range s.g.edges.length).any (s.fitK N i):=by unfold Sr.posE;rw[pw,af rf]
   have i9:=fun k hk=>i9 k hk (by rw[pw];omega) (by rw[pw];omega)
   try (simp[hlt,b1,Sr.rowD])
   repeat ((first|refine sR ?_|apply sC|apply sX);simp[hlt,b1,Sr.rowD])
   apply sN;refine sL (aLE s nl fm N E out nb box tok nt i) (fun q=>q<=s.g.edges.length/\∀j,j<q->s.fitK N i j=false) (fun q=>s.g.edges.length-q) 0 ⟨ai _,fun j hj=>absurd hj (b9 _)⟩ (wM (nr0 _) rfl (by simp[ToL,lk,hlt,Sr.rowD]) (by simp[aE,lk,hlt])) ?_;rintro q S' ⟨hq0,jq⟩ hS;simp only[aLE] at hS;subst hS;have CU:=sW (i:=q) (by omega);by_cases hq:q<s.g.edges.length
   .have hc:=i9 q hq;try (simp[hq])
    repeat ((first|refine sR ?_|apply sC|apply sX);simp[hq])
    refine sD (hc _ _) ?_;cases e:s.fitK N i q
    .try (simp[CU])
     repeat ((first|refine sR ?_|apply sC|apply sX);simp[CU])
     apply sE;exact⟨q+1,⟨hq,fun j hj=>(fo j q).elim (jq j) fun hh=>by rw[show j=q by omega];exact e⟩,by omega,wM (nr0 _) rfl (by simp[ToL,lk,hlt]) (by simp[aE,lk,hlt])⟩
    .have hp:s.posE N i=true:=by
      rw[AK,dv];exact⟨q,ba.2 hq,e⟩
     try (simp[hw])
     repeat ((first|refine sR ?_|apply sC|apply sX);simp[hw])
     apply sE;exact⟨i+1,⟨hlt,fun j hj=>(fo j i).elim (gz j) fun hh=>by rw[show j=i by omega];exact hp⟩,by omega,wkA⟩
   .have:q=s.g.edges.length:=by omega
    subst this;have hp:s.posE N i=false:=by
     rw[AK,dz];exact fun j hj=>by simp[jq j (ba.1 hj)]
    rw[Sr.pos_false hlt hp] at hR;try (simp)
    repeat ((first|refine sR ?_|apply sC|apply sX);simp)
    refine sT (sH ?_);simp[<-hR]
  .have b1:(max s.p.edges[i].fr s.p.edges[i].to != (N.length:Int)-1)=true:=by simp[rf]
   have hp:s.posE N i=true:=by unfold Sr.posE;rw[pw,ac rf]
   try (simp[hlt,b1,hw])
   repeat ((first|refine sR ?_|apply sC|apply sX);simp[hlt,b1,hw])
   apply sE;exact⟨i+1,⟨hlt,fun j hj=>(fo j i).elim (gz j) fun hh=>by rw[show j=i by omega];exact hp⟩,by omega,wkA⟩
 .have:i=s.p.edges.length:=by omega
  subst this;rw[Sr.pos_true gz] at hR;try (simp)
  repeat ((first|refine sR ?_|apply sC|apply sX);simp)
  refine sT (sH ?_);simp[<-hR]
def QFd(s:Sr)(nl:Bool)(fm:Nat)(box:Bxs)(nb k:Nat)(mtok:Tks)(nt0 nt:Nat)(N E:List Int)(R:List Mo)(v:AV)(m:bF):Prop :=
 v=.tup []/\∃a b own tok nt',m=⟨upd box k (some [s.rowF nl fm N a E b R own]),nb,tok,nt'⟩/\TK mtok nt0 tok nt' [.tok a,.tok b,own]/\nt<=nt'
theorem eN{s:Sr}{nl:Bool}{fm:Nat}{N E:List Int}{a b:Nat}{out:List Mo}{own:Own}{box:Bxs}{k base:Nat}{p q:Nat->Prop}(hq:q=fun _=>True):∀k' rows,k'<base->(upd box k (some [s.rowF nl fm N a E b out own])) k'=some rows->box k'=some rows∨∀r∈rows,∀x∈r,bD p q x:=by
 subst hq;intro k' rows jl hr;by_cases e:k'=k
 .subst e;rw[uS] at hr;cases hr;exact .inr (by simp)
 .rw[uO _ _ e] at hr;exact .inl hr
theorem aFZ{c:Addr->Option Value}{ps:Addr->Prop}{xs:List Int}{vs:List Value}(h:cL c ps 1 (rI xs) vs):∀j,j<xs.length->vs[j]?=some (.int .i64 (xs.getD j 0)):=by
 intro j hj;have mh:j<(rI xs).length:=by simpa using hj
 obtain⟨u,h1,h2⟩:=h.read j 0 mh (by simp);rw[gq,e9] at h1;have e:(rI xs)[j][0]'(by simp)=D.raw (.int .i64 xs[j]):=by simp
 rw[e] at h2;cases h2;rw[h1];simp[hj]
theorem aBX(xs:List Int)(hx:xs.length<=1000000)(t:Nat)(tok:Tks)(nt:Nat)(ht:tok t=true):cZ prog 83 [.stk t 1 (rI xs)] tok nt (.d (ints xs)) tok nt:=by
 intro box nb;refine⟨gO.mk func83 rfl (by kernel_rfl),fun G w vals hm hr=>?_⟩;obtain⟨hlen,p8⟩:=hr
 match vals,hlen with
 | [v],_ =>
  have h0:=p8 0 (by simp) (by simp);simp only[cg] at h0;cases h0 with|stk h0 =>
  obtain⟨h1,A,cap,rfl,iq,iu,h2⟩:=h0;obtain⟨_,x,xm⟩:=hm.toks t ht;have h3:=h2 x xm;have hl:(rI xs).length=xs.length:=by simp
  rw[hl] at iq ⊢;cases A with
  | none =>
   have he:xs=[]:=by
    cases x with
    | none=>exact dh.1 (by simp only at h3;omega)
    | some g=>cases h3.1
   subst he;refine(Tryz.slices_Clone_int_nil _ cap w).mono ?_;rintro e w' ⟨rfl,rfl⟩;exact⟨_,_,_,G,rfl,⟨rfl,rfl⟩,rfl,hm,.d (.sl (es:=[]) (fun _ _=>default) (nr0 _) (by decide) (by simp) (by simp) (by simp) (by simp)),Le.refl _ _,fun k hk=>⟨hk,rfl⟩⟩
  | some a =>
   by_cases e:xs=[]
   .subst e;refine(Tryz.slices_Clone_int_zero a cap w).mono ?_;rintro e w' ⟨v,rfl,hown,hnn,hb⟩;exact⟨v,_,_,G,rfl,⟨rfl,rfl⟩,rfl,eV hm hb,.d (mH hm hown),gL hm hb,fun k hk=>⟨hk,rfl⟩⟩
   .have hne:xs.length≠0:=fun h=>e (dh.1 h)
    cases x with
    | none=>simp only at h3;omega
    | some g =>
     obtain⟨hA,vs,sp,et,hg,hh,lu,o8,_⟩:=h3;cases hA;have hc:∀j,j<xs.length->w.cell? ⟨g,0+j,none⟩=some (.int .i64 (xs.getD j 0)):=by
      intro j hj;have:=aFZ o8 j hj
      rw[b6,ee w g _ _ et (0,0) hh];have ya:j<vs.length:=by rw[o8.len];simpa using hj
      simp only[dy,bg ya];exact this
     have:=Tryz.slices_Clone_int g 0 xs.length cap xs w (nr0 _) (by omega) hc
     rw[bh] at this;refine this.mono ?_;rintro e w' ⟨v,rfl,hown,hnn,hb⟩;exact⟨v,_,_,G,rfl,⟨rfl,rfl⟩,rfl,eV hm hb,.d (mH hm hown),gL hm hb,fun k hk=>⟨hk,rfl⟩⟩
structure aPe where
 i:Nat
 out:List Mo
 a:Nat
 b:Nat
 own:Own
 tok:Nat->Bool
 nt:Nat
def Sr.stEp(s:Sr)(fm:Nat)(N E:List Int)(n:Nat)(out:List Mo)(k:Nat):List Mo:=if s.okE N E k=true then nZ fm (s.okE N) s.g.edges.length N n (E++[(k:Int)]) out else out
def aLz(s:Sr)(nl:Bool)(fm:Nat)(N E:List Int)(nb k:Nat)(box:Bxs)(x:aPe):AS :=
 ⟨tl [(164,I x.i),(163,I s.g.edges.length),(162,.d (AM.edges s.g.edges)),(6,I E.length),(0,.ptr k 0 0)],lb nb (upd box k (some [s.rowF nl fm N x.a E x.b x.out x.own])) [],x.tok,x.nt⟩
theorem dF(E:List Int)(v:Int):List.take E.length (rI (E++[v]))=rI E:=by
 unfold rI;rw[cw,c6 (by simp),ak (by simp)]
set_option maxRecDepth 100000 in
theorem aJ6(s:Sr)(h:s.Ok)(nl:Bool)(o7:s.Nl nl)(fm:Nat)(Bi:fm<=1000000)(N:List Int)(hN:N.length=s.p.nodes.length)(mtok:Tks)(nt0:Nat):∀(n:Nat) (E:List Int) (out:List Mo) (a b:Nat) (own:Own) (box:Bxs) (nb k:Nat) (tok:Tks) (nt:Nat),E.length+n=s.p.edges.length->out.length<=fm ->
  box k=some [s.rowF nl fm N a E b out own]->TK mtok nt0 tok nt [.tok a,.tok b,own]->aC prog 199 [.ptr k 0 0] ⟨box,nb,tok,nt⟩ (QFd s nl fm box nb k mtok nt0 nt N E (nZ fm (s.okE N) s.g.edges.length N n E out)):=by
 have v6:=h.p.n;have s8:=h.p.e;have sc:=h.g.n;have hge:=h.g.e;intro n;induction n with
 | zero =>
  intro E out a b own box nb k tok nt hE ho hk htk;have iw:box=upd box k (some [s.rowF nl fm N a E b out own]):=(dR box k _ hk).symm
  refine sI func199 ntmps199 fun Hb Ht=>?_
  have gu:=bH Hb hk;have Bj:E.length=s.p.edges.length:=by omega
  repeat first|simp[lO gu,hk]|refine sR ?_
  by_cases hbig:out.length=fm
  .have b1:((out.length:Int)==(fm:Int))=true:=by simp[hbig]
   try (simp[lO gu,hk,b1])
   repeat ((first|refine sR ?_|apply sC|apply sX);simp[lO gu,hk,b1])
   apply sN;apply sE;refine⟨by simp,(Fin.own (vs:=[]) (av:=.tup []) (by simp[aV,bQ]) Hb rfl (nr0 _) (by simp)).mono fun v m hq=>⟨hq.1,a,b,own,tok,nt,?_,htk,nr0 _⟩⟩;rw[hq.2,nZ,af hbig,<-iw]
  .have b1:((out.length:Int)==(fm:Int))=false:=by simp;omega
   have s9:tok a=true:=htk.live
   have uh:tok b=true:=htk.swap.live
   try (simp[lO gu,hk,b1,hN,Bj])
   repeat ((first|refine sR ?_|apply sC|apply sX);simp[lO gu,hk,b1,hN,Bj])
   refine sD (aBX N (by omega) a _ _ s9) ?_;simp[lO gu,hk];refine sD (aBX E (by omega) b _ _ uh) ?_;simp[lO gu,hk];refine⟨⟨by omega,htk.pick3.live⟩,?_⟩;simp only[uL gu];apply sN;apply sE;have gw:=htk.pick3.app.put3;refine⟨by simp,(Fin.gen (vs:=[]) (av:=.tup []) (tok':=upd (own.kill tok) nt true) (nt':=nt+1) (by simp[aV,bQ]) ?_ (by omega) (nr0 _) (fun t h=>⟨h,.inl rfl⟩) ?_ (by simp)).mono fun v m hq=>⟨hq.1,a,b,.tok nt,_,nt+1,?_,gw,by omega⟩⟩
   .rw[<-uL gu,Hb]
   .intro k' rows jl hr;by_cases e:k'=k
    .subst e;rw[uS] at hr;cases hr;exact .inr (by simp)
    .rw[uO _ _ e] at hr;exact .inl hr
   .rw[hq.2,nZ,ac hbig];simp[Sr.rowF]
 | succ n ih =>
  intro E out a b own box nb k tok nt hE ho hk htk;have iw:box=upd box k (some [s.rowF nl fm N a E b out own]):=(dR box k _ hk).symm
  have hlt:E.length<s.p.edges.length:=by omega
  refine sI func199 ntmps199 fun Hb Ht=>?_
  have gu:=bH Hb hk;repeat first|simp[lO gu,hk]|refine sR ?_
  by_cases hbig:out.length=fm
  .have b1:((out.length:Int)==(fm:Int))=true:=by simp[hbig]
   try (simp[lO gu,hk,b1])
   repeat ((first|refine sR ?_|apply sC|apply sX);simp[lO gu,hk,b1])
   apply sN;apply sE;refine⟨by simp,(Fin.own (vs:=[]) (av:=.tup []) (by simp[aV,bQ]) Hb rfl (nr0 _) (by simp)).mono fun v m hq=>⟨hq.1,a,b,own,tok,nt,?_,htk,nr0 _⟩⟩;rw[hq.2,nZ,af hbig,<-iw]
  .have b1:((out.length:Int)==(fm:Int))=false:=by simp;omega
   try (simp[lO gu,hk,b1,hN,hlt])
   repeat ((first|refine sR ?_|apply sC|apply sX);simp[lO gu,hk,b1,hN,hlt])
   apply sN;have md:∀loc,lb nb box loc=lb nb (upd box k (some [s.rowF nl fm N a E b out own])) loc:=fun loc=>by rw[<-iw]
   rw[md];refine sL (aLz s nl fm N E nb k box) (fun x=>x.i<=s.g.edges.length/\x.out=(List.range x.i).foldl (s.stEp fm N E n) out/\x.out.length<=fm/\TK mtok nt0 x.tok x.nt [.tok x.a,.tok x.b,x.own]/\nt<=x.nt) (fun x=>s.g.edges.length-x.i)
    ⟨0,out,a,b,own,tok,nt⟩ ⟨ai _,rfl,ho,htk,nr0 _⟩ (bB.mk' (nr0 _) (by simp[ToL,lk];exact bG (by rw[lO gu,uS];simp)) (by simp[aE,lk]) (eN rfl)) ?_
   rintro⟨i,ia,a2,b2,ie,ib,io⟩ S ⟨hi,jy,ms,gw,kq⟩ hS;simp only[aLz] at hS hi jy ms gw kq;subst hS;have hw:IntKind.i64.wrap (↑i+1)=((i+1:Nat):Int):=by rw[aL (by omega) (by omega)];omega
   have ip:(List.range (i+1)).foldl (s.stEp fm N E n) out=s.stEp fm N E n ia i:=by
    rw[jy,cu,fc];rfl
   have s9:ib a2=true:=gw.live
   have uh:ib b2=true:=gw.swap.live
   by_cases ix:i<s.g.edges.length
   .obtain⟨x1,x2,x3,x4⟩:=h.vp _ (aa hlt);have pw:s.p.edges.getD E.length default=s.p.edges[E.length]:=by simp[hlt]
    have i9:=aE1 s h nl o7 fm N E ia E.length i hlt ix (by rw[pw];omega) (by rw[pw];omega);have i8:=s.okE_eq N E i;try (simp[lO gu,uS,ix])
    repeat ((first|refine sR ?_|apply sC|apply sX);simp[lO gu,uS,ix])
    refine aT.of_r (dH.lends rfl (fun tok=>i9 tok io) ⟨.ptr (by simp only[lO gu,uS]) (Sr.row_cds (own:=ie) s9 uh),.same (by simp),.same (by simp),trivial⟩) ?_;cases e1:s.fitK N E.length i
    .have gt:s.okE N E i=false:=by rw[i8,e1];rfl
     try (simp[lO gu,uS,hw])
     repeat ((first|refine sR ?_|apply sC|apply sX);simp[lO gu,uS,hw])
     apply sE;exact⟨⟨i+1,ia,a2,b2,ie,ib,io⟩,⟨ix,by rw[ip,Sr.stEp,gt];simp,ms,gw,kq⟩,by simp only;omega,bB.mk' (by have:=gw.le;omega) (by simp[ToL,lk];exact bG (by rw[lO gu,uS];simp)) (by simp[aE,lk]) (eN rfl)⟩
    .have i8:s.okE N E i=!usB s.inj E i:=by rw[i8,e1];simp
     have skip:∀Q:Prop,(s.inj=true->decide ((i:Int)∈E)=true->Q)->(s.inj=true->decide ((i:Int)∈E)=false->Q)->(s.inj=false->Q)->Q:=by
      intro Q h1 h2 h3;cases ei:s.inj
      .exact h3 ei
      .cases ed:decide ((i:Int)∈E)
       .exact h2 ei ed
       .exact h1 ei ed
     refine skip _ (fun ei ed=>?_) (fun ei ed=>?_) (fun ei=>?_)
     .have gt:s.okE N E i=false:=by rw[i8,usB,af ei,ed];rfl
      simp[lO gu,uS,ei];refine aT.of_r (dH.lends rfl (fun tok=>bN E i (by omega) tok io) ⟨.stk uh,.same (by simp),trivial⟩) ?_;rw[ed];try (simp[hw])
      repeat ((first|refine sR ?_|apply sC|apply sX);simp[hw])
      apply sE;exact⟨⟨i+1,ia,a2,b2,ie,ib,io⟩,⟨ix,by rw[ip,Sr.stEp,gt];simp,ms,gw,kq⟩,by simp only;omega,bB.mk' (by have:=gw.le;omega) (by simp[ToL,lk];exact bG (by rw[lO gu,uS];simp)) (by simp[aE,lk]) (eN rfl)⟩
     .have gt:s.okE N E i=true:=by rw[i8,usB,af ei,ed];rfl
      simp[lO gu,uS,ei];refine aT.of_r (dH.lends rfl (fun tok=>bN E i (by omega) tok io) ⟨.stk uh,.same (by simp),trivial⟩) ?_;rw[ed];try (simp[lO gu,uS])
      repeat ((first|refine sR ?_|apply sC|apply sX);simp[lO gu,uS])
      refine⟨⟨by omega,uh⟩,?_⟩;have ig:=gw.swap.app.swap;simp only[uL gu,bJ];try (simp[lO gu,uS])
      repeat ((first|refine sR ?_|apply sC|apply sX);simp[lO gu,uS])
      refine aT.of_a (ih (E++[(i:Int)]) ia a2 io ie _ _ k _ _ (by simp;omega) ms (by simp[lO gu,uS]) ig) ?_;rintro v m' ⟨rfl,a3,b3,jf,i7,ka,rfl,lr,l9⟩;have l9:io+1<=ka:=l9
      have ot:nt<=ka:=by omega
      simp[uL gu,bJ];try (simp[lO gu,uS,dF,hw])
      repeat ((first|refine sR ?_|apply sC|apply sX);simp[lO gu,uS,dF,hw])
      simp only[uL gu,bJ];apply sE;exact⟨⟨i+1,nZ fm (s.okE N) s.g.edges.length N n (E++[(i:Int)]) ia,a3,b3,jf,i7,ka⟩,⟨ix,by rw[ip,Sr.stEp,gt];simp,aC2 ms,lr,by omega⟩,by simp only;omega,bB.mk' ot (by simp[ToL,lk];exact bG (by rw[lO gu,uS];simp)) (by simp[aE,lk]) (eN rfl)⟩
     .have gt:s.okE N E i=true:=by rw[i8,usB,ac (by simp[ei])];rfl
      simp[lO gu,uS,ei];try (simp[lO gu,uS])
      repeat ((first|refine sR ?_|apply sC|apply sX);simp[lO gu,uS])
      refine⟨⟨by omega,uh⟩,?_⟩;have ig:=gw.swap.app.swap;simp only[uL gu,bJ];try (simp[lO gu,uS])
      repeat ((first|refine sR ?_|apply sC|apply sX);simp[lO gu,uS])
      refine aT.of_a (ih (E++[(i:Int)]) ia a2 io ie _ _ k _ _ (by simp;omega) ms (by simp[lO gu,uS]) ig) ?_;rintro v m' ⟨rfl,a3,b3,jf,i7,ka,rfl,lr,l9⟩;have l9:io+1<=ka:=l9
      have ot:nt<=ka:=by omega
      simp[uL gu,bJ];try (simp[lO gu,uS,dF,hw])
      repeat ((first|refine sR ?_|apply sC|apply sX);simp[lO gu,uS,dF,hw])
      simp only[uL gu,bJ];apply sE;exact⟨⟨i+1,nZ fm (s.okE N) s.g.edges.length N n (E++[(i:Int)]) ia,a3,b3,jf,i7,ka⟩,⟨ix,by rw[ip,Sr.stEp,gt];simp,aC2 ms,lr,by omega⟩,by simp only;omega,bB.mk' ot (by simp[ToL,lk];exact bG (by rw[lO gu,uS];simp)) (by simp[aE,lk]) (eN rfl)⟩
   .have:i=s.g.edges.length:=by omega
    subst this;try (simp[lO gu,uS])
    repeat ((first|refine sR ?_|apply sC|apply sX);simp[lO gu,uS])
    apply sN;apply sE;refine⟨by simp,(Fin.gen (vs:=[]) (av:=.tup []) (tok':=ib) (nt':=io) (by simp[aV,bQ]) ?_ kq (nr0 _) (fun t h=>⟨h,.inl rfl⟩) (eN (by simp)) (by simp)).mono fun v m hq=>⟨hq.1,a2,b2,ie,ib,io,?_,gw,kq⟩⟩
    .rw[<-uL gu,Hb]
    .rw[hq.2,nZ,ac hbig,jy];rfl
def Sr.stNp(s:Sr)(fm:Nat)(N:List Int)(r:Nat)(out:List Mo)(k:Nat):List Mo :=
 if s.okN N k=true then (if s.pos (N++[(k:Int)])=true then s.fnP fm r (N++[(k:Int)]) out else out) else out
def aLM(s:Sr)(nl:Bool)(fm:Nat)(N:List Int)(nb k:Nat)(box:Bxs)(x:aPe):AS :=
 ⟨tl [(63,I x.i),(62,I s.g.nodes.length),(61,.d (ints s.g.nodes)),(2,I N.length),(0,.ptr k 0 0)],lb nb (upd box k (some [s.rowF nl fm N x.a [] x.b x.out x.own])) [],x.tok,x.nt⟩
theorem aAz{t:Ty}{a:Nat}(h:a<t.nodes.length):(lP t)[a]'(by simp[lP];exact h)=eO t a:=by simp[lP]
set_option maxRecDepth 100000 in
theorem aKa(s:Sr)(h:s.Ok)(nl:Bool)(o7:s.Nl nl)(fm:Nat)(Bi:fm<=1000000)(mtok:Tks)(nt0:Nat):∀(r:Nat) (N:List Int) (out:List Mo) (a b:Nat) (own:Own) (box:Bxs) (nb k:Nat) (tok:Tks) (nt:Nat),N.length+r=s.p.nodes.length->out.length<=fm ->
  box k=some [s.rowF nl fm N a [] b out own]->TK mtok nt0 tok nt [.tok a,.tok b,own]->aC prog 199 [.ptr k 0 0] ⟨box,nb,tok,nt⟩ (QFd s nl fm box nb k mtok nt0 nt N [] (s.fnP fm r N out)):=by
 have v6:=h.p.n;have s8:=h.p.e;have sc:=h.g.n;have hge:=h.g.e;have qb:=h.t.n;intro r;induction r with
 | zero =>
  intro N out a b own box nb k tok nt hN ho hk htk;exact aJ6 s h nl o7 fm Bi N (by omega) mtok nt0 s.p.edges.length [] out a b own box nb k tok nt (by simp) ho hk htk
 | succ r ih =>
  intro N out a b own box nb k tok nt hN ho hk htk;have iw:box=upd box k (some [s.rowF nl fm N a [] b out own]):=(dR box k _ hk).symm
  have hlt:N.length<s.p.nodes.length:=by omega
  refine sI func199 ntmps199 fun Hb Ht=>?_
  have gu:=bH Hb hk;repeat first|simp[lO gu,hk]|refine sR ?_
  by_cases hbig:out.length=fm
  .have b1:((out.length:Int)==(fm:Int))=true:=by simp[hbig]
   try (simp[lO gu,hk,b1])
   repeat ((first|refine sR ?_|apply sC|apply sX);simp[lO gu,hk,b1])
   apply sN;apply sE;refine⟨by simp,(Fin.own (vs:=[]) (av:=.tup []) (by simp[aV,bQ]) Hb rfl (nr0 _) (by simp)).mono fun v m hq=>⟨hq.1,a,b,own,tok,nt,?_,htk,nr0 _⟩⟩;rw[hq.2,Sr.fnP,yK,af hbig,<-iw]
  .have b1:((out.length:Int)==(fm:Int))=false:=by simp;omega
   try (simp[lO gu,hk,b1,hlt])
   repeat ((first|refine sR ?_|apply sC|apply sX);simp[lO gu,hk,b1,hlt])
   apply sN;have md:∀loc,lb nb box loc=lb nb (upd box k (some [s.rowF nl fm N a [] b out own])) loc:=fun loc=>by rw[<-iw]
   rw[md];refine sL (aLM s nl fm N nb k box) (fun x=>x.i<=s.g.nodes.length/\x.out=(List.range x.i).foldl (s.stNp fm N r) out/\x.out.length<=fm/\TK mtok nt0 x.tok x.nt [.tok x.a,.tok x.b,x.own]/\nt<=x.nt) (fun x=>s.g.nodes.length-x.i)
    ⟨0,out,a,b,own,tok,nt⟩ ⟨ai _,rfl,ho,htk,nr0 _⟩ (bB.mk' (nr0 _) (by simp[ToL,lk];exact bG (by rw[lO gu,uS];simp)) (by simp[aE,lk]) (eN rfl)) ?_
   rintro⟨i,ia,a2,b2,ie,ib,io⟩ S ⟨hi,jy,ms,gw,kq⟩ hS;simp only[aLM] at hS hi jy ms gw kq;subst hS;have hw:IntKind.i64.wrap (↑i+1)=((i+1:Nat):Int):=by rw[aL (by omega) (by omega)];omega
   have ip:(List.range (i+1)).foldl (s.stNp fm N r) out=s.stNp fm N r ia i:=by
    rw[jy,cu,fc];rfl
   have s9:ib a2=true:=gw.live
   have uh:ib b2=true:=gw.swap.live
   by_cases ix:i<s.g.nodes.length
   .have nz:N.length<s.pt.nodes.length:=by rw[h.pn];exact hlt
    have rm:=aEV o7.n nz i;have Cj:=aDs nl s.pt.nodes N.length nz (by rw[h.pn];omega);obtain⟨z1,z2⟩:=h.np _ (aa hlt);obtain⟨z3,z4⟩:=h.ng _ (aa ix);have og:s.g.nodes.getD i 0=s.g.nodes[i]:=by simp[ix]
    have Ck:s.p.nodes.getD N.length 0=s.p.nodes[N.length]:=by simp[hlt]
    obtain⟨q,hq⟩:=ch z1;obtain⟨u,hu⟩:=ch z3;have nu:q<s.t.nodes.length:=by omega
    have pc:u<s.t.nodes.length:=by omega
    have nv:s.okN N i=if (if 0<=gvI nl s.pt.nodes N.length then decide (gvI nl s.pt.nodes N.length=(i:Int)) else true)=true then (if usB s.inj N i=true then false else isB s.t (u:Int) (q:Int)) else false:=by
     unfold Sr.okN;rw[rm,og,Ck,hq,hu]
    generalize gvI nl s.pt.nodes N.length=W at *;have hisD:D.sl 1 (List.map (fun r=>[blB r]) (lP s.t))=isD s.t:=rfl
    have k7:(lP s.t).length=s.t.nodes.length:=by simp[lP]
    have ja:(eO s.t q).length=s.t.nodes.length:=by simp[eO]
    have hrow:(lP s.t)[q]'(by rw[k7];exact nu)=eO s.t q:=aAz nu
    have hcol:(eO s.t q)[u]'(by rw[ja];exact pc)=isB s.t (u:Int) (q:Int):=by simp[eO]
    try (simp[lO gu,uS,ix])
    repeat ((first|refine sR ?_|apply sC|apply sX);simp[lO gu,uS,ix])
    refine sD (Cj _ _) ?_;simp;by_cases p01:0<=W/\W≠(i:Int)
    .obtain⟨p0,p1⟩:=p01;have bw:(W != (i:Int))=true:=by simp[p1]
     have gt:s.okN N i=false:=by rw[nv,af p0];simp[p1]
     try (simp[lO gu,uS,p0,bw,hw])
     repeat ((first|refine sR ?_|apply sC|apply sX);simp[lO gu,uS,p0,bw,hw])
     apply sE;exact⟨⟨i+1,ia,a2,b2,ie,ib,io⟩,⟨ix,by rw[ip,Sr.stNp,gt];simp,ms,gw,kq⟩,by simp only;omega,bB.mk' (by have:=gw.le;omega) (by simp[ToL,lk];exact bG (by rw[lO gu,uS];simp)) (by simp[aE,lk]) (eN rfl)⟩
    .have hW:(if 0<=W then decide (W=(i:Int)) else true)=true:=by
      by_cases p0:0<=W
      .rw[af p0];by_cases p1:W=(i:Int)
       .simp[p1]
       .exact absurd ⟨p0,p1⟩ p01
      .rw[ac p0]
     rw[af hW] at nv;have jo:∀Q,(0<=W->(W != (i:Int))=false->Q)->(¬0<=W->Q)->Q:=by
      intro Q h1 h2;by_cases p0:0<=W
      .refine h1 p0 ?_;by_cases p1:W=(i:Int)
       .simp[p1]
       .exact absurd ⟨p0,p1⟩ p01
      .exact h2 p0
     have skip:∀Q:Prop,(s.inj=true->decide ((i:Int)∈N)=true->Q)->(s.inj=true->decide ((i:Int)∈N)=false->Q)->(s.inj=false->Q)->Q:=by
      intro Q h1 h2 h3;cases ei:s.inj
      .exact h3 ei
      .cases ed:decide ((i:Int)∈N)
       .exact h2 ei ed
       .exact h1 ei ed
     refine jo _ (fun p0 bw=>?_) (fun p0=>?_)
     .cases hB:isB s.t (u:Int) (q:Int)
      .have gt:s.okN N i=false:=by rw[nv,hB];simp
       try (simp[lO gu,uS,p0,bw,hw,hlt,hq,hu,nu,pc,isD,k7,ja,hrow,hcol,hB])
       repeat ((first|refine sR ?_|apply sC|apply sX);simp[lO gu,uS,p0,bw,hw,hlt,hq,hu,nu,pc,isD,k7,ja,hrow,hcol,hB])
       apply sE;exact⟨⟨i+1,ia,a2,b2,ie,ib,io⟩,⟨ix,by rw[ip,Sr.stNp,gt];simp,ms,gw,kq⟩,by simp only;omega,bB.mk' (by have:=gw.le;omega) (by simp[ToL,lk];exact bG (by rw[lO gu,uS];simp)) (by simp[aE,lk]) (eN rfl)⟩
      .rw[hB] at nv;refine skip _ (fun ei ed=>?_) (fun ei ed=>?_) (fun ei=>?_)
       .have gt:s.okN N i=false:=by rw[nv,usB,af ei,ed];rfl
        try (simp[lO gu,uS,p0,bw,hw,hlt,hq,hu,nu,pc,isD,k7,ja,hrow,hcol,hB,ei])
        repeat ((first|refine sR ?_|apply sC|apply sX);simp[lO gu,uS,p0,bw,hw,hlt,hq,hu,nu,pc,isD,k7,ja,hrow,hcol,hB,ei])
        refine aT.of_r (dH.lends rfl (fun tok=>bN N i (by omega) tok io) ⟨.stk s9,.same (by simp),trivial⟩) ?_;rw[ed];try (simp[hw])
        repeat ((first|refine sR ?_|apply sC|apply sX);simp[hw])
        apply sE;exact⟨⟨i+1,ia,a2,b2,ie,ib,io⟩,⟨ix,by rw[ip,Sr.stNp,gt];simp,ms,gw,kq⟩,by simp only;omega,bB.mk' (by have:=gw.le;omega) (by simp[ToL,lk];exact bG (by rw[lO gu,uS];simp)) (by simp[aE,lk]) (eN rfl)⟩
       .have gt:s.okN N i=true:=by rw[nv,usB,af ei,ed];rfl
        try (simp[lO gu,uS,p0,bw,hw,hlt,hq,hu,nu,pc,isD,k7,ja,hrow,hcol,hB,ei])
        repeat ((first|refine sR ?_|apply sC|apply sX);simp[lO gu,uS,p0,bw,hw,hlt,hq,hu,nu,pc,isD,k7,ja,hrow,hcol,hB,ei])
        refine aT.of_r (dH.lends rfl (fun tok=>bN N i (by omega) tok io) ⟨.stk s9,.same (by simp),trivial⟩) ?_;rw[ed];try (simp[lO gu,uS])
        repeat ((first|refine sR ?_|apply sC|apply sX);simp[lO gu,uS])
        refine⟨⟨by omega,s9⟩,?_⟩;have ig:=gw.app;simp only[uL gu,bJ];have ro:(upd (upd ib a2 false) io true) io=true:=uS _ _ _
        have rp:(upd (upd ib a2 false) io true) b2=true:=ig.swap.live
        have kk:=jJ s h nl o7 fm (N++[(i:Int)]) [] (by simp;omega) ia;try (simp[lO gu,uS])
        repeat ((first|refine sR ?_|apply sC|apply sX);simp[lO gu,uS])
        refine aT.of_r (dH.lends rfl (fun tok=>kk tok (io+1)) ⟨.ptr (row:=s.rowF nl fm (N++[(i:Int)]) io [] b2 ia ie) (by simp[lO gu,uS]) (Sr.row_cds (own:=ie) ro rp),trivial⟩) ?_;cases hP:s.pos (N++[(i:Int)])
        .try (simp[lO gu,uS,dF,hw])
         repeat ((first|refine sR ?_|apply sC|apply sX);simp[lO gu,uS,dF,hw])
         simp only[uL gu,bJ];apply sE;exact⟨⟨i+1,ia,io,b2,ie,_,io+1⟩,⟨ix,by rw[ip,Sr.stNp,gt,hP];simp,ms,ig,fe kq⟩,by simp only;omega,bB.mk' (fe kq) (by simp[ToL,lk];exact bG (by rw[lO gu,uS];simp)) (by simp[aE,lk]) (eN (s:=s) (nl:=nl) (fm:=fm) (N:=N) (E:=[]) (a:=io) (b:=b2) (out:=ia) (own:=ie) rfl)⟩
        .try (simp[lO gu,uS])
         repeat ((first|refine sR ?_|apply sC|apply sX);simp[lO gu,uS])
         refine aT.of_a (ih (N++[(i:Int)]) ia io b2 ie _ _ k _ _ (by simp;omega) ms (by simp[lO gu,uS]) ig) ?_;rintro v m' ⟨rfl,a3,b3,jf,i7,ka,rfl,lr,l9⟩;have l9:io+1<=ka:=l9
         have ot:nt<=ka:=by omega
         simp[uL gu,bJ];try (simp[lO gu,uS,dF,hw])
         repeat ((first|refine sR ?_|apply sC|apply sX);simp[lO gu,uS,dF,hw])
         simp only[uL gu,bJ];apply sE;exact⟨⟨i+1,s.fnP fm r (N++[(i:Int)]) ia,a3,b3,jf,i7,ka⟩,⟨ix,by rw[ip,Sr.stNp,gt,hP];simp,Sr.fnP_len h ms,lr,by omega⟩,by simp only;omega,bB.mk' ot (by simp[ToL,lk];exact bG (by rw[lO gu,uS];simp)) (by simp[aE,lk]) (eN (s:=s) (nl:=nl) (fm:=fm) (N:=N) (E:=[]) (a:=a3) (b:=b3) (out:=s.fnP fm r (N++[(i:Int)]) ia) (own:=jf) rfl)⟩
       .have gt:s.okN N i=true:=by rw[nv,usB,ac (by simp[ei])]
        refine sR ?_;simp[lO gu,uS,p0,bw,hw,hlt,hq,hu,nu,pc,isD,k7,ja,hrow,hcol,hB,ei];apply sC;simp;try (simp[lO gu,uS])
        repeat ((first|refine sR ?_|apply sC|apply sX);simp[lO gu,uS])
        refine⟨⟨by omega,s9⟩,?_⟩;have ig:=gw.app;simp only[uL gu,bJ];have ro:(upd (upd ib a2 false) io true) io=true:=uS _ _ _
        have rp:(upd (upd ib a2 false) io true) b2=true:=ig.swap.live
        have kk:=jJ s h nl o7 fm (N++[(i:Int)]) [] (by simp;omega) ia;try (simp[lO gu,uS])
        repeat ((first|refine sR ?_|apply sC|apply sX);simp[lO gu,uS])
        refine aT.of_r (dH.lends rfl (fun tok=>kk tok (io+1)) ⟨.ptr (row:=s.rowF nl fm (N++[(i:Int)]) io [] b2 ia ie) (by simp[lO gu,uS]) (Sr.row_cds (own:=ie) ro rp),trivial⟩) ?_;cases hP:s.pos (N++[(i:Int)])
        .try (simp[lO gu,uS,dF,hw])
         repeat ((first|refine sR ?_|apply sC|apply sX);simp[lO gu,uS,dF,hw])
         simp only[uL gu,bJ];apply sE;exact⟨⟨i+1,ia,io,b2,ie,_,io+1⟩,⟨ix,by rw[ip,Sr.stNp,gt,hP];simp,ms,ig,fe kq⟩,by simp only;omega,bB.mk' (fe kq) (by simp[ToL,lk];exact bG (by rw[lO gu,uS];simp)) (by simp[aE,lk]) (eN (s:=s) (nl:=nl) (fm:=fm) (N:=N) (E:=[]) (a:=io) (b:=b2) (out:=ia) (own:=ie) rfl)⟩
        .try (simp[lO gu,uS])
         repeat ((first|refine sR ?_|apply sC|apply sX);simp[lO gu,uS])
         refine aT.of_a (ih (N++[(i:Int)]) ia io b2 ie _ _ k _ _ (by simp;omega) ms (by simp[lO gu,uS]) ig) ?_;rintro v m' ⟨rfl,a3,b3,jf,i7,ka,rfl,lr,l9⟩;have l9:io+1<=ka:=l9
         have ot:nt<=ka:=by omega
         simp[uL gu,bJ];try (simp[lO gu,uS,dF,hw])
         repeat ((first|refine sR ?_|apply sC|apply sX);simp[lO gu,uS,dF,hw])
         simp only[uL gu,bJ];apply sE;exact⟨⟨i+1,s.fnP fm r (N++[(i:Int)]) ia,a3,b3,jf,i7,ka⟩,⟨ix,by rw[ip,Sr.stNp,gt,hP];simp,Sr.fnP_len h ms,lr,by omega⟩,by simp only;omega,bB.mk' ot (by simp[ToL,lk];exact bG (by rw[lO gu,uS];simp)) (by simp[aE,lk]) (eN (s:=s) (nl:=nl) (fm:=fm) (N:=N) (E:=[]) (a:=a3) (b:=b3) (out:=s.fnP fm r (N++[(i:Int)]) ia) (own:=jf) rfl)⟩
     .cases hB:isB s.t (u:Int) (q:Int)
      .have gt:s.okN N i=false:=by rw[nv,hB];simp
       try (simp[lO gu,uS,p0,hw,hlt,hq,hu,nu,pc,isD,k7,ja,hrow,hcol,hB])
       repeat ((first|refine sR ?_|apply sC|apply sX);simp[lO gu,uS,p0,hw,hlt,hq,hu,nu,pc,isD,k7,ja,hrow,hcol,hB])
       apply sE;exact⟨⟨i+1,ia,a2,b2,ie,ib,io⟩,⟨ix,by rw[ip,Sr.stNp,gt];simp,ms,gw,kq⟩,by simp only;omega,bB.mk' (by have:=gw.le;omega) (by simp[ToL,lk];exact bG (by rw[lO gu,uS];simp)) (by simp[aE,lk]) (eN rfl)⟩
      .rw[hB] at nv;refine skip _ (fun ei ed=>?_) (fun ei ed=>?_) (fun ei=>?_)
       .have gt:s.okN N i=false:=by rw[nv,usB,af ei,ed];rfl
        try (simp[lO gu,uS,p0,hw,hlt,hq,hu,nu,pc,isD,k7,ja,hrow,hcol,hB,ei])
        repeat ((first|refine sR ?_|apply sC|apply sX);simp[lO gu,uS,p0,hw,hlt,hq,hu,nu,pc,isD,k7,ja,hrow,hcol,hB,ei])
        refine aT.of_r (dH.lends rfl (fun tok=>bN N i (by omega) tok io) ⟨.stk s9,.same (by simp),trivial⟩) ?_;rw[ed];try (simp[hw])
        repeat ((first|refine sR ?_|apply sC|apply sX);simp[hw])
        apply sE;exact⟨⟨i+1,ia,a2,b2,ie,ib,io⟩,⟨ix,by rw[ip,Sr.stNp,gt];simp,ms,gw,kq⟩,by simp only;omega,bB.mk' (by have:=gw.le;omega) (by simp[ToL,lk];exact bG (by rw[lO gu,uS];simp)) (by simp[aE,lk]) (eN rfl)⟩
       .have gt:s.okN N i=true:=by rw[nv,usB,af ei,ed];rfl
        try (simp[lO gu,uS,p0,hw,hlt,hq,hu,nu,pc,isD,k7,ja,hrow,hcol,hB,ei])
        repeat ((first|refine sR ?_|apply sC|apply sX);simp[lO gu,uS,p0,hw,hlt,hq,hu,nu,pc,isD,k7,ja,hrow,hcol,hB,ei])
        refine aT.of_r (dH.lends rfl (fun tok=>bN N i (by omega) tok io) ⟨.stk s9,.same (by simp),trivial⟩) ?_;rw[ed];try (simp[lO gu,uS])
        repeat ((first|refine sR ?_|apply sC|apply sX);simp[lO gu,uS])
        refine⟨⟨by omega,s9⟩,?_⟩;have ig:=gw.app;simp only[uL gu,bJ];have ro:(upd (upd ib a2 false) io true) io=true:=uS _ _ _
        have rp:(upd (upd ib a2 false) io true) b2=true:=ig.swap.live
        have kk:=jJ s h nl o7 fm (N++[(i:Int)]) [] (by simp;omega) ia;try (simp[lO gu,uS])
        repeat ((first|refine sR ?_|apply sC|apply sX);simp[lO gu,uS])
        refine aT.of_r (dH.lends rfl (fun tok=>kk tok (io+1)) ⟨.ptr (row:=s.rowF nl fm (N++[(i:Int)]) io [] b2 ia ie) (by simp[lO gu,uS]) (Sr.row_cds (own:=ie) ro rp),trivial⟩) ?_;cases hP:s.pos (N++[(i:Int)])
        .try (simp[lO gu,uS,dF,hw])
         repeat ((first|refine sR ?_|apply sC|apply sX);simp[lO gu,uS,dF,hw])
         simp only[uL gu,bJ];apply sE;exact⟨⟨i+1,ia,io,b2,ie,_,io+1⟩,⟨ix,by rw[ip,Sr.stNp,gt,hP];simp,ms,ig,fe kq⟩,by simp only;omega,bB.mk' (fe kq) (by simp[ToL,lk];exact bG (by rw[lO gu,uS];simp)) (by simp[aE,lk]) (eN (s:=s) (nl:=nl) (fm:=fm) (N:=N) (E:=[]) (a:=io) (b:=b2) (out:=ia) (own:=ie) rfl)⟩
        .try (simp[lO gu,uS])
         repeat ((first|refine sR ?_|apply sC|apply sX);simp[lO gu,uS])
         refine aT.of_a (ih (N++[(i:Int)]) ia io b2 ie _ _ k _ _ (by simp;omega) ms (by simp[lO gu,uS]) ig) ?_;rintro v m' ⟨rfl,a3,b3,jf,i7,ka,rfl,lr,l9⟩;have l9:io+1<=ka:=l9
         have ot:nt<=ka:=by omega
         simp[uL gu,bJ];try (simp[lO gu,uS,dF,hw])
         repeat ((first|refine sR ?_|apply sC|apply sX);simp[lO gu,uS,dF,hw])
         simp only[uL gu,bJ];apply sE;exact⟨⟨i+1,s.fnP fm r (N++[(i:Int)]) ia,a3,b3,jf,i7,ka⟩,⟨ix,by rw[ip,Sr.stNp,gt,hP];simp,Sr.fnP_len h ms,lr,by omega⟩,by simp only;omega,bB.mk' ot (by simp[ToL,lk];exact bG (by rw[lO gu,uS];simp)) (by simp[aE,lk]) (eN (s:=s) (nl:=nl) (fm:=fm) (N:=N) (E:=[]) (a:=a3) (b:=b3) (out:=s.fnP fm r (N++[(i:Int)]) ia) (own:=jf) rfl)⟩
       .have gt:s.okN N i=true:=by rw[nv,usB,ac (by simp[ei])]
        refine sR ?_;simp[lO gu,uS,p0,hw,hlt,hq,hu,nu,pc,isD,k7,ja,hrow,hcol,hB,ei];apply sC;simp;try (simp[lO gu,uS])
        repeat ((first|refine sR ?_|apply sC|apply sX);simp[lO gu,uS])
        refine⟨⟨by omega,s9⟩,?_⟩;have ig:=gw.app;simp only[uL gu,bJ];have ro:(upd (upd ib a2 false) io true) io=true:=uS _ _ _
        have rp:(upd (upd ib a2 false) io true) b2=true:=ig.swap.live
        have kk:=jJ s h nl o7 fm (N++[(i:Int)]) [] (by simp;omega) ia;try (simp[lO gu,uS])
        repeat ((first|refine sR ?_|apply sC|apply sX);simp[lO gu,uS])
        refine aT.of_r (dH.lends rfl (fun tok=>kk tok (io+1)) ⟨.ptr (row:=s.rowF nl fm (N++[(i:Int)]) io [] b2 ia ie) (by simp[lO gu,uS]) (Sr.row_cds (own:=ie) ro rp),trivial⟩) ?_;cases hP:s.pos (N++[(i:Int)])
        .try (simp[lO gu,uS,dF,hw])
         repeat ((first|refine sR ?_|apply sC|apply sX);simp[lO gu,uS,dF,hw])
         simp only[uL gu,bJ];apply sE;exact⟨⟨i+1,ia,io,b2,ie,_,io+1⟩,⟨ix,by rw[ip,Sr.stNp,gt,hP];simp,ms,ig,fe kq⟩,by simp only;omega,bB.mk' (fe kq) (by simp[ToL,lk];exact bG (by rw[lO gu,uS];simp)) (by simp[aE,lk]) (eN (s:=s) (nl:=nl) (fm:=fm) (N:=N) (E:=[]) (a:=io) (b:=b2) (out:=ia) (own:=ie) rfl)⟩
        .try (simp[lO gu,uS])
         repeat ((first|refine sR ?_|apply sC|apply sX);simp[lO gu,uS])
         refine aT.of_a (ih (N++[(i:Int)]) ia io b2 ie _ _ k _ _ (by simp;omega) ms (by simp[lO gu,uS]) ig) ?_;rintro v m' ⟨rfl,a3,b3,jf,i7,ka,rfl,lr,l9⟩;have l9:io+1<=ka:=l9
         have ot:nt<=ka:=by omega
         simp[uL gu,bJ];try (simp[lO gu,uS,dF,hw])
         repeat ((first|refine sR ?_|apply sC|apply sX);simp[lO gu,uS,dF,hw])
         simp only[uL gu,bJ];apply sE;exact⟨⟨i+1,s.fnP fm r (N++[(i:Int)]) ia,a3,b3,jf,i7,ka⟩,⟨ix,by rw[ip,Sr.stNp,gt,hP];simp,Sr.fnP_len h ms,lr,by omega⟩,by simp only;omega,bB.mk' ot (by simp[ToL,lk];exact bG (by rw[lO gu,uS];simp)) (by simp[aE,lk]) (eN (s:=s) (nl:=nl) (fm:=fm) (N:=N) (E:=[]) (a:=a3) (b:=b3) (out:=s.fnP fm r (N++[(i:Int)]) ia) (own:=jf) rfl)⟩
   .have:i=s.g.nodes.length:=by omega
    subst this;try (simp[lO gu,uS])
    repeat ((first|refine sR ?_|apply sC|apply sX);simp[lO gu,uS])
    apply sN;apply sE;refine⟨by simp,(Fin.gen (vs:=[]) (av:=.tup []) (tok':=ib) (nt':=io) (by simp[aV,bQ]) ?_ kq (nr0 _) (fun t h=>⟨h,.inl rfl⟩) (eN (by simp)) (by simp)).mono fun v m hq=>⟨hq.1,a2,b2,ie,ib,io,?_,gw,kq⟩⟩
    .rw[<-uL gu,Hb]
    .rw[hq.2,Sr.fnP,yK,ac hbig,jy];rfl
theorem aJ4{p q:Nat->Prop}{k n:Nat}{L:List Bool}(h:L.length=n):To p q (some (k,1,L.map fun b=>[D.raw (.bool b)])) (.msl k 0 n 1) (.d (blB L)):=by
 have h2:=To.frz (p:=p) (q:=q) (fz:=some (k,1,L.map fun b=>[D.raw (.bool b)])) (k:=k) (sz:=1) (es:=L.map fun b=>[D.raw (.bool b)]) rfl;have:(L.map fun b=>[D.raw (.bool b)]).length=n:=by simp[h]
 rw[this] at h2;exact h2
def mkB(n:Nat)(l:List Int):List Bool:=(List.range n).map fun (b:Nat)=>decide ((b:Int)∈l)
theorem aJH(n:Nat)(l:List Int):(mkB n l).length=n:=by simp[mkB]
theorem aKo(n:Nat):List.replicate n [B false]=fY (mkB n []):=by
 refine f9 (by simp[mkB]) fun i h1 h2=>?_
 simp[fY,mkB]
theorem aKe{n:Nat}{l:List Int}{v:Int}(h0:0<=v):(mkB n l).set v.toNat true=mkB n (l++[v]):=by
 refine f9 (by simp[mkB]) fun i h1 h2=>?_
 rw[List.getElem_set];simp only[mkB,bj,gb,ap,a7];by_cases e:v.toNat=i
 .rw[af e];have:(i:Int)=v:=by omega
  simp[this]
 .rw[ac e];have:¬(i:Int)=v:=by omega
  simp[this]
theorem aJf(t:Ty)(a:Nat):mkB t.nodes.length (gP t (a:Int) t.nodes.length)=eO t a:=by
 refine f9 (by simp[mkB,eO]) fun i h1 h2=>?_
 simp only[mkB,eO,bj,gb];have hi:i<t.nodes.length:=by simpa[mkB] using h1
 unfold gP;by_cases h:isB t (i:Int) (a:Int)=true
 .rw[h,au];exact bc.2 ⟨i,b8.2 ⟨ba.2 hi,h⟩,rfl⟩
 .simp only[Bool.not_eq_true] at h;rw[h,bo];intro hm;obtain⟨x,hx,e⟩:=bc.1 hm;obtain⟨_,hx⟩:=b8.1 hx;have:x=i:=by omega
  subst this;rw[h] at hx;cases hx
theorem aGb{t:Ty}{i:Nat}(h:i<t.nodes.length):(lP t).take (i+1)=(lP t).take i++[eO t i]:=by
 have hl:i<(lP t).length:=by simp[lP];exact h
 rw[ah hl,aAz h]
def uJ(t:Ty)(i:Nat):List (List D):=((lP t).take i).map fun r=>[blB r]
theorem aF3{t:Ty}{i:Nat}(h:i<t.nodes.length):uJ t (i+1)=uJ t i++[[blB (eO t i)]]:=by
 unfold uJ;rw[aGb h,cw];rfl
theorem aIR(t:Ty)(i:Nat):(uJ t i).length<=i:=by unfold uJ;rw[br,cf];omega
def aNV(t:Ty)(nb:Nat)(box:Bxs)(x:Acc):AS :=
 ⟨tl [(13,I x.i),(12,I t.nodes.length),(11,.d (nts t.nodes)),(3,.osl 1 (uJ t x.i) x.own),(1,.ptr (nb+1) 0 0)],lb nb box [(1,[[.d (nts t.nodes),.d (ets t.edges)]])],x.tok,x.nt⟩
def aNK(t:Ty)(i:Nat)(L:List Int)(own:Own)(nb:Nat)(box:Bxs)(tok:Tks)(nt:Nat)(j:Nat):AS :=
 ⟨tl [(28,I j),(27,I L.length),(26,.d (ints L)),(5,.msl (nb+19) 0 t.nodes.length 1),(13,I i),(12,I t.nodes.length),(11,.d (nts t.nodes)),(3,.osl 1 (uJ t i) own),(1,.ptr (nb+1) 0 0)],
  lb nb box [(19,fY (mkB t.nodes.length (L.take j))),(1,[[.d (nts t.nodes),.d (ets t.edges)]])],tok,nt⟩
theorem aC9(t:Ty)(ht:t.Fit)(h0:tyE t=0):DC 198 [t.av] (.d (isD t)):=by
 intro tok nt box nb;have qb:=ht.n;have hb:=fun a=>aEW t ht a
 refine sI func198 ntmps198 fun Hb Ht=>?_
 repeat first|simp|refine sR ?_
 apply sN;refine sL (aNV t nb box) (fun x=>x.i<=t.nodes.length/\TK tok nt x.tok x.nt [x.own]) (fun x=>t.nodes.length-x.i) ⟨0,.full,tok,nt⟩ ⟨ai _,(TK.start Ht).full⟩ (wM (nr0 _) rfl (by simp[ToL,lk,uJ]) (by simp[aE,lk])) ?_;rintro⟨i,own,tok',nt'⟩ S ⟨hi,htk⟩ hS;simp only[aNV] at hS hi htk;subst hS;have hw:=sW (i:=i) (by omega);by_cases hlt:i<t.nodes.length
 .have hrow:=aJf t i;have hs:=aF3 hlt;have BC:=aIR t i;have DI:yA t (i:Int)=(gP t (i:Int) t.nodes.length,0):=by
   unfold yA;rw[zK h0 (by omega),ac (by omega)]
  have DJ:∀v∈gP t (i:Int) t.nodes.length,0<=v/\v<t.nodes.length:=by
   intro v hv;unfold gP at hv;simp only[bc,b8,ba] at hv;obtain⟨x,⟨hx,_⟩,rfl⟩:=hv;omega
  have hLl:=aCY t (i:Int) t.nodes.length;have CV:=hb (i:Int);rw[DI] at CV;generalize gP t (i:Int) t.nodes.length=L at *;try (simp[hlt])
  repeat ((first|refine sR ?_|apply sC|apply sX);simp[hlt])
  refine⟨by omega,?_⟩;try (simp)
  repeat ((first|refine sR ?_|apply sC|apply sX);simp)
  refine sD (CV _ _) ?_;simp;try (simp)
  repeat ((first|refine sR ?_|apply sC|apply sX);simp)
  apply sN;refine sL (aNK t i L own nb box tok' nt') (fun j=>j<=L.length) (fun j=>L.length-j) 0 (ai _) (wM htk.le rfl (by simp[ToL,lk]) (by simp[aE,lk,aKo])) ?_;rintro j S hj hS;simp only[aNK] at hS;subst hS;have ux:=sW (i:=j) (by omega);by_cases qm:j<L.length
  .obtain⟨v0,v1⟩:=DJ _ (aa qm);have sm:(mkB t.nodes.length (L.take j)).set L[j].toNat true=mkB t.nodes.length (L.take (j+1)):=by
    rw[aKe v0,<-List.take_succ_eq_append_getElem qm]
   have ph:=aJH t.nodes.length (L.take j);have v2:L[j].toNat<t.nodes.length:=by omega
   try (simp[qm,v0,v1,v2,ph,ux])
   repeat ((first|refine sR ?_|apply sC|apply sX);simp[qm,v0,v1,v2,ph,ux])
   apply sE;exact⟨j+1,qm,by omega,wM htk.le rfl (by simp[ToL,lk]) (by simp[aE,lk,sm])⟩
  .have:j=L.length:=by omega
   subst this;rw[bh,hrow];refine sR ?_;simp;apply sC;simp;apply sX;simp only[AU,↓reduceIte];have mz:(eO t i).length=t.nodes.length:=by simp[eO]
   refine AL.weak (bB.frz (l':=[(5,.d (blB (eO t i))),(13,I i),(12,I t.nodes.length),(11,.d (nts t.nodes)),(3,.osl 1 (uJ t i) own),(1,.ptr (nb+1) 0 0)]) (loc':=[(1,[[.d (nts t.nodes),.d (ets t.edges)]])]) 19 1 ((eO t i).map fun b=>[D.raw (.bool b)]) htk.le rfl (by simp[lk,aBR]) (by simp[lk]) (fun e he=>by obtain⟨b,_,rfl⟩:=bc.1 he;rfl) (by simp[ToL,lk,aN];exact aJ4 mz) (by simp[aE,lk])) ?_;try (simp)
   repeat ((first|refine sR ?_|apply sC|apply sX);simp)
   refine⟨⟨by omega,htk.live⟩,?_⟩;try (simp[hw])
   repeat ((first|refine sR ?_|apply sC|apply sX);simp[hw])
   apply sE;exact⟨⟨i+1,_,_,_⟩,⟨hlt,htk.app⟩,by simp only;omega,wM htk.app.le rfl (by simp[ToL,lk,hs]) (by simp[aE,lk])⟩
 .have:i=t.nodes.length:=by omega
  subst this;have z7:uJ t t.nodes.length=(lP t).map fun r=>[blB r]:=by unfold uJ;rw[ak (by simp[lP])]
  rw[z7];try (simp)
  repeat ((first|refine sR ?_|apply sC|apply sX);simp)
  apply sN;refine AL.ret ?_;try simp only[AU]
  exact⟨by simp,Fin.data (av:=.d (isD t)) (by simp[aV,bQ];rfl) Hb rfl Ht htk.old htk.le (by simp[isD])⟩
theorem aFY(x:Int)(box:Bxs)(nb k:Nat)(tok:Tks)(nt:Nat)(t:Ty)(hk:box k=some [[.d (nts t.nodes),.d (ets t.edges)]]):
  aC prog 249 [I x,.ptr k 0 0] ⟨box,nb,tok,nt⟩ fun v m=>v=B (decide ((t.nodes.length:Int)<=x))/\m=⟨box,nb,tok,nt⟩:=by
 refine sI func249 ntmps249 fun Hb Ht=>?_
 have kn:=bH Hb hk;repeat first|simp[lO kn,hk]|refine sR ?_
 refine sT (sH ?_);simp
theorem aGd(x:E)(box:Bxs)(nb k:Nat)(tok:Tks)(nt:Nat)(t:Ty)(hk:box k=some [[.d (nts t.nodes),.d (ets t.edges)]]):
  aC prog 250 [.agg [I x.ty,I x.fr,I x.to],.ptr k 0 0] ⟨box,nb,tok,nt⟩ fun v m=>v=B (decide ((t.edges.length:Int)<=x.ty))/\m=⟨box,nb,tok,nt⟩:=by
 refine sI func250 ntmps250 fun Hb Ht=>?_
 have kn:=bH Hb hk;repeat first|simp[lO kn,hk]|refine sR ?_
 refine sT (sH ?_);simp
def wiN(t:Ty)(x:Int):Bool:=decide ((t.nodes.length:Int)<=x)
def wiX(t:Ty)(x:E):Bool:=decide ((t.edges.length:Int)<=x.ty)
theorem aJ7{t:Ty}{g:Gr}(hv:vG g=0):oA t g=(!bA (wiN t) g.nodes&&!bA (wiX t) g.edges):=by
 obtain⟨_,h1,h2⟩:=bE hv;unfold oA bA;congr 1
 .rw[dl,ax,db,dz];refine⟨fun h x hx=>?_,fun h x hx=>?_⟩
  .have:=h x hx
   simp[aCE,wiN] at this ⊢;omega
  .have a:=h x hx;have b:=h1 x hx;simp[aCE,wiN,aZ] at a b ⊢;omega
 .rw[dl,ax,db,dz];refine⟨fun h x hx=>?_,fun h x hx=>?_⟩
  .have:=h x hx
   simp[aEs,wiX] at this ⊢;omega
  .have a:=h x hx;have b:=h2 x hx;simp[aEs,wiX,dZ,aZ] at a b ⊢;omega
theorem aAf(t:Ty)(ht:t.Fit)(g:Gr)(hg:g.Fit)(hv:vG g=0):DC 192 [t.av,g.av] (B (oA t g)):=by
 intro tok nt box nb;have h1:=fun y box nb k tok nt n5=>aFY y box nb k tok nt t n5
 have h2:=fun y box nb k tok nt n5=>aGd y box nb k tok nt t n5
 rw[aJ7 hv];obtain⟨p,hp⟩:∃p,wiN t=p:=⟨_,rfl⟩
 obtain⟨q,hq⟩:∃q,wiX t=q:=⟨_,rfl⟩
 have e1:∀y,decide ((t.nodes.length:Int)<=y)=p y:=fun y=>by rw[<-hp];rfl
 have e2:∀y:E,decide ((t.edges.length:Int)<=y.ty)=q y:=fun y=>by rw[<-hq];rfl
 simp only[e1] at h1;simp only[e2] at h2;rw[hp,hq];have sc:=hg.n;have hge:=hg.e;refine sI func192 ntmps192 fun Hb Ht=>?_
 repeat first|simp|refine sR ?_
 refine aT.of_b (iN g.nodes 249 [.ptr (nb+2) 0 0] p sc _ _ _ _ (fun c hc=>by rw[a7.1 hc];simp[aN]) (fun y hy box' nb' he=>h1 y box' nb' _ _ _ (he _ _ (by simp[aN])))) ?_;simp;cases c1:bA p g.nodes
 .repeat first|simp|refine sR ?_
  refine aT.of_b (eQ g.edges 250 [.ptr (nb+2) 0 0] q hge _ _ _ _ (fun c hc=>by rw[a7.1 hc];simp[aN]) (fun y hy box' nb' he=>h2 y box' nb' _ _ _ (he _ _ (by simp[aN])))) ?_;repeat first|simp|refine sR ?_
  refine sT (sH ?_);simp
 .repeat first|simp|refine sR ?_
  refine sT (sH ?_);simp
def QFo(s:Sr)(fm:Nat)(box:Bxs)(nb:Nat)(tok:Tks)(nt:Nat)(v:AV)(m:bF):Prop :=
 ∃own' tok' nt',v=.osl 2 (aJy (s.fnP fm s.p.nodes.length [] [])) own'/\m=⟨box,nb,tok',nt'⟩/\TK tok nt tok' nt' [own']
set_option maxRecDepth 100000 in
theorem aIT(s:Sr)(h:s.Ok)(h0:tyE s.t=0)(nl:Bool)(o7:s.Nl nl)(fm:Nat)(Bi:fm<=1000000)(box:Bxs)(nb:Nat)(tok:Tks)(nt:Nat):
  aC prog 133 [s.t.av,s.p.av,s.g.av,.agg [.d (ptD nl s.pt.nodes),.d (ptD nl s.pt.edges)],B s.inj,I fm] ⟨box,nb,tok,nt⟩ (QFo s fm box nb tok nt):=by
 have hb:=aC9 s.t h.t h0;refine sI func133 ntmps133 fun Hb Ht=>?_
 repeat first|simp|refine sR ?_
 refine sD (hb _ _) ?_;simp;refine AL.weak (wM (l':=[(13,.ptr (nb+22) 0 0)]) (loc':=[(22,[[.d (ints s.p.nodes),.d (AM.edges s.p.edges),.d (ints s.g.nodes),.d (AM.edges s.g.edges),.d (isD s.t),.d (ptD nl s.pt.nodes),.d (ptD nl s.pt.edges),B s.inj,I fm,.osl 0 [] .full,.osl 0 [] .full,.osl 2 [] .full]])]) (nr0 _) rfl (by simp[ToL,lk]) (by simp[aE,lk])) ?_;refine AL.trans (iW.opn (l':=[(13,.ptr (nb+22) 0 0)]) (loc':=[(22,[[.d (ints s.p.nodes),.d (AM.edges s.p.edges),.d (ints s.g.nodes),.d (AM.edges s.g.edges),.d (isD s.t),.d (ptD nl s.pt.nodes),.d (ptD nl s.pt.edges),B s.inj,I fm,.stk nt 1 [],.osl 0 [] .full,.osl 2 [] .full]])]) 1 (by simp[CvL]) ⟨rfl,wT (aX .same (aX .same (aX .same (aX .same (aX .same (aX .same (aX .same (aX .same (aX .same (aX .nil (aX .same (aX .same aBl)))))))))))),trivial⟩) ?_;refine AL.trans (iW.opn (l':=[(13,.ptr (nb+22) 0 0)]) (loc':=[(22,[[.d (ints s.p.nodes),.d (AM.edges s.p.edges),.d (ints s.g.nodes),.d (AM.edges s.g.edges),.d (isD s.t),.d (ptD nl s.pt.nodes),.d (ptD nl s.pt.edges),B s.inj,I fm,.stk nt 1 [],.stk (nt+1) 1 [],.osl 2 [] .full]])]) 1 (by simp[CvL]) ⟨rfl,wT (aX .same (aX .same (aX .same (aX .same (aX .same (aX .same (aX .same (aX .same (aX .same (aX .same (aX .nil (aX .same aBl)))))))))))),trivial⟩) ?_;have rh:=(TK.start Ht).full.full.full.app.swap.app.swap;repeat first|simp|refine sR ?_
 refine aT.of_a (aKa s h nl o7 fm Bi tok nt s.p.nodes.length [] [] nt (nt+1) .full _ _ (nb+22) _ _ (by simp) (by simp) (by simp[aN]) rh) ?_;rintro v m' ⟨rfl,a,b,own,ib,io,rfl,gw,g9⟩;try (simp)
 repeat ((first|refine sR ?_|apply sC|apply sX);simp)
 apply sN;refine AL.ret ?_;try simp only[AU]
 have ig:=gw.tail.tail;exact⟨by simp,(Fin.gen (av:=.osl 2 (aJy (s.fnP fm s.p.nodes.length [] [])) own) (tok':=ib) (nt':=io) (by simp[aV,bQ];rfl) Hb ig.le (nr0 _) (fun t h=>⟨h,.inl rfl⟩) (fun k rows _ h=>.inl h) (by simp)).mono fun v m hq=>⟨own,ib,io,hq.1,hq.2,ig⟩⟩
def aNL(t:Ty)(p g:Gr)(nb:Nat)(box:Bxs)(tok:Tks)(nt:Nat)(i:Nat):AS :=
 ⟨tl [(24,I i),(23,I 2),(22,.d (.sl 2 [[ints p.nodes,AM.edges p.edges],[ints g.nodes,AM.edges g.edges]])),(5,.ptr (nb+5) 0 0),(4,.ptr (nb+4) 0 0),(3,.ptr (nb+3) 0 0)],lb nb box [(5,[[.d (ints g.nodes),.d (AM.edges g.edges)]]),(4,[[.d (ints p.nodes),.d (AM.edges p.edges)]]),(3,[[.d (nts t.nodes),.d (ets t.edges)]])],tok,nt⟩
theorem aCL(t:Ty)(ht:t.Fit)(p g:Gr)(hp:p.Fit)(hg:g.Fit):DC 124 [t.av,p.av,g.av] (I (kO t p g)):=by
 intro tok nt box nb;have hv:=lW t ht ht.hM;have h1:=bT p hp;have h2:=bT g hg;have h3:=aAf t ht p hp;have h4:=aAf t ht g hg;obtain⟨R,hR⟩:∃R,kO t p g=R:=⟨_,rfl⟩
 rw[hR];unfold kO at hR;generalize tyE t=E at *;generalize vG p=V at *;generalize vG g=W at *;refine sI func124 ntmps124 fun Hb Ht=>?_
 repeat first|simp|refine sR ?_
 refine sD (hv _ _) ?_;simp;by_cases e0:E=0
 .rw[ac (by simp[e0])] at hR;try (simp[e0])
  repeat ((first|refine sR ?_|apply sC|apply sX);simp[e0])
  refine⟨rfl,?_⟩;try (simp)
  repeat ((first|refine sR ?_|apply sC|apply sX);simp)
  apply sN;refine sL (aNL t p g nb box tok nt) (fun i=>i<=2/\(1<=i->V=0)/\(2<=i->W=0)) (fun i=>2-i) 0 ⟨by omega,by omega,by omega⟩ wkA ?_;rintro i S ⟨hi,g0,g1⟩ hS;simp only[aNL] at hS;subst hS;have yp:i=0∨i=1∨i=2:=by omega
  rcases yp with rfl|rfl|rfl
  .try (simp)
   repeat ((first|refine sR ?_|apply sC|apply sX);simp)
   refine sD (h1 _ _) ?_;simp;by_cases c:V=0
   .try (simp[c,show IntKind.i64.wrap 1=1 from rfl])
    repeat ((first|refine sR ?_|apply sC|apply sX);simp[c,show IntKind.i64.wrap 1=1 from rfl])
    apply sE;exact⟨1,⟨by omega,fun h=>by omega⟩,by decide,wkA⟩
   .have b:(V != 0)=true:=by simp[c]
    rw[af c] at hR;try (simp[b])
    repeat ((first|refine sR ?_|apply sC|apply sX);simp[b])
    refine sT (sH ?_);simp[hR]
  .try (simp)
   repeat ((first|refine sR ?_|apply sC|apply sX);simp)
   refine sD (h2 _ _) ?_;simp;by_cases c:W=0
   .try (simp[c,show IntKind.i64.wrap 2=2 from rfl])
    repeat ((first|refine sR ?_|apply sC|apply sX);simp[c,show IntKind.i64.wrap 2=2 from rfl])
    apply sE;exact⟨2,⟨by omega,fun _=>g0 (by omega)⟩,by decide,wkA⟩
   .have b:(W != 0)=true:=by simp[c]
    have g0:=g0 (by omega);rw[ac (by simp[g0]),af c] at hR;try (simp[b])
    repeat ((first|refine sR ?_|apply sC|apply sX);simp[b])
    refine sT (sH ?_);simp[hR]
  .have g0:=g0 (by omega);have g1:=g1 (by omega);rw[ac (by simp[g0]),ac (by simp[g1])] at hR;have h3:=h3 g0;have h4:=h4 g1;try (simp)
   repeat ((first|refine sR ?_|apply sC|apply sX);simp)
   refine sD (h3 _ _) ?_;simp;cases e3:oA t p
   .rw[e3,af rfl] at hR;try (simp)
    repeat ((first|refine sR ?_|apply sC|apply sX);simp)
    refine sT (sH ?_);simp[hR]
   .rw[e3,ac (by simp)] at hR;try (simp)
    repeat ((first|refine sR ?_|apply sC|apply sX);simp)
    refine sD (h4 _ _) ?_;simp;cases e4:oA t g
    .rw[e4,af rfl] at hR;try (simp)
     repeat ((first|refine sR ?_|apply sC|apply sX);simp)
     refine sT (sH ?_);simp[hR]
    .rw[e4,ac (by simp)] at hR;try (simp)
     repeat ((first|refine sR ?_|apply sC|apply sX);simp)
     refine sT (sH ?_);simp[hR]
 .rw[af e0] at hR;have b:(E != 0)=true:=by simp[e0]
  try (simp[b])
  repeat ((first|refine sR ?_|apply sC|apply sX);simp[b])
  refine sT (sH ?_);simp[hR]
end Go.AM
