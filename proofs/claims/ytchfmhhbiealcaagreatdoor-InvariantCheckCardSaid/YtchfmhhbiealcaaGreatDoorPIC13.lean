import Derived.Test.YtchfmhhbiealcaaGreatDoorPIC12
import Derived.Shelf.Small.Strs
import Derived.Shelf.Strconv.Itoa0
import Derived.Shelf.Strconv.Itoa1
import Derived.Shelf.Strconv.Itoa2
import Derived.Shelf.Strconv.Itoa3
import Derived.Shelf.LaysM
import Derived.Ground.Names2Prog
import Derived.Test.YtchfmhhbiealcaaGreatDoorProg
set_option linter.unusedSimpArgs false
set_option linter.unusedVariables false
namespace Go.AM
theorem ga.{u}:type_of% @List.cons_append.{u}:=@List.cons_append
open Go Go.Proofs
open Go.Proofs.Tryz
def aPO(l r k:List Int)(nb:Nat)(box:Bxs)(tok:Tks)(nt:Nat)(i:Nat):AS :=
 ⟨tl [(11,I i),(10,I l.length),(9,.d (ints l)),(1,.d (ints r)),(2,.d (ints k))],lb nb box [],tok,nt⟩
theorem aFb(l r k:List Int)(hl:l.length<=1000000)(hr:r.length<=1000000)(hk:k.length<=1000000):DC 140 [.d (ints l),.d (ints r),.d (ints k)] (B (dV l r k)):=by
 intro tok nt box nb;have c1:=fun v=>bN k v hk
 have c2:=fun v=>bN r v hr
 obtain⟨N,hN⟩:∃N,dV l r k=N:=⟨_,rfl⟩
 rw[hN];refine sI func140 ntmps140 fun Hb Ht=>?_
 repeat first|simp|refine sR ?_
 apply sN;refine sL (aPO l r k nb box tok nt) (fun i=>i<=l.length/\∀j,j<i->oO l r k j=false) (fun i=>l.length-i) 0 ⟨ai _,fun j h=>absurd h (b9 _)⟩ wkA ?_;rintro i S' ⟨hi,gt⟩ hS;simp only[aPO] at hS;subst hS;have hw:=sW (i:=i) (by omega);repeat first|simp|refine sR ?_|apply sC
 refine⟨fun hlt=>?_,fun hge=>?_⟩
 .have hd:oO l r k i=if decide ((i:Int)∈k)=true then false else decide (l[i]∈r):=by simp[oO,hlt]
  have jg:oO l r k i=true->dV l r k=true:=fun h=>aAa hlt h
  have jq:oO l r k i=false->∀j,j<i+1->oO l r k j=false:=fun h j hj=>by
   rcases Nat.lt_succ_iff_lt_or_eq.1 hj with h1|h1
   .exact gt j h1
   .rw[h1];exact h
  repeat first|simp[hlt]|refine sR ?_
  refine sD (c1 _ _ _) ?_;simp;cases e1:decide ((i:Int)∈k)
  .rw[e1,ac (by simp)] at hd;have jt:¬(i:Int)∈k:=by simpa using e1
   repeat first|simp[hlt,jt]|refine sR ?_
   refine sD (c2 _ _ _) ?_;simp;cases e2:decide (l[i]∈r)
   .rw[e2] at hd;have ji:¬l[i]∈r:=by simpa using e2
    try (simp[hw,ji])
    repeat ((first|refine sR ?_|apply sC|apply sX);simp[hw,ji])
    apply sE;exact⟨i+1,⟨hlt,jq hd⟩,by omega,wkA⟩
   .rw[e2] at hd;have ji:l[i]∈r:=by simpa using e2
    rw[jg hd] at hN;try (simp[ji])
    repeat ((first|refine sR ?_|apply sC|apply sX);simp[ji])
    refine sT (sH ?_);simp[<-hN]
  .rw[e1,af rfl] at hd;have jt:(i:Int)∈k:=by simpa using e1
   try (simp[hw,jt])
   repeat ((first|refine sR ?_|apply sC|apply sX);simp[hw,jt])
   apply sE;exact⟨i+1,⟨hlt,jq hd⟩,by omega,wkA⟩
 .apply sX;simp only[AU,↓reduceIte];have:i=l.length:=by omega
  subst this;rw[aDe gt] at hN;repeat first|simp|refine sR ?_
  refine sT (sH ?_);simp[<-hN]
def aNU(l:List Int)(n:Int)(nb:Nat)(box:Bxs)(tok:Tks)(nt:Nat)(i:Nat):AS :=
 ⟨tl [(0,.d (ints l)),(1,I n),(5,I i)],lb nb box [],tok,nt⟩
theorem aE3(l:List Int)(n:Int)(hl:l.length<=1000000):DC 207 [.d (ints l),I n] (B (decide (n∈l))):=by
 intro tok nt box nb;obtain⟨N,hN⟩:∃N,decide (n∈l)=N:=⟨_,rfl⟩
 rw[hN];refine sI func207 ntmps207 fun Hb Ht=>?_
 repeat first|simp|refine sR ?_
 apply sN;refine sL (aNU l n nb box tok nt) (fun i=>i<=l.length/\n∉l.take i) (fun i=>l.length-i) 0 ⟨ai _,by simp⟩ wkA ?_;rintro i S' ⟨hi,gt⟩ hS;simp only[aNU] at hS;subst hS;have hw:=sW (i:=i) (by omega);repeat first|simp|refine sR ?_|apply sC
 refine⟨fun hlt=>?_,fun hge=>?_⟩
 .by_cases e:l[i]=n
  .have b:(l[i]==n)=true:=by simp[e]
   have hm:decide (n∈l)=true:=by rw[<-e];simp
   rw[hm] at hN;try (simp[hlt,b])
   repeat ((first|refine sR ?_|apply sC|apply sX);simp[hlt,b])
   refine sT (sH ?_);simp[<-hN]
  .have b:(l[i]==n)=false:=by simp[e]
   have jq:n∉l.take (i+1):=by
    rw[ah hlt];simp only[ap,a7,not_or];exact⟨gt,fun h=>e h.symm⟩
   try (simp[hlt,b,hw])
   repeat ((first|refine sR ?_|apply sC|apply sX);simp[hlt,b,hw])
   apply sE;exact⟨i+1,⟨hlt,jq⟩,by omega,wkA⟩
 .apply sX;simp only[AU,↓reduceIte];have:i=l.length:=by omega
  subst this;rw[bh] at gt;rw[ca gt] at hN;repeat first|simp|refine sR ?_
  refine sT (sH ?_);simp[<-hN]
def aLX(l r k:List Int)(nb:Nat)(box:Bxs)(tok:Tks)(nt:Nat)(i:Nat):AS :=
 ⟨tl [(0,.d (ints l)),(1,.d (ints r)),(2,.d (ints k)),(7,I i)],lb nb box [],tok,nt⟩
theorem wR(l r k:List Int)(hl:l.length<=1000000)(hr:r.length<=1000000)(hk:k.length<=1000000):DC 145 [.d (ints l),.d (ints r),.d (ints k)] (B (dV l r k)):=by
 intro tok nt box nb;have c1:=fun v=>aE3 k v hk
 have c2:=fun v=>aE3 r v hr
 obtain⟨N,hN⟩:∃N,dV l r k=N:=⟨_,rfl⟩
 rw[hN];refine sI func145 ntmps145 fun Hb Ht=>?_
 repeat first|simp|refine sR ?_
 apply sN;refine sL (aLX l r k nb box tok nt) (fun i=>i<=l.length/\∀j,j<i->oO l r k j=false) (fun i=>l.length-i) 0 ⟨ai _,fun j h=>absurd h (b9 _)⟩ wkA ?_;rintro i S' ⟨hi,gt⟩ hS;simp only[aLX] at hS;subst hS;have hw:=sW (i:=i) (by omega);repeat first|simp|refine sR ?_|apply sC
 refine⟨fun hlt=>?_,fun hge=>?_⟩
 .have hd:oO l r k i=if decide ((i:Int)∈k)=true then false else decide (l[i]∈r):=by simp[oO,hlt]
  have jg:oO l r k i=true->dV l r k=true:=fun h=>aAa hlt h
  have jq:oO l r k i=false->∀j,j<i+1->oO l r k j=false:=fun h j hj=>by
   rcases Nat.lt_succ_iff_lt_or_eq.1 hj with h1|h1
   .exact gt j h1
   .rw[h1];exact h
  repeat first|simp[hlt]|refine sR ?_
  refine sD (c1 _ _ _) ?_;simp;cases e1:decide ((i:Int)∈k)
  .rw[e1,ac (by simp)] at hd;have jt:¬(i:Int)∈k:=by simpa using e1
   repeat first|simp[hlt,jt]|refine sR ?_
   refine sD (c2 _ _ _) ?_;simp;cases e2:decide (l[i]∈r)
   .rw[e2] at hd;have ji:¬l[i]∈r:=by simpa using e2
    try (simp[hw,ji])
    repeat ((first|refine sR ?_|apply sC|apply sX);simp[hw,ji])
    apply sE;exact⟨i+1,⟨hlt,jq hd⟩,by omega,wkA⟩
   .rw[e2] at hd;have ji:l[i]∈r:=by simpa using e2
    rw[jg hd] at hN;try (simp[ji])
    repeat ((first|refine sR ?_|apply sC|apply sX);simp[ji])
    refine sT (sH ?_);simp[<-hN]
  .rw[e1,af rfl] at hd;have jt:(i:Int)∈k:=by simpa using e1
   try (simp[hw,jt])
   repeat ((first|refine sR ?_|apply sC|apply sX);simp[hw,jt])
   apply sE;exact⟨i+1,⟨hlt,jq hd⟩,by omega,wkA⟩
 .apply sX;simp only[AU,↓reduceIte];have:i=l.length:=by omega
  subst this;rw[aDe gt] at hN;repeat first|simp|refine sR ?_
  refine sT (sH ?_);simp[<-hN]
def Ru.rowK(r:Ru):List D:=[.raw (.string r.name),ints r.lg.nodes,AM.edges r.lg.edges,gS r.lsl,.raw (.int .i64 r.lv),gT r.lte,ints r.rg.nodes,AM.edges r.rg.edges,gS r.rsl,.raw (.int .i64 r.rv),gT r.rte,
 ints r.k.nodes,ints r.k.edges,ints r.i.nodes,ints r.i.edges,.raw (.bool r.inj),.raw (.int .i64 r.c.kind),zW r.c.kids,ints r.c.m.nodes,ints r.c.m.edges,ints r.c.g.nodes,AM.edges r.c.g.edges,gS r.c.sl,.raw (.int .i64 r.c.vars),gT r.c.te]
theorem aKI(r:Ru)(hr:r.Fit)(o:Ov)(ho:o.Fit):DC 139 [o.av,.cptr r.rowK 0] (B (!pX r o)):=by
 intro tok nt box nb;have c1:=aFb o.l.nodes o.r.nodes r.i.nodes ho.l.n ho.r.n hr.i.n;have c2:=aFb o.l.edges o.r.edges r.i.edges ho.l.e ho.r.e hr.i.e;obtain⟨N,hN⟩:∃N,pX r o=N:=⟨_,rfl⟩
 rw[hN];unfold pX at hN;refine sI func139 ntmps139 fun Hb Ht=>?_
 repeat first|simp[Ru.rowK]|refine sR ?_
 refine sD (c1 _ _) ?_;simp;cases e1:dV o.l.nodes o.r.nodes r.i.nodes
 .rw[e1,ac (by simp)] at hN;repeat first|simp[Ru.rowK]|refine sR ?_
  refine sD (c2 _ _) ?_;repeat first|simp|refine sR ?_
  refine sT (sH ?_);simp[<-hN]
 .rw[e1,af rfl] at hN;repeat first|simp|refine sR ?_
  refine sT (sH ?_);simp[<-hN]
structure aNv where
 i:Nat
 out:List Ov
 own:Nat
 tok:Nat->Bool
 nt:Nat
abbrev gQ(a b:Gr)(out:List Ov)(own:Nat):List AV:=[.d (ints a.nodes),.d (AM.edges a.edges),.d (ints b.nodes),.d (AM.edges b.edges),.stk own 6 (out.map Ov.cells)]
def aPs(a b:Gr)(box:Bxs)(nb k:Nat)(tok:Tks)(nt:Nat)(own:Nat)(out:List Ov)(v:AV)(m:bF):Prop :=
 v=.tup []/\∃own' tok' nt',m=⟨upd box k (some [gQ a b out own']),nb,tok',nt'⟩/\Adv tok nt (.tok own) tok' nt' (.tok own')
def aLd(a b:Gr)(nodes es:List Int)(nb k:Nat)(box:Bxs)(x:aNv):AS :=
 ⟨tl [(0,.ptr k 0 0),(1,.d (ints nodes)),(2,.d (ints es)),(7,.ptr (nb+7) 0 0),(78,.d (AM.edges a.edges)),(79,I a.edges.length),(80,I x.i)],
  lb nb (upd box k (some [gQ a b x.out x.own])) [(7,[[I (lC b nodes es).ty,I (lC b nodes es).fr,I (lC b nodes es).to]])],x.tok,x.nt⟩
theorem iD{a b:Gr}{out:List Ov}{own:Nat}{box:Bxs}{k base:Nat}{p q:Nat->Prop}(hq:q=fun _=>True):∀k' rows,k'<base->(upd box k (some [gQ a b out own])) k'=some rows->box k'=some rows∨∀r∈rows,∀x∈r,bD p q x:=by
 subst hq;intro k' rows jl hr;by_cases e:k'=k
 .subst e;rw[uS] at hr;cases hr;exact .inr (by simp)
 .rw[uO _ _ e] at hr;exact .inl hr
theorem aIq(a b:Gr)(nodes:List Int)(h:OvH a b nodes):∀(n:Nat) (es:List Int) (out:List Ov) (own:Nat) (box:Bxs) (nb k:Nat) (tok:Tks) (nt:Nat),es.length+n=b.edges.length ->
  box k=some [gQ a b out own]->tok own=true->aC prog 263 [.ptr k 0 0,.d (ints nodes),.d (ints es)] ⟨box,nb,tok,nt⟩ (aPs a b box nb k tok nt own (ovE a b nodes n es out)):=by
 intro n;induction n with
 | zero =>
  intro es out own box nb k tok nt mc hk ii;have iw:box=upd box k (some [gQ a b out own]):=(dR box k _ hk).symm
  refine sI func263 ntmps263 fun Hb Ht=>?_
  have gu:=bH Hb hk;refine sR ?_;simp[lO gu,hk];apply sC;simp;refine⟨fun hbig=>?_,fun pb=>?_⟩
  .apply sN;refine AL.ret ?_;try simp only[AU]
   refine⟨by simp,(Fin.own (vs:=[]) (av:=.tup []) (by simp[aV,bQ]) Hb rfl (nr0 _) (by simp)).mono fun v m hq=>⟨hq.1,own,tok,nt,?_,Adv.refl ii Ht⟩⟩;have ki:2000<out.length:=by omega
   rw[hq.2,ovE,af ki,<-iw]
  .have mq:¬2000<out.length:=by omega
   have BI:es.length=b.edges.length:=by omega
   refine sR ?_;simp[lO gu,hk];apply sC;simp;refine⟨fun _=>?_,fun hne=>absurd (by omega) hne⟩;have uf:=h.fb.e;have sb:=h.fb.n;refine sR ?_;simp[lO gu,hk];refine sD (aJI a b nodes es h.fa h.va (by rw[h.n];exact nr0 _) (by omega) (by rw[h.n];omega) (by omega) (fun i _ h2 _=>h.x _ (aa h2)) _ _) ?_;simp[lO gu,hk,uL gu];refine⟨⟨by omega,ii⟩,?_⟩;apply sN;refine AL.ret ?_;try simp only[AU]
   refine⟨by simp,(Fin.gen (vs:=[]) (av:=.tup []) (tok':=upd (upd tok own false) nt true) (nt':=nt+1) (by simp[aV,bQ]) ?_ (by omega) (nr0 _) (fun t h=>⟨h,.inl rfl⟩) ?_ (by simp)).mono fun v m hq=>⟨hq.1,nt,upd (upd tok own false) nt true,nt+1,?_,Adv.app ii Ht⟩⟩
   .rw[<-uL gu,Hb]
   .intro k' rows jl hr;by_cases e:k'=k
    .subst e;rw[uS] at hr;cases hr;exact .inr (by simp)
    .rw[uO _ _ e] at hr;exact .inl hr
   .rw[hq.2,ovE,ac mq];simp[gQ]
 | succ n ih =>
  intro es out own box nb k tok nt mc hk ii;have iw:box=upd box k (some [gQ a b out own]):=(dR box k _ hk).symm
  have xb:=h.fa.e;have uf:=h.fb.e;have sb:=h.fb.n;have hlt:es.length<b.edges.length:=by omega
  obtain⟨x1,x2,x3,x4⟩:=h.x b.edges[es.length] (aa hlt);have y1:b.edges[es.length].fr.toNat<nodes.length:=by omega
  have y2:b.edges[es.length].to.toNat<nodes.length:=by omega
  refine sI func263 ntmps263 fun Hb Ht=>?_
  have gu:=bH Hb hk;refine sR ?_;simp[lO gu,hk];apply sC;simp;refine⟨fun hbig=>?_,fun pb=>?_⟩
  .apply sN;refine AL.ret ?_;try simp only[AU]
   refine⟨by simp,(Fin.own (vs:=[]) (av:=.tup []) (by simp[aV,bQ]) Hb rfl (nr0 _) (by simp)).mono fun v m hq=>⟨hq.1,own,tok,nt,?_,Adv.refl ii Ht⟩⟩;have ki:2000<out.length:=by omega
   rw[hq.2,ovE,af ki,<-iw]
  .have mq:¬2000<out.length:=by omega
   refine sR ?_;simp[lO gu,hk];apply sC;simp;refine⟨fun mo=>absurd mo (by omega),fun _=>?_⟩;refine sR ?_;simp[lO gu,hk,hlt];refine sR ?_;simp[lO gu,hk,x1,x2,x3,x4,y1,y2];refine sR ?_;simp[lO gu,hk];refine sD (gG es (by omega) _ _) ?_;simp;refine⟨⟨by omega,by simp[uS]⟩,?_⟩;refine aT.data ?_;simp only[List.map,AV.asD];rw[jF];have l6:=Adv.fresh (own:=.tok own) ii Ht;refine aT.of_a (ih (es++[-1]) out own _ _ k _ _ (by simp;omega) (by simp only[lO gu,hk]) l6.live) ?_;rintro v m' ⟨rfl,kp,iy,kv,rfl,iz⟩;simp[uL gu];have uq:Adv tok nt (.tok own) iy kv (.tok kp):=l6.trans Ht iz
   clear iz l6;refine sR ?_;simp[lO gu,uS];apply sN;have qo:lC b nodes es=⟨b.edges[es.length].ty,nodes[b.edges[es.length].fr.toNat],nodes[b.edges[es.length].to.toNat]⟩:=by simp[lC,hlt,y1,y2]
   refine sL (aLd a b nodes es nb k box) (fun x=>x.i<=a.edges.length/\x.out=(List.range x.i).foldl (iS a b nodes n es) (ovE a b nodes n (es++[-1]) out)/\Adv tok nt (.tok own) x.tok x.nt (.tok x.own)) (fun x=>a.edges.length-x.i)
    ⟨0,ovE a b nodes n (es++[-1]) out,kp,iy,kv⟩ ⟨ai _,rfl,uq⟩ (bB.mk' uq.le (by simp[ToL,lk,qo];exact bG (by rw[lO gu,uS];simp)) (by simp[aE,lk,qo]) (iD rfl)) ?_
   rintro⟨i,ia,ie,ib,io⟩ S ⟨hi,jy,gy⟩ hS;simp only[aLd] at hS hi jy gy;subst hS;have hw:=sW (i:=i) (by omega);refine sR ?_;simp;apply sC;simp;refine⟨fun ix=>?_,fun hge=>?_⟩
   .refine sR ?_;simp[ix];refine sR ?_;simp[lO gu,uS];have ip:(List.range (i+1)).foldl (iS a b nodes n es) (ovE a b nodes n (es++[-1]) out)=iS a b nodes n es ia i:=by
     rw[cu,fc,<-jy];rfl
    have og:a.edges.getD i default=a.edges[i]:=by simp[ix]
    simp only[E.eq_and];first|refine Gd.dt (fun hE=>?_) (fun hE=>?_)|refine Gd.df (fun hE=>?_) (fun hE=>?_)|refine Gd.t (fun hE=>?_) (fun hE=>?_)|refine Gd.f (fun hE=>?_) (fun hE=>?_)
    .simp[hE];refine sD (bN es i (by omega) _ _) ?_;simp[hE];apply sC;simp;refine⟨fun vi=>?_,fun i6=>?_⟩
     .refine sR ?_;simp[lO gu,uS];refine sD (gG es (by omega) _ _) ?_;simp;refine⟨⟨by omega,by simp[uS]⟩,?_⟩;refine aT.data ?_;simp only[List.map,AV.asD];rw[jF];have l6:=Adv.fresh gy.live gy.lt;refine aT.of_a (ih (es++[(i:Int)]) ia ie _ _ k _ _ (by simp;omega) (by simp only[lO gu,uS]) l6.live) ?_;rintro v m' ⟨rfl,jf,i7,ka,rfl,iz⟩;simp[uL gu,bJ];have l7:Adv tok nt (.tok own) i7 ka (.tok jf):=gy.trans Ht (l6.trans gy.lt iz)
      clear iz l6;refine sR ?_;simp[hw];apply sE;refine⟨⟨i+1,ovE a b nodes n (es++[(i:Int)]) ia,jf,i7,ka⟩,⟨ix,?_,l7⟩,by simp;omega,bB.mk' l7.le (by simp[ToL,lk];exact bG (by rw[lO gu,uS];simp)) (by simp[aE,lk]) (iD rfl)⟩;rw[ip,iS,af ⟨by rw[og,hE],vi⟩]
     .refine sR ?_;simp[hw];apply sE;refine⟨⟨i+1,ia,ie,ib,io⟩,⟨ix,?_,gy⟩,by simp;omega,bB.mk' gy.le (by simp[ToL,lk];exact bG (by rw[lO gu,uS];simp)) (by simp[aE,lk]) (iD rfl)⟩;rw[ip,iS,ac (fun hh=>hh.2 i6)]
    .simp[hE];apply sC;simp;refine sR ?_;simp[hw];apply sE;refine⟨⟨i+1,ia,ie,ib,io⟩,⟨ix,?_,gy⟩,by simp;omega,bB.mk' gy.le (by simp[ToL,lk];exact bG (by rw[lO gu,uS];simp)) (by simp[aE,lk]) (iD rfl)⟩;rw[ip,iS,ac (fun hh=>hE (by rw[<-og,hh.1]))]
   .apply sX;simp only[AU,↓reduceIte];have i6:i=a.edges.length:=by omega
    subst i6;apply sE;refine⟨by simp,(Fin.gen (vs:=[]) (av:=.tup []) (tok':=ib) (nt':=io) (by simp[aV,bQ]) ?_ gy.le (nr0 _) (fun t h=>⟨h,.inl rfl⟩) (iD (by simp)) (by simp)).mono fun v m hq=>⟨hq.1,ie,ib,io,?_,gy⟩⟩
    .rw[<-uL gu,Hb]
    .rw[hq.2,ovE,ac mq,jy];rfl
def aLG(a b:Gr)(l:List Int)(nb k:Nat)(box:Bxs)(x:aNv):AS :=
 ⟨tl [(0,.ptr k 0 0),(1,.d (ints l)),(34,.d (ints a.nodes)),(35,I a.nodes.length),(36,I x.i)],
  lb nb (upd box k (some [gQ a b x.out x.own])) [],x.tok,x.nt⟩
theorem aHy(a b:Gr)(h:NoH a b):∀(n:Nat) (l:List Int) (out:List Ov) (own:Nat) (box:Bxs) (nb k:Nat) (tok:Tks) (nt:Nat),l.length+n=b.nodes.length ->
  box k=some [gQ a b out own]->tok own=true->aC prog 203 [.ptr k 0 0,.d (ints l)] ⟨box,nb,tok,nt⟩ (aPs a b box nb k tok nt own (ovN a b n l out)):=by
 intro n;induction n with
 | zero =>
  intro l out own box nb k tok nt hl hk ii;have iw:box=upd box k (some [gQ a b out own]):=(dR box k _ hk).symm
  refine sI func203 ntmps203 fun Hb Ht=>?_
  have gu:=bH Hb hk;refine sR ?_;simp[lO gu,hk];apply sC;simp;refine⟨fun hbig=>?_,fun pb=>?_⟩
  .apply sN;refine AL.ret ?_;try simp only[AU]
   refine⟨by simp,(Fin.own (vs:=[]) (av:=.tup []) (by simp[aV,bQ]) Hb rfl (nr0 _) (by simp)).mono fun v m hq=>⟨hq.1,own,tok,nt,?_,Adv.refl ii Ht⟩⟩;have ki:2000<out.length:=by omega
   rw[hq.2,ovN,af ki,<-iw]
  .have mq:¬2000<out.length:=by omega
   have kj:l.length=b.nodes.length:=by omega
   refine sR ?_;simp[lO gu,hk];apply sC;simp;refine⟨fun _=>?_,fun hne=>absurd (by omega) hne⟩;have uf:=h.fb.e;have sb:=h.fb.n;refine sR ?_;simp[lO gu,hk];refine aT.sub (args':=[.ptr k 0 0,.d (ints l),.d (ints [])]) ⟨Sub.refl _,Sub.refl _,Sub.nil _ _ _,trivial⟩ ?_;refine aT.of_a (aIq a b l ⟨h.fa,h.va,h.fb,kj,by rw[kj];exact h.x⟩ b.edges.length [] out own _ _ k _ _ (by simp) (by simp only[lO gu,hk]) ii) ?_;rintro v m' ⟨rfl,kp,iy,kv,rfl,iz⟩;simp[uL gu];apply sN;refine AL.ret ?_;try simp only[AU]
   refine⟨by simp,(Fin.gen (vs:=[]) (av:=.tup []) (tok':=iy) (nt':=kv) (by simp[aV,bQ]) ?_ iz.le (nr0 _) (fun t h=>⟨h,.inl rfl⟩) (iD (by simp)) (by simp)).mono fun v m hq=>⟨hq.1,kp,iy,kv,?_,iz⟩⟩
   .rw[<-uL gu,Hb]
   .rw[hq.2,ovN,ac mq]
 | succ n ih =>
  intro l out own box nb k tok nt hl hk ii;have iw:box=upd box k (some [gQ a b out own]):=(dR box k _ hk).symm
  have w9:=h.fa.n;have sb:=h.fb.n;have hlt:l.length<b.nodes.length:=by omega
  refine sI func203 ntmps203 fun Hb Ht=>?_
  have gu:=bH Hb hk;refine sR ?_;simp[lO gu,hk];apply sC;simp;refine⟨fun hbig=>?_,fun pb=>?_⟩
  .apply sN;refine AL.ret ?_;try simp only[AU]
   refine⟨by simp,(Fin.own (vs:=[]) (av:=.tup []) (by simp[aV,bQ]) Hb rfl (nr0 _) (by simp)).mono fun v m hq=>⟨hq.1,own,tok,nt,?_,Adv.refl ii Ht⟩⟩;have ki:2000<out.length:=by omega
   rw[hq.2,ovN,af ki,<-iw]
  .have mq:¬2000<out.length:=by omega
   refine sR ?_;simp[lO gu,hk];apply sC;simp;refine⟨fun mo=>absurd mo (by omega),fun _=>?_⟩;refine sR ?_;simp[lO gu,hk];refine sD (gG l (by omega) _ _) ?_;simp;refine⟨⟨by omega,by simp[uS]⟩,?_⟩;refine aT.data ?_;simp only[List.map,AV.asD];rw[jF];have l6:=Adv.fresh (own:=.tok own) ii Ht;refine aT.of_a (ih (l++[-1]) out own _ _ k _ _ (by simp;omega) (by simp only[lO gu,hk]) l6.live) ?_;rintro v m' ⟨rfl,kp,iy,kv,rfl,iz⟩;simp[uL gu];have uq:Adv tok nt (.tok own) iy kv (.tok kp):=l6.trans Ht iz
   clear iz l6;refine sR ?_;simp[lO gu,uS];apply sN;refine sL (aLG a b l nb k box) (fun x=>x.i<=a.nodes.length/\x.out=(List.range x.i).foldl (cT a b (ovN a b n) l) (ovN a b n (l++[-1]) out)/\Adv tok nt (.tok own) x.tok x.nt (.tok x.own)) (fun x=>a.nodes.length-x.i)
    ⟨0,ovN a b n (l++[-1]) out,kp,iy,kv⟩ ⟨ai _,rfl,uq⟩ (bB.mk' uq.le (by simp[ToL,lk];exact bG (by rw[lO gu,uS];simp)) (by simp[aE,lk]) (iD rfl)) ?_
   rintro⟨i,ia,ie,ib,io⟩ S ⟨hi,jy,gy⟩ hS;simp only[aLG] at hS hi jy gy;subst hS;have hw:=sW (i:=i) (by omega);refine sR ?_;simp;apply sC;simp;refine⟨fun ix=>?_,fun hge=>?_⟩
   .refine sR ?_;simp[ix];refine sR ?_;simp[lO gu,uS,hlt];have ip:(List.range (i+1)).foldl (cT a b (ovN a b n) l) (ovN a b n (l++[-1]) out)=cT a b (ovN a b n) l ia i:=by
     rw[cu,fc,<-jy];rfl
    have og:a.nodes.getD i 0=a.nodes[i]:=by simp[ix]
    have hgl:b.nodes.getD l.length 0=b.nodes[l.length]:=by simp[hlt]
    simp only[aO4];first|refine Gd.dt (fun hE=>?_) (fun hE=>?_)|refine Gd.df (fun hE=>?_) (fun hE=>?_)|refine Gd.t (fun hE=>?_) (fun hE=>?_)|refine Gd.f (fun hE=>?_) (fun hE=>?_)
    .simp[hE];refine sD (bN l i (by omega) _ _) ?_;simp[hE];apply sC;simp;refine⟨fun vi=>?_,fun i6=>?_⟩
     .refine sR ?_;simp[lO gu,uS];refine sD (gG l (by omega) _ _) ?_;simp;refine⟨⟨by omega,by simp[uS]⟩,?_⟩;refine aT.data ?_;simp only[List.map,AV.asD];rw[jF];have l6:=Adv.fresh gy.live gy.lt;refine aT.of_a (ih (l++[(i:Int)]) ia ie _ _ k _ _ (by simp;omega) (by simp only[lO gu,uS]) l6.live) ?_;rintro v m' ⟨rfl,jf,i7,ka,rfl,iz⟩;simp[uL gu,bJ];have l7:Adv tok nt (.tok own) i7 ka (.tok jf):=gy.trans Ht (l6.trans gy.lt iz)
      clear iz l6;refine sR ?_;simp[hw];apply sE;refine⟨⟨i+1,ovN a b n (l++[(i:Int)]) ia,jf,i7,ka⟩,⟨ix,?_,l7⟩,by simp;omega,bB.mk' l7.le (by simp[ToL,lk];exact bG (by rw[lO gu,uS];simp)) (by simp[aE,lk]) (iD rfl)⟩;rw[ip,cT,af ⟨by rw[og,hgl,hE],vi⟩]
     .refine sR ?_;simp[hw];apply sE;refine⟨⟨i+1,ia,ie,ib,io⟩,⟨ix,?_,gy⟩,by simp;omega,bB.mk' gy.le (by simp[ToL,lk];exact bG (by rw[lO gu,uS];simp)) (by simp[aE,lk]) (iD rfl)⟩;rw[ip,cT,ac (fun hh=>hh.2 i6)]
    .simp[hE];apply sC;simp;refine sR ?_;simp[hw];apply sE;refine⟨⟨i+1,ia,ie,ib,io⟩,⟨ix,?_,gy⟩,by simp;omega,bB.mk' gy.le (by simp[ToL,lk];exact bG (by rw[lO gu,uS];simp)) (by simp[aE,lk]) (iD rfl)⟩;rw[ip,cT,ac (fun hh=>hE (by rw[<-og,hh.1,hgl]))]
   .apply sX;simp only[AU,↓reduceIte];have i6:i=a.nodes.length:=by omega
    subst i6;apply sE;refine⟨by simp,(Fin.gen (vs:=[]) (av:=.tup []) (tok':=ib) (nt':=io) (by simp[aV,bQ]) ?_ gy.le (nr0 _) (fun t h=>⟨h,.inl rfl⟩) (iD (by simp)) (by simp)).mono fun v m hq=>⟨hq.1,ie,ib,io,?_,gy⟩⟩
    .rw[<-uL gu,Hb]
    .rw[hq.2,ovN,ac mq,jy]
def QOl(a b:Gr)(box:Bxs)(nb:Nat)(tok:Tks)(nt:Nat)(v:AV)(m:bF):Prop :=
 ((oR a b).2≠0/\v=.tup [.osl 0 [] .full,I (oR a b).2]/\m=⟨box,nb,tok,nt⟩) ∨
 ((oR a b).2=0/\∃t tok' nt',v=.tup [.stk t 6 ((oR a b).1.map Ov.cells),I 0]/\m=⟨box,nb,tok',nt'⟩/\(∀s,tok s=true->tok' s=true/\s≠t)/\nt<=nt'/\tok' t=true/\∀s,tok' s=true->s<nt')
theorem aCe(a b:Gr)(ha:a.Fit)(hb:b.Fit)(box:Bxs)(nb:Nat)(tok:Tks)(nt:Nat):aC prog 137 [a.av,b.av] ⟨box,nb,tok,nt⟩ (QOl a b box nb tok nt):=by
 have w9:=ha.n;have xb:=ha.e;have sb:=hb.n;have uf:=hb.e;refine sI func137 ntmps137 fun Hb Ht=>?_
 refine sR ?_;simp;refine sR ?_;simp;refine⟨rfl,?_⟩;apply sN;refine sL (aN3 a b nb box tok nt) (aNW a b) aRZ 0 ⟨by omega,by omega,by omega⟩ wkA ?_;rintro i S ⟨hi,h0,h1⟩ hS;simp only[aN3] at hS;subst hS;refine sR ?_;simp;apply sC;simp;have yp:i=0∨i=1∨i=2:=by omega
 rcases yp with rfl|rfl|rfl
 .simp;refine sR ?_;simp;refine sR ?_;simp;refine sD (bT a ha _ _) ?_;simp;by_cases hv:vG a=0
  .refine sR ?_;simp[hv];apply sC;simp;refine sR ?_;simp[show IntKind.i64.wrap 1=1 from rfl];apply sE;refine⟨1,⟨by omega,fun _=>hv,by omega⟩,by decide,wkA⟩
  .refine sR ?_;simp;apply sC;simp[hv];refine sR ?_;simp;have hR:oR a b=([],vG a):=by simp[oR,hv]
   apply sN;refine AL.ret ?_;try simp only[AU]
   refine⟨by simp,(Fin.data (av:=.tup [.osl 0 [] .full,I (vG a)]) (by simp[aV,bQ];rfl) Hb rfl Ht (fun _ h=>h) (nr0 _) (by simp)).mono fun v m hq=>.inl ⟨by rw[hR];first|assumption|decide,by rw[hR,hq.1],hq.2⟩⟩
 .simp;have h0:vG a=0:=h0 (by omega)
  refine sR ?_;simp;refine sR ?_;simp;refine sD (bT b hb _ _) ?_;simp;by_cases hv:vG b=0
  .refine sR ?_;simp[hv];apply sC;simp;refine sR ?_;simp[show IntKind.i64.wrap 2=2 from rfl];apply sE;refine⟨2,⟨by omega,fun _=>h0,fun _=>hv⟩,by decide,wkA⟩
  .refine sR ?_;simp;apply sC;simp[hv];refine sR ?_;simp;have hR:oR a b=([],vG b):=by simp[oR,hv,h0]
   apply sN;refine AL.ret ?_;try simp only[AU]
   refine⟨by simp,(Fin.data (av:=.tup [.osl 0 [] .full,I (vG b)]) (by simp[aV,bQ];rfl) Hb rfl Ht (fun _ h=>h) (nr0 _) (by simp)).mono fun v m hq=>.inl ⟨by rw[hR];first|assumption|decide,by rw[hR,hq.1],hq.2⟩⟩
 .simp;apply sX;simp only[AU,↓reduceIte];have j6:vG a=0:=h0 (by omega)
  have la:vG b=0:=h1 (by omega)
  have hw1:IntKind.i64.wrap (↑a.nodes.length+↑b.nodes.length)=(a.nodes.length:Int)+b.nodes.length:=aL (by omega) (by omega)
  have ye:IntKind.i64.wrap (↑a.edges.length+↑b.edges.length)=(a.edges.length:Int)+b.edges.length:=aL (by omega) (by omega)
  have big:(40<a.nodes.length+b.nodes.length∨80<a.edges.length+b.edges.length)->∀{l loc},Fin prog ⟨nb,nb+58,58,box⟩ nt [ResultVar.tmp 4,ResultVar.tmp 5] (QOl a b box nb tok nt)
    ⟨tl ((5,I 3)::(4,.osl 0 [] .full)::l),lb nb box loc,tok,nt⟩:=fun hbig {l loc}=>by
   have hR:oR a b=([],3):=by simp[oR,j6,la,hbig]
   exact(Fin.data (av:=.tup [.osl 0 [] .full,I 3]) (by simp[aV,bQ];rfl) Hb rfl Ht (fun _ h=>h) (nr0 _) (by simp)).mono fun v m hq=>.inl ⟨by rw[hR];first|assumption|decide,by rw[hR,hq.1],hq.2⟩
  refine sR ?_;simp[hw1,ye];first|refine Gd.dt (fun mv=>?_) (fun mv=>?_)|refine Gd.df (fun mv=>?_) (fun mv=>?_)|refine Gd.t (fun mv=>?_) (fun mv=>?_)|refine Gd.f (fun mv=>?_) (fun mv=>?_)
  .simp[mv,hw1,ye];apply sC;simp;refine sR ?_;simp;apply sN;refine AL.ret ?_;try simp only[AU]
   exact⟨by simp,big (by omega)⟩
  .simp[mv,hw1,ye];apply sC;simp;refine⟨fun xz=>?_,fun xz=>?_⟩
   .refine sR ?_;simp;apply sN;refine AL.ret ?_;try simp only[AU]
    exact⟨by simp,big (by omega)⟩
   .have pb:¬(40<a.nodes.length+b.nodes.length∨80<a.edges.length+b.edges.length):=by omega
    refine sR ?_;simp;refine AL.weak (wM (l':=[(9,.ptr (nb+45) 0 0)]) (loc':=[(45,[iP a b [] .full])]) (nr0 _) rfl (by simp[ToL,lk]) (by simp[aE,lk])) ?_;refine AL.trans (iW.opn (l':=[(9,.ptr (nb+45) 0 0)]) (loc':=[(45,[gQ a b [] nt])]) 6 (by simp[CvL]) ⟨rfl,wT (aX .same (aX .same (aX .same (aX .same (aX .nil aBl))))),trivial⟩) ?_;refine sR ?_;simp;refine aT.sub (args':=[.ptr (nb+45) 0 0,.d (ints [])]) ⟨Sub.refl _,Sub.nil _ _ _,trivial⟩ ?_;refine aT.of_a (aHy a b ⟨ha,j6,hb,aD la⟩ b.nodes.length [] [] nt _ _ (nb+45) _ _ (by simp) (by simp) (uS _ _ _)) ?_;rintro v m' ⟨rfl,kp,iy,kv,rfl,iz⟩;have iz:Adv (upd tok nt true) (nt+1) (.tok nt) iy kv (.tok kp):=iz
    simp;refine sR ?_;simp;apply sC;simp;have jm:∀t,tok t=true->iy t=true:=fun t ht=>by
     have h1:=Ht t ht;exact iz.keep t (by rw[uO _ _ (by omega)];exact ht) (by intro e;cases e;omega)
    have hne:∀t,tok t=true->t≠kp:=fun t ht e=>by
     have h1:=Ht t ht;rcases iz.new with e2|⟨s,e2,hs⟩
     .cases e2;omega
     .cases e2;omega
    have g9:=iz.le;have zp:iy kp=true:=iz.live
    have hlt:=iz.lt;refine⟨fun Av=>?_,fun vu=>?_⟩
    .have hR:oR a b=([],3):=by
      have:2000<(ovN a b b.nodes.length [] []).length:=by omega
      simp[oR,j6,la,pb,this]
     refine sR ?_;simp;apply sN;refine AL.ret ?_;try simp only[AU]
     exact⟨by simp,(Fin.data (av:=.tup [.osl 0 [] .full,I 3]) (by simp[aV,bQ];rfl) Hb rfl Ht jm (by omega) (by simp)).mono fun v m hq=>.inl ⟨by rw[hR];first|assumption|decide,by rw[hR,hq.1],hq.2⟩⟩
    .have hR:oR a b=(ovN a b b.nodes.length [] [],0):=by
      have:¬2000<(ovN a b b.nodes.length [] []).length:=by omega
      simp[oR,j6,la,pb,this]
     refine sR ?_;simp;apply sN;refine AL.ret ?_;try simp only[AU]
     exact⟨by simp,(Fin.gen (av:=.tup [.stk kp 6 ((ovN a b b.nodes.length [] []).map Ov.cells),I 0]) (tok':=iy) (nt':=kv) (by simp[aV,bQ];rfl) Hb (by omega) (nr0 _) (fun t h=>⟨h,.inl rfl⟩) (fun k rows _ h=>.inl h) (by simp)).mono fun v m hq=>.inr ⟨by rw[hR],kp,iy,kv,by rw[hR,hq.1],hq.2,fun s hs=>⟨jm s hs,hne s hs⟩,by omega,zp,hlt⟩⟩
def fP(ys:List Ov):List (List AV):=cG (ys.map Ov.cells)
theorem aAh{ys:List Ov}{i:Nat}(h:i<ys.length)(R:List (List AV)):(fP ys++R)[i]?=some [.d (ints ys[i].g.nodes),.d (AM.edges ys[i].g.edges),.d (ints ys[i].l.nodes),.d (ints ys[i].l.edges),.d (ints ys[i].r.nodes),.d (ints ys[i].r.edges)]:=by
 rw[bg (by simp[fP,cG];exact h)];simp[fP,cG,h]
theorem aFO(ys:List Ov)(i:Nat)(h:i<ys.length)(o:Ov)(R:List (List AV)):(fP ys++R).set i [.d (ints o.g.nodes),.d (AM.edges o.g.edges),.d (ints o.l.nodes),.d (ints o.l.edges),.d (ints o.r.nodes),.d (ints o.r.edges)]=fP (ys.set i o)++R:=by
 rw[List.set_append_left _ _ (by simp[fP,cG];exact h)];simp[fP,cG,List.map_set]
theorem aAn(ys:List Ov):(fP ys).length=ys.length:=by simp[fP]
structure aMn where
 j:Nat
 i:Nat
 ys:List Ov
structure jE (xs:List Ov) (p:Ov->Bool) (x:aMn):Prop where
 ij:x.i<x.j
 jn:x.j<=xs.length
 len:x.ys.length=xs.length
 tk:x.ys.take x.i=(xs.take x.j).filter fun o=>!p o
 dr:x.ys.drop x.j=xs.drop x.j
theorem jE.at{xs:List Ov}{p:Ov->Bool}{x:aMn}(h:jE xs p x)(hj:x.j<xs.length):x.ys[x.j]'(by rw[h.len];exact hj)=xs[x.j]:=by
 have h1:x.ys[x.j]'(by rw[h.len];exact hj)=(x.ys.drop x.j)[0]'(by simp[h.len];omega):=by simp
 have h2:xs[x.j]=(xs.drop x.j)[0]'(by simp;omega):=by simp
 rw[h1,h2];simp only[h.dr]
theorem jE.skip{xs:List Ov}{p:Ov->Bool}{j i:Nat}{ys:List Ov}(h:jE xs p ⟨j,i,ys⟩)(hj:j<xs.length)(hp:p xs[j]=true):jE xs p ⟨j+1,i,ys⟩:=by
 obtain⟨h1,h2,h3,h4,h5⟩:=h;simp only at h1 h2 h3 h4 h5;refine⟨by simp only;omega,hj,h3,?_,?_⟩
 .simp only;rw[h4,<-List.take_append_getElem hj,dj];simp[hp]
 .simp only;rw[<-List.drop_drop,<-List.drop_drop,h5]
theorem jE.put{xs:List Ov}{p:Ov->Bool}{j i:Nat}{ys:List Ov}(h:jE xs p ⟨j,i,ys⟩)(hj:j<xs.length)(hp:p xs[j]=false):jE xs p ⟨j+1,i+1,ys.set i xs[j]⟩:=by
 obtain⟨h1,h2,h3,h4,h5⟩:=h;simp only at h1 h2 h3 h4 h5;refine⟨by simp only;omega,hj,by simp[h3],?_,?_⟩
 .simp only;have hi:i<(ys.set i xs[j]).length:=by simp;omega
  rw[<-List.take_append_getElem hi,<-List.take_append_getElem hj,dj,<-h4];simp[hp,List.take_set_of_le]
 .simp only;rw[List.drop_set_of_lt (by omega),<-List.drop_drop,<-List.drop_drop,h5]
theorem jE.end{xs:List Ov}{p:Ov->Bool}{i:Nat}{ys:List Ov}(h:jE xs p ⟨xs.length,i,ys⟩):ys.take i=xs.filter fun o=>!p o:=by
 have:=h.tk
 simpa using this
theorem jE.start{xs:List Ov}{p:Ov->Bool}(h:xs.any p=true):jE xs p ⟨xs.findIdx p+1,xs.findIdx p,xs⟩:=by
 have hlt:xs.findIdx p<xs.length:=by
  rw[List.findIdx_lt_length];simpa using h
 refine⟨d5 _,hlt,rfl,?_,rfl⟩;simp only;rw[<-List.take_append_getElem hlt,dj];have h1:p xs[xs.findIdx p]=true:=List.findIdx_getElem (w:=hlt)
 have h2:(xs.take (xs.findIdx p)).filter (fun o=>!p o)=xs.take (xs.findIdx p):=by
  refine fg.2 fun a ha=>?_
  obtain⟨q,hq,rfl⟩:=bi ha;rw[ez];have:=List.not_of_lt_findIdx (p:=p) (xs:=xs) (i:=q) (by simp at hq;omega)
  simpa using this
 rw[h2];simp[h1]
def aPg(n k:Nat)(f:FuncId)(nb:Nat)(box:Bxs)(tok:Tks)(nt:Nat)(R:List (List AV))(x:aMn):AS :=
 ⟨tl [(0,.msl (nb+8) 0 n 6),(1,.fn (.func f) [.ptr k 0 0]),(5,I x.i),(6,I x.j)],lb nb box [(8,fP x.ys++R)],tok,nt⟩
theorem yC(xs:List Ov)(f:FuncId)(p:Ov->Bool)(hx:xs.length<=1000000)(row:List AV)(ds:List D)(k t:Nat)(box:Bxs)(nb:Nat)(tok:Tks)(nt:Nat)(hk:box k=some [row])(zo:∀tok,mA tok row ds)(ht:tok t=true)(hf:∀x∈xs,∀tok nt,cZ prog f [x.av,.cptr ds 0] tok nt (B (p x)) tok nt):
  aC prog 138 [.stk t 6 (xs.map Ov.cells),.fn (.func f) [.ptr k 0 0]] ⟨box,nb,tok,nt⟩ fun v m=>v=.d (ovs (xs.filter fun x=>!p x))/\m=⟨box,nb,upd tok t false,nt⟩:=by
 have AN:∀tok,cZ prog 204 [.d (ovs xs),.fn (.func f) [.cptr ds 0]] tok nt (I (fD p xs)) tok nt:=fun tok box nb =>
  aBA xs f [.cptr ds 0] p hx box nb tok nt (fun c hc=>by rw[a7.1 hc];exact .cptr) (fun x hx box' nb' _=>hf x hx tok nt box' nb')
 refine sI func138 ntmps138 fun Hb Ht=>?_
 have kn:=bH Hb hk;repeat first|simp|refine sR ?_
 refine aT.of_r (dH.lends rfl AN ⟨.stk ht,.fn1 (.ptr (by simp[lO kn,hk]) (zo _)),trivial⟩) ?_;repeat first|simp|refine sR ?_
 by_cases hn:fD p xs = -1
 .have hb:(fD p xs == -1)=true:=by simp[hn]
  refine AL.stkD t ht ?_;simp only[de,dw,AV.sdT,↓reduceIte];apply sC;simp[hb];have o8:(xs.filter fun x=>!p x)=xs:=by
   refine fg.2 fun x qf=>?_
   by_cases jr:xs.any p=true
   .simp only[fD,jr,↓reduceIte] at hn;omega
   .have:=dz.1 (by simpa using jr) x qf
    simpa using this
  repeat first|simp|refine sR ?_
  refine sT ?_;try simp only[AU]
  refine⟨by simp,(Fin.gen (av:=.d (ovs xs)) (tok':=upd tok t false) (nt':=nt) (by simp[aV,bQ,lk];rfl) Hb (nr0 _) (nr0 _) (fun t ht=>⟨ht,.inl rfl⟩) (fun k rows _ h=>.inl h) (by simp)).mono fun v m hq=>?_⟩;rw[o8];exact hq
 .have jr:xs.any p=true:=by
   by_cases h:xs.any p=true
   .exact h
   .exact absurd (by simp[fD,h]) hn
  have hne:xs.map Ov.cells≠[]:=by
   intro h;have:xs=[]:=by simpa using h
   rw[this] at jr;cases jr
  have hb:(fD p xs == -1)=false:=by simp[hn]
  have pk:fD p xs=(xs.findIdx p:Nat):=by simp[fD,jr]
  apply sC;simp[hb];refine AL.thawS (l':=[(12,.bot),(11,.bot),(5,I (fD p xs)),(10,.bot),(9,.bot),(8,.bot),(4,.bot),(0,.msl (nb+8) 0 xs.length 6),(1,.fn (.func f) [.ptr k 0 0])]) (loc':=[]) t 8 6 (xs.map Ov.cells) 0 rfl (show (8:Nat)<42 by decide) rfl ht hne rfl ?_ trivial ?_
  .simp[CvL]
  intro m;have jo:=jE.start jr;rw[pk];generalize xs.findIdx p=i0 at *;generalize CW:List.replicate m (List.replicate 6 AV.bot)=R;have hbt:∀t',upd tok t false t'=true->upd tok t false t'=true:=fun _ h=>h
  have pp:IntKind.i64.wrap (↑i0+1)=((i0+1:Nat):Int):=by rw[aL (by omega) (by have:=jo.jn;simp only at this;omega)];rfl
  have sx:∀(loc:List (Nat × List (List AV))) (fz:Option (Nat × Nat × List (List D))),To (fun k=>lb nb box loc k≠none) (fun _=>True) fz (.fn (.func f) [.ptr k 0 0]) (.fn (.func f) [.ptr k 0 0]):=fun loc fz=>.same (kV (fun c hc=>by rw[a7.1 hc];simp[hk]) Hb loc rfl rfl _)
  have hro:∀(ys:List Ov) (p q:Nat->Prop) (fz:Option (Nat × Nat × List (List D))),gA p q fz (fP ys++R) (fP ys++R):=fun ys p q fz=>mJ fun r hr x hx=>by
   rcases ap.1 hr with hr|hr
   .obtain⟨e,_,rfl⟩:=bc.1 hr;obtain⟨d,_,rfl⟩:=bc.1 hx;exact .d
   .rw[<-CW] at hr;rw[ci hr] at hx;rw[ci hx];exact .bot
  repeat first|simp[pp]|refine sR ?_
  apply sN;refine sL (aPg xs.length k f nb box (upd tok t false) nt R) (jE xs p) (fun x=>xs.length-x.j) ⟨i0+1,i0,xs⟩ jo (wM (nr0 _) rfl (by simp[ToL,lk,aN];exact sx _ _) (by simp only[aE,cB,↓reduceIte,and_true];exact⟨_,rfl,hro _ _ _ _⟩)) ?_;rintro⟨j,i,ys⟩ S gt hS;simp only[aPg] at hS;subst hS;have h1:=gt.ij;have h2:=gt.jn;have h3:=gt.len;simp only at h1 h2 h3;have ux:=sW (i:=j) (by omega);have nf:=sW (i:=i) (by omega);repeat first|simp|refine sR ?_|apply sC
  refine⟨fun hlt=>?_,fun hge=>?_⟩
  .have jj:=gt.at hlt;simp only at jj;have wc:j<ys.length:=by omega
   have CX:i<ys.length:=by omega
   have gx:=aAh wc R;have og:=aAh CX R;have sm:=aFO ys i CX xs[j] R;have ss:=fun h=>gt.skip hlt h
   have AO:=fun h=>gt.put hlt h
   have Cl:=hf xs[j] (aa hlt);rw[jj] at gx;generalize xs[j]=x at *;repeat first|simp[hlt,gx]|refine sR ?_
   refine aT.of_r (dH.lends rfl (fun tok=>Cl tok nt) ⟨.same (by simp),.ptr (by simp[lO kn,hk]) (zo _),trivial⟩) ?_;simp;cases hp:p x
   .repeat first|simp[og,sm,nf,ux]|refine sR ?_|apply sC
    refine⟨by omega,?_⟩;repeat first|simp[nf,ux]|refine sR ?_
    apply sE;exact⟨⟨j+1,i+1,ys.set i x⟩,AO hp,by simp only;omega,wM (nr0 _) rfl (by simp[ToL,lk,aN];exact sx _ _) (by simp only[aE,cB,↓reduceIte,and_true];exact⟨_,rfl,hro _ _ _ _⟩)⟩
   .repeat first|simp[ux]|refine sR ?_|apply sC
    apply sE;exact⟨⟨j+1,i,ys⟩,ss hp,by simp only;omega,wM (nr0 _) rfl (by simp[ToL,lk,aN];exact sx _ _) (by simp only[aE,cB];simp;exact hro _ _ _ _)⟩
  .apply sX;simp only[AU,↓reduceIte];have hj:j=xs.length:=by omega
   subst hj;have Cm:=gt.end;have CY:i<xs.length:=by omega
   repeat first|simp[CY]|refine sR ?_
   refine⟨by omega,by rw[aAn];omega,?_⟩;have Cn:List.take i (fP ys++R)=fP (ys.take i):=by
    rw[c6 (by rw[aAn];omega)];simp[fP,cG,List.map_take]
   rw[Cn];obtain⟨rest,ql⟩:∃rest,(List.replicate (xs.length-i) [AV.osl 0 [] .full,AV.osl 0 [] .full,AV.osl 0 [] .full,AV.osl 0 [] .full,AV.osl 0 [] .full,AV.osl 0 [] .full]++List.drop (i+(xs.length-i)) (fP ys++R))=rest:=⟨_,rfl⟩
   rw[ql];have DK:∀(p:Nat->Prop) (fz:Option (Nat × Nat × List (List D))),gA p (fun _=>True) fz (fP (ys.take i)++rest) (fP (ys.take i)++rest):=fun p fz=>mJ fun r hr x hx=>by
    rcases ap.1 hr with hr|hr
    .obtain⟨e,_,rfl⟩:=bc.1 hr;obtain⟨d,_,rfl⟩:=bc.1 hx;exact .d
    .rw[<-ql] at hr;rcases ap.1 hr with hr|hr
     .rw[ci hr] at hx;simp at hx;rw[hx];exact .osl fun _ _=>trivial
     .rcases ap.1 (co hr) with hr|hr
      .obtain⟨e,_,rfl⟩:=bc.1 hr;obtain⟨d,_,rfl⟩:=bc.1 hx;exact .d
      .rw[<-CW] at hr;rw[ci hr] at hx;rw[ci hx];exact .bot
   have mc:((ys.take i).map Ov.cells).length=i:=by simp;omega
   repeat first|simp[CY]|refine sR ?_
   try refine⟨by omega,?_⟩
   refine AL.weak (wM (l':=[(4,.msl (nb+8) 0 i 6)]) (loc':=[(8,fP (ys.take i)++rest)]) (nr0 _) rfl (by simp[ToL,lk,aN]) (by simp only[aE,cB,↓reduceIte,and_true];exact⟨_,rfl,DK _ _⟩)) ?_;refine AL.trans (iW.sealD (l':=[(4,.d (.sl 6 ((ys.take i).map Ov.cells)))]) (loc:=[]) (loc':=[]) 8 6 ((ys.take i).map Ov.cells) rest 4 rfl (fun e he=>by obtain⟨o,_,rfl⟩:=bc.1 he;rfl) (by rw[mc];rfl) rfl ⟨rfl,by have:=@tX.msl (nb+8) 6 ((ys.take i).map Ov.cells);rw[mc] at this;exact this,trivial⟩ trivial) ?_;rw[Cm];refine sT ?_;try simp only[AU]
   refine⟨by simp,(Fin.gen (av:=.d (ovs (xs.filter fun x=>!p x))) (tok':=upd tok t false) (nt':=nt) (by simp[aV,bQ,lk];rfl) Hb (nr0 _) (nr0 _) (fun t ht=>⟨ht,.inl rfl⟩) (fun k rows _ h=>.inl h) (by simp))⟩
theorem aMm(r:Ru)(tok:Tks):mA tok r.row r.rowK:=⟨.d,.d,.d,.d,.d,.d,.d,.d,.d,.d,.d,.d,.d,.d,.d,.d,.d,.d,.d,.d,.d,.d,.d,.d,.d,trivial⟩
structure aM5 (t:Ty) (r:Ru) (c:Co):Prop where
 n:(cF t r c).1.length<=1000000
 fit:∀o∈(cF t r c).1,o.Fit
theorem aBg{t:Ty}{r:Ru}{c:Co}(h:qK t r c=0):tyE t=0/\cN r=0/\kT c=0:=by
 unfold qK at h;split at h
 .contradiction
 rename_i h1;split at h
 .contradiction
 rename_i h2;split at h
 .split at h
  .unfold cnE at h;split at h
   .contradiction
   split at h
   .contradiction
   rename_i h3;exact⟨by simpa using h1,by simpa using h2,by simpa using h3⟩
  .cases h
 .cases h
theorem aBe{t:Ty}{r:Ru}{c:Co}(hr:r.Fit)(hc:c.Fit):aM5 t r c:=by
 obtain⟨W,hW⟩:∃W,cF t r c=W:=⟨_,rfl⟩
 suffices h:W.1.length<=1000000/\∀o∈W.1,o.Fit by
  constructor
  .rw[hW];exact h.1
  .rw[hW];exact h.2
 unfold cF at hW;split at hW
 .subst hW;simp
 .rename_i hg;have hg:=aBg (dm.1 hg);split at hW
  .split at hW
   .subst hW;simp
   .have hv:=(fZ hg.2.1).2.2;obtain⟨gt,i9⟩:=aDJ hr.rg hv hc.g rfl;have vu:=aA0 (p:=c.g) hv rfl;subst hW;refine⟨bz (di _ _) (by omega),fun o ho=>i9 o ((b8.1 ho).1)⟩
  .subst hW;simp
set_option maxRecDepth 100000 in
theorem aFm(t:Ty)(ht:t.Fit)(r:Ru)(hr:r.Fit)(c:Co)(hc:c.Fit):DC 88 [t.av,r.av,c.av] (.tup [.d (ovs (cF t r c).1),I (cF t r c).2]):=by
 intro tok nt box nb;have h1:=aIa t ht r hr c hc;have hg:=@aBg t r c;have h2:=aCe r.rg c.g hr.rg hc.g;obtain⟨N,hN⟩:∃N,cF t r c=N:=⟨_,rfl⟩
 rw[hN];unfold cF at hN;generalize qK t r c=E at *;refine sI func88 ntmps88 fun Hb Ht=>?_
 repeat first|simp|refine sR ?_
 refine sD (h1 _ _) ?_;repeat first|simp|refine sR ?_
 by_cases e1:E=0
 .rw[ac (by simp[e1])] at hN;apply sC;simp[e1];repeat first|simp|refine sR ?_
  by_cases e2:c.kind=1
  .rw[af e2] at hN;have hv:=(fZ (hg e1).2.1).2.2;obtain⟨_,i9⟩:=aDJ hr.rg hv hc.g rfl;have vu:=aA0 (p:=c.g) hv rfl;try (simp[e2])
   repeat ((first|refine sR ?_|apply sC|apply sX);simp[e2])
   refine aT.of_a (h2 _ _ _ _) ?_;unfold QOl;generalize oR r.rg c.g=R at *;rintro v m' (⟨e3,rfl,rfl⟩|⟨e3,t',tok',nt',rfl,rfl,Cp,g9,zp,hlt⟩)
   .rw[af e3] at hN;have b3:(R.2 != 0)=true:=by simp[e3]
    try (simp[b3])
    repeat ((first|refine sR ?_|apply sC|apply sX);simp[b3])
    refine sT (sH ?_);simp[<-hN,ovs]
   .rw[ac (by simp[e3])] at hN;repeat first|simp|refine sR ?_
    apply sC;repeat first|simp|refine sR ?_
    refine aT.of_b (yC R.1 139 (fun o=>!pX r o) (by omega) r.row r.rowK (nb+4) t' _ _ _ _ (by simp[aN]) (aMm r) zp (fun o ho tok nt=>aKI r hr o (i9 o ho) tok nt)) ?_;simp only[Bool.not_not];repeat first|simp|refine sR ?_
    refine sT ?_;try simp only[AU]
    refine⟨by simp,sF Hb Ht (fun s hs=>by rw[uO _ _ (Cp s hs).2];exact(Cp s hs).1) g9 ?_⟩;simp[<-hN,ovs]
  .rw[ac e2] at hN;have b2:(c.kind != 1)=true:=by simp[e2]
   try (simp[b2])
   repeat ((first|refine sR ?_|apply sC|apply sX);simp[b2])
   refine sT (sH ?_);simp[<-hN,ovs]
 .rw[af e1] at hN;have b1:(E != 0)=true:=by simp[e1]
  apply sC;simp[b1];repeat first|simp|refine sR ?_
  refine sT (sH ?_);simp[<-hN,ovs]
structure Sd where
 k:Int
 o:Bool
 near:Int
 far:Int
 low:Int
 high:Int
abbrev Sd.cells(s:Sd):List D:=[.raw (.int .i64 s.k),.raw (.bool s.o),.raw (.int .i64 s.near),.raw (.int .i64 s.far),.raw (.int .i64 s.low),.raw (.int .i64 s.high)]
abbrev Sd.av(s:Sd):AV:=.agg [I s.k,B s.o,I s.near,I s.far,I s.low,I s.high]
structure Ar where
 to:Gr
 m:Mo
abbrev Ar.av(x:Ar):AV:=.agg [.d (ints x.to.nodes),.d (AM.edges x.to.edges),.d (ints x.m.nodes),.d (ints x.m.edges)]
structure Ar.Big (x:Ar):Prop where
 n:x.m.nodes.length<=dI
 e:x.m.edges.length<=dI
structure Ch where
 a:Dr
 b:List Int
 g:List Int
 c:List Int
structure Ch.U8 (x:Ch):Prop where
 a:x.a.U8
 b:U8s x.b
 g:U8s x.g
 c:U8s x.c
abbrev Ch.av(x:Ch):AV:=.agg [.d (.sl 1 (x.a.nodes.map fun n=>[u8 n])),.d (.sl 3 (x.a.edges.map fun e=>[u8 e.1,u8 e.2.1,u8 e.2.2])),.d (bytes x.b),.d (bytes x.g),.d (bytes x.c)]
def Ch.ok(x:Ch):Bool:=decide (x.a.nodes.length<=1/\x.a.edges.length<=1/\x.c.length<=12/\x.b.length<=10/\x.g.length<=10)
def Ch.A(x:Ch):Gr:=iR x.a
def Ch.B(x:Ch):Gr:=aNu x.A x.b 2
theorem Pre.le{a b:Gr}(h:Pre a b):a.nodes.length<=b.nodes.length/\a.edges.length<=b.edges.length:=by
 obtain⟨t,ht⟩:=h.n;obtain⟨u,hu⟩:=h.e;rw[ht,hu];simp
theorem aGC{α:Type}(p:α->Bool)(l:List α){i:Nat}(h:i<l.length):(l.take (i+1)).filter p=if p l[i]=true then (l.take i).filter p++[l[i]] else (l.take i).filter p:=by
 rw[<-List.take_append_getElem h,dj];by_cases e:p l[i]=true<;>simp[e]
def aPQ(r:Ru)(l:List Ov)(nb:Nat)(box:Bxs)(x:Acc):AS :=
 ⟨tl [(12,I x.i),(9,.d (ovs l)),(11,.osl 6 (((l.take x.i).filter (pX r)).map Ov.cells) x.own),(4,.ptr (nb+4) 0 0)],lb nb box [(4,[r.row])],x.tok,x.nt⟩
set_option maxRecDepth 100000 in
theorem aJl(t:Ty)(ht:t.Fit)(r:Ru)(hr:r.Fit)(c:Co)(hc:c.Fit):DC 91 [t.av,r.av,c.av] (.tup [.d (ovs (cF t r c).1),I (cF t r c).2]):=by
 intro tok nt box nb;have h1:=aGJ t ht r hr c hc;have hg:=@aBg t r c;have h2:=aAy r.rg c.g hr.rg hc.g;obtain⟨N,hN⟩:∃N,cF t r c=N:=⟨_,rfl⟩
 rw[hN];unfold cF at hN;generalize qK t r c=E at *;refine sI func91 ntmps91 fun Hb Ht=>?_
 repeat first|simp|refine sR ?_
 refine sD (h1 _ _) ?_;repeat first|simp|refine sR ?_
 by_cases e1:E=0
 .rw[ac (by simp[e1])] at hN;apply sC;simp[e1];repeat first|simp|refine sR ?_
  by_cases e2:c.kind=1
  .rw[af e2] at hN;have hv:=(fZ (hg e1).2.1).2.2;obtain⟨_,i9⟩:=aDJ hr.rg hv hc.g rfl;have vu:=aA0 (p:=c.g) hv rfl;try (simp[e2])
   repeat ((first|refine sR ?_|apply sC|apply sX);simp[e2])
   refine sD (h2 _ _) ?_;simp;generalize oR r.rg c.g=R at *;repeat first|simp|refine sR ?_
   by_cases e3:R.2=0
   .rw[ac (by simp[e3])] at hN;apply sC;simp[e3];repeat first|simp|refine sR ?_
    apply sN;refine sL (aPQ r R.1 nb box) (fun x=>x.i<=R.1.length/\TK tok nt x.tok x.nt [x.own]) (fun x=>R.1.length-x.i) ⟨0,.full,tok,nt⟩ ⟨ai _,(TK.start Ht).full⟩ wkA ?_;rintro⟨i,own,tok',nt'⟩ S ⟨hi,htk⟩ hS;simp only[aPQ] at hS hi htk;subst hS;have hw:=sW (i:=i) (by omega);obtain⟨K,hK⟩:∃K,(R.1.take i).filter (pX r)=K:=⟨_,rfl⟩
    have hKl:K.length<=i:=by rw[<-hK];exact bz (di _ _) (by simp;omega)
    rw[hK];repeat first|simp|refine sR ?_|apply sC
    refine⟨fun hlt=>?_,fun hge=>?_⟩
    .have jb:=aGC (pX r) R.1 hlt;rw[hK] at jb;have ho:=i9 _ (aa hlt);have c1:=wR R.1[i].l.nodes R.1[i].r.nodes r.i.nodes ho.l.n ho.r.n hr.i.n;have c2:=wR R.1[i].l.edges R.1[i].r.edges r.i.edges ho.l.e ho.r.e hr.i.e;have hd:pX r R.1[i]=if dV R.1[i].l.nodes R.1[i].r.nodes r.i.nodes=true then true else dV R.1[i].l.edges R.1[i].r.edges r.i.edges:=rfl
     repeat first|simp[hlt]|refine sR ?_
     refine sD (c1 _ _) ?_;simp;cases e5:dV R.1[i].l.nodes R.1[i].r.nodes r.i.nodes
     .rw[e5,ac (by simp)] at hd;repeat first|simp[hlt]|refine sR ?_
      refine sD (c2 _ _) ?_;simp;cases e6:dV R.1[i].l.edges R.1[i].r.edges r.i.edges
      .rw[e6] at hd;rw[hd,ac (by simp)] at jb;try (simp[hw])
       repeat ((first|refine sR ?_|apply sC|apply sX);simp[hw])
       apply sE;exact⟨⟨i+1,own,tok',nt'⟩,⟨hlt,htk⟩,by simp only;omega,wM htk.le rfl (by simp[ToL,lk,jb]) (by simp[aE,lk])⟩
      .rw[e6] at hd;rw[hd,af rfl] at jb;try (simp[hlt])
       repeat ((first|refine sR ?_|apply sC|apply sX);simp[hlt])
       refine⟨⟨by omega,htk.live⟩,?_⟩;repeat first|simp[hw]|refine sR ?_
       apply sE;exact⟨⟨i+1,_,_,_⟩,⟨hlt,htk.app⟩,by simp only;omega,wM htk.app.le rfl (by simp[ToL,lk,jb]) (by simp[aE,lk])⟩
     .rw[e5,af rfl] at hd;rw[hd,af rfl] at jb;try (simp[hlt])
      repeat ((first|refine sR ?_|apply sC|apply sX);simp[hlt])
      refine⟨⟨by omega,htk.live⟩,?_⟩;repeat first|simp[hw]|refine sR ?_
      apply sE;exact⟨⟨i+1,_,_,_⟩,⟨hlt,htk.app⟩,by simp only;omega,wM htk.app.le rfl (by simp[ToL,lk,jb]) (by simp[aE,lk])⟩
    .apply sX;simp only[AU,↓reduceIte];have:i=R.1.length:=by omega
     subst this;rw[bh] at hK;rw[hK] at hN;repeat first|simp|refine sR ?_
     refine sT (sG Hb Ht htk.old htk.le ?_);simp[<-hN,ovs]
   .rw[af e3] at hN;have b3:(R.2 != 0)=true:=by simp[e3]
    apply sC;simp[b3];repeat first|simp|refine sR ?_
    refine sT (sH ?_);simp[<-hN,ovs]
  .rw[ac e2] at hN;have b2:(c.kind != 1)=true:=by simp[e2]
   try (simp[b2])
   repeat ((first|refine sR ?_|apply sC|apply sX);simp[b2])
   refine sT (sH ?_);simp[<-hN,ovs]
 .rw[af e1] at hN;have b1:(E != 0)=true:=by simp[e1]
  apply sC;simp[b1];repeat first|simp|refine sR ?_
  refine sT (sH ?_);simp[<-hN,ovs]
inductive Cd.Pl:Cd->Prop
 | mk {c:Cd} (hs:c.sl=[]) (hv:c.vars=0) (ht:c.te=[]) (h:∀x∈c.kids,Cd.Pl x):Cd.Pl c
theorem Cd.Pl.sl{c:Cd}(h:c.Pl):c.sl=[]:=by cases h;assumption
theorem Cd.Pl.te{c:Cd}(h:c.Pl):c.te=[]:=by cases h;assumption
theorem Cd.Pl.vars{c:Cd}(h:c.Pl):c.vars=0:=by cases h;assumption
def exT:Ty:=⟨[⟨⟨#[65,99,99,111,117,110,116]⟩, -1,true,[⟨⟨#[98,97,108,97,110,99,101]⟩, -1000,1000,[]⟩]⟩,⟨⟨#[67,97,115,104]⟩,0,false,[]⟩,⟨⟨#[76,111,97,110]⟩,0,false,[⟨⟨#[115,116,97,116,101]⟩,0,1,[⟨#[111,112,101,110]⟩,⟨#[99,108,111,115,101,100]⟩]⟩]⟩,⟨⟨#[80,101,114,115,111,110]⟩, -1,false,[]⟩],
 [⟨⟨#[111,119,110,115]⟩,3,0,0, -1,1,1⟩,⟨⟨#[112,97,121,115]⟩,1,1,0, -1,0, -1⟩]⟩
theorem aJs:exT.Fit:=⟨by decide,by decide,by decide,by decide,by simp[exT];exact⟨⟨by decide,by decide,by decide⟩,⟨by decide,by decide,by decide⟩⟩⟩
theorem aAN:DSs [] []:=⟨rfl,fun i h=>by simp at h⟩
theorem xO{x y:List D}{xs ys:List (List D)}:DSs (x::xs) (y::ys)↔DS1 x y/\DSs xs ys:=by
 constructor
 .rintro⟨h1,h2⟩;exact⟨h2 0 (by simp) (by simp),by simpa using h1,fun j g1 g2=>h2 (j+1) (by simpa using g1) (by simpa using g2)⟩
 .rintro⟨h1,h2,h3⟩;refine⟨by simp[h2],fun j g1 g2=>?_⟩
  match j with
  | 0=>exact h1
  | j+1=>exact h3 j (by simpa using g1) (by simpa using g2)
theorem xB{sz:Nat}{es es':List (List D)}(h:DSs es es'):lY (.sl sz es) (.sl sz es'):=h.sub sz
theorem aDY{p q:Nat->Prop}{fz:Option (Nat × Nat × List (List D))}{sz:Nat}{es es':List (List D)}{o:Own}(h:DSs es es'):To p q fz (.osl sz es o) (.d (.sl sz es')):=.odsub (h.sub sz)
set_option maxRecDepth 100000 in
theorem aDj:DC 34 [] exT.av:=by
 intro tok nt box nb;refine sI func34 ntmps34 fun Hb Ht=>?_
 repeat first|simp|refine sR ?_
 try refine⟨rfl,?_⟩
 repeat first|simp|refine sR ?_
 try refine⟨rfl,?_⟩
 repeat first|simp|refine sR ?_
 try refine⟨rfl,?_⟩
 repeat first|simp|refine sR ?_
 try refine⟨rfl,?_⟩
 repeat first|simp|refine sR ?_
 refine sT (sH ?_);simp[exT,nts,ets,qL,lA];exact aDY (by simp[xO,aAN,xB,qL,lA])
abbrev Co.cells(c:Co):List D:=[.raw (.string c.name),.raw (.int .i64 c.kind),ints c.g.nodes,AM.edges c.g.edges,xts c.exts]
abbrev rCo(l:List Co):List (List D):=l.map Co.cells
structure Ob where
 ru:Int
 con:Int
 way:Int
 g:Gr
structure Du where
 o:Ob
 step:Bool
structure Dc where
 o:Ob
 con:Int
 m:Mo
abbrev Ob.cells(o:Ob):List D:=[.raw (.int .i64 o.ru),.raw (.int .i64 o.con),.raw (.int .i64 o.way),ints o.g.nodes,AM.edges o.g.edges]
abbrev Du.cells(d:Du):List D:=[.raw (.int .i64 d.o.ru),.raw (.int .i64 d.o.con),.raw (.int .i64 d.o.way),ints d.o.g.nodes,AM.edges d.o.g.edges,.raw (.bool d.step)]
abbrev Dc.cells(d:Dc):List D:=[.raw (.int .i64 d.o.ru),.raw (.int .i64 d.o.con),.raw (.int .i64 d.o.way),ints d.o.g.nodes,AM.edges d.o.g.edges,.raw (.int .i64 d.con),ints d.m.nodes,AM.ints d.m.edges]
abbrev aI0(l:List Ob):D:=.sl 5 (l.map Ob.cells)
abbrev pO(l:List Du):D:=.sl 6 (l.map Du.cells)
abbrev tY(l:List Dc):D:=.sl 8 (l.map Dc.cells)
abbrev Ob.row(o:Ob):List AV:=[I o.ru,I o.con,I o.way,.d (ints o.g.nodes),.d (AM.edges o.g.edges)]
abbrev Ob.av(o:Ob):AV:=.agg o.row
abbrev Du.row(d:Du):List AV:=[I d.o.ru,I d.o.con,I d.o.way,.d (ints d.o.g.nodes),.d (AM.edges d.o.g.edges),B d.step]
abbrev Du.av(d:Du):AV:=.agg d.row
abbrev Dc.row(d:Dc):List AV:=[I d.o.ru,I d.o.con,I d.o.way,.d (ints d.o.g.nodes),.d (AM.edges d.o.g.edges),I d.con,.d (ints d.m.nodes),.d (ints d.m.edges)]
abbrev Dc.av(d:Dc):AV:=.agg d.row
abbrev fF(l:List Ru):D:=.sl 25 (l.map Ru.rowK)
structure Dc.Fit (d:Dc):Prop where
 g:d.o.g.Fit
 m:d.m.Fit
def zB(t:Ty)(p g:Gr)(inj:Bool):Sr:=⟨t,p,g,opM p,inj,0⟩
def aMX(t:Ty)(p g:Gr)(inj:Bool):List Mo:=(zB t p g inj).fnR p.nodes.length [] []
def hdM:List Mo->Mo × Int
 | []=>(⟨[],[]⟩,10)
 | m::_=>(m,0)
def xV(t:Ty)(p g:Gr)(inj:Bool):Mo × Int:=if kO t p g≠0 then (⟨[],[]⟩,kO t p g) else hdM (aMX t p g inj)
def iX(t:Ty)(p g:Gr)(m:Mo)(i:Nat):Int:=if m.nodes.getD i 0<0∨(g.nodes.length:Int)<=m.nodes.getD i 0 then 6 else if isB t (g.nodes.getD (m.nodes.getD i 0).toNat 0) (p.nodes.getD i 0)=true then 0 else 13
def gZ(p g:Gr)(m:Mo)(i:Nat):Int :=
 if m.edges.getD i 0<0∨(g.edges.length:Int)<=m.edges.getD i 0 then 6
 else if (p.edges.getD i default).ty≠(g.edges.getD (m.edges.getD i 0).toNat default).ty then 13
 else if m.nodes.getD (p.edges.getD i default).fr.toNat 0≠(g.edges.getD (m.edges.getD i 0).toNat default).fr∨m.nodes.getD (p.edges.getD i default).to.toNat 0≠(g.edges.getD (m.edges.getD i 0).toNat default).to then 11 else 0
def gN(t:Ty)(p g:Gr)(m:Mo):Int :=
 if m.nodes.length≠p.nodes.length∨m.edges.length≠p.edges.length then 20 else if aA (iX t p g m) m.nodes.length≠0 then aA (iX t p g m) m.nodes.length else aA (gZ p g m) m.edges.length
def vA(t:Ty)(p g:Gr)(m:Mo)(inj:Bool):Int:=if gN t p g m≠0 then gN t p g m else if inj=true/\(¬m.nodes.Nodup∨¬m.edges.Nodup) then 5 else 0
def xC(t:Ty)(p g:Gr)(m:Mo)(inj:Bool):Int:=if kO t p g≠0 then kO t p g else vA t p g m inj
def ruE(t:Ty)(r:Ru):Int:=if cN r≠0 then cN r else if dA t r.lg=true then (if dA t r.rg=true then 0 else 13) else 13
def coE(t:Ty)(c:Co):Int:=if cnE t c≠0 then cnE t c else if c.kind=1 then 0 else 8
def qP(t:Ty)(L:List Ru)(i:Nat):Int:=match L[i]? with|some r=>ruE t r|none=>0
def wA(t:Ty)(l:List Co)(i:Nat):Int:=match l[i]? with|some c=>coE t c|none=>0
def gE(t:Ty)(L:List Ru)(l:List Co):Int :=
 if tyE t≠0 then tyE t else if 6<L.length∨8<l.length then 3 else if aA (qP t L) L.length≠0 then aA (qP t L) L.length else aA (wA t l) l.length
def kpI(r:Ru):Mo:=xZ r.rg r.i
def eG(r:Ru)(o:Ov):Mo:=aGB o.g (kpI r) o.l
def bC(k:List Int)(n:Nat):List Int:=((List.range n).filter fun (i:Nat)=>decide ((i:Int)∉k)).map fun (i:Nat)=>(i:Int)
def rV(r:Ru)(o:Ov)(i:Nat):Int :=
 if (i:Int)∈r.k.nodes then aQ (eG r o).nodes (o.l.nodes.getD (r.i.nodes.getD (aQ r.k.nodes i).toNat 0).toNat 0) else ((exG o.g (eG r o)).nodes.length+(bC r.k.nodes i).length:Nat)
def wI(r:Ru)(o:Ov):Gr :=
 ⟨(exG o.g (eG r o)).nodes++(bC r.k.nodes r.lg.nodes.length).map fun n=>r.lg.nodes.getD n.toNat 0,
  (exG o.g (eG r o)).edges++(bC r.k.edges r.lg.edges.length).map fun n=>⟨(r.lg.edges.getD n.toNat default).ty,rV r o (r.lg.edges.getD n.toNat default).fr.toNat,rV r o (r.lg.edges.getD n.toNat default).to.toNat⟩⟩
def lQ(r:Ru)(o:Ov):Gr × Bool:=if jK o.g (kpI r) o.l=true then (⟨[],[]⟩,false) else (wI r o,true)
def duN(r:Ru)(i k:Nat)(ws:List Ov)(n:Nat):List Du:=(List.range n).map fun (j:Nat)=>⟨⟨i,k,j,(lQ r (ws.getD j ⟨⟨[],[]⟩,⟨[],[]⟩,⟨[],[]⟩⟩)).1⟩,(lQ r (ws.getD j ⟨⟨[],[]⟩,⟨[],[]⟩,⟨[],[]⟩⟩)).2⟩
def duW(t:Ty)(L:List Ru)(l:List Co)(i k:Nat):List Ov × Int:=match L[i]?,l[k]? with|some r,some c=>cF t r c|_,_=>([],0)
def duC(t:Ty)(L:List Ru)(l:List Co)(i k:Nat):List Du:=match L[i]? with|some r=>duN r i k (duW t L l i k).1 (duW t L l i k).1.length|none=>[]
def duK(t:Ty)(L:List Ru)(l:List Co)(i n:Nat):List Du:=(List.range n).flatMap (duC t L l i)
def duL(t:Ty)(L:List Ru)(l:List Co)(n:Nat):List Du:=(List.range n).flatMap fun i=>duK t L l i l.length
def duE(t:Ty)(L:List Ru)(l:List Co)(i:Nat):Int:=aA (fun k=>(duW t L l i k).2) l.length
def aMk(t:Ty)(L:List Ru)(l:List Co):Int:=aA (duE t L l) L.length
def lN(t:Ty)(L:List Ru)(l:List Co):List Du × Int:=if aMk t L l≠0 then ([],aMk t L l) else (duL t L l L.length,0)
def fG(t:Ty)(L:List Ru)(l:List Co):List Du × Int:=if gE t L l≠0 then ([],gE t L l) else lN t L l
def pD(t:Ty)(g:Gr)(c:Co):Bool:=decide ((xV t c.g g true).2=0)
def aDN(t:Ty)(l:List Co)(g:Gr):Nat:=l.findIdx (pD t g)
def zOb:Ob:=⟨0,0,0,⟨[],[]⟩⟩
def oS(t:Ty)(l:List Co)(d:Du):Dc × Bool :=
 if d.step=true then (if h:aDN t l d.o.g<l.length then (⟨d.o,(aDN t l d.o.g:Nat),(xV t l[aDN t l d.o.g].g d.o.g true).1⟩,true) else (⟨zOb,0,⟨[],[]⟩⟩,false)) else (⟨d.o, -1,⟨[],[]⟩⟩,true)
def lU(t:Ty)(l:List Co)(D:List Du):List Ob:=(D.filter fun d=>!(oS t l d).2).map Du.o
def aCS(t:Ty)(L:List Ru)(l:List Co):List Ob × Int:=if (fG t L l).2≠0 then ([],(fG t L l).2) else (lU t l (fG t L l).1,0)
def aMY(t:Ty)(l:List Co)(D:List Du):List Dc × Int:=if D.all (fun d=>(oS t l d).2)=true then (D.map fun d=>(oS t l d).1,0) else ([],10)
def aA6(t:Ty)(L:List Ru)(l:List Co):List Dc × Int:=if (fG t L l).2≠0 then ([],(fG t L l).2) else aMY t l (fG t L l).1
def obE(a b:Ob):Bool:=decide (a.ru=b.ru)&&decide (a.con=b.con)&&decide (a.way=b.way)&&decide (a.g=b.g)
def rN(t:Ty)(l:List Co)(d:Du)(x:Dc):Bool :=
 obE x.o d.o&&if d.step=true then decide (0<=x.con/\x.con<l.length)&&(match l[x.con.toNat]? with|some c=>decide (xC t c.g d.o.g x.m true=0)|none=>false) else decide (x.con = -1)&&decide (x.m.nodes.length+x.m.edges.length=0)
def aGE(t:Ty)(L:List Ru)(l:List Co)(p:List Dc):Bool :=
 decide ((fG t L l).2=0)&&decide ((fG t L l).1.length=p.length)&&(List.range p.length).all fun i=>match (fG t L l).1[i]?,p[i]? with|some d,some x=>rN t l d x|_,_=>false
end Go.AM
namespace Go.Proofs.YtchfmhhbiealcaaGreatDoor.sortedV
open Go Go.Proofs Go.RowKit Go.Shelf Go.Sort
open Go.Proofs.Tryz
set_option maxHeartbeats 2000000 in
set_option maxRecDepth 100000 in
theorem any(b off n c:Nat)(zs:List Int)(w:World)(hz:zs.length=n)(hbig:n*8<=140737488355328)(hc:∀j,j<zs.length->w.cell? ⟨b,off+j,none⟩=some (.int .i64 (zs.getD j 0))):
    Calls prog 141 #[.slice (some ⟨b,off,none⟩) n c] w fun e w'=>∃v,e=.returned v/\w'.ownsRow w.heap.size 3 1 v zs.length ((zs.mergeSort fun x y=>decide (x<=y)).map (Value.int .i64))/\Below w.heap.size w w':=by
  have hclone:=Tryz.slices_Clone_int b off n c zs w (by omega) hbig hc;rw[List.take_of_length_le (by omega)] at hclone;clear hc
  go_enter func141,ntmps141
  go_wp2_with (first
    | (go_at_call 83;refine hclone.mono ?_;rintro e w1 ⟨v1,rfl,hown,hnn,hbel⟩
       have hown':=hown
       obtain⟨g,cap,rfl,hbg,hgl,hncap,hcm,hlen2,hH⟩:=Lib.holds_of_ownsRow hown hnn;have hsort:=Tryz.slices_Sort_int g 0 cap zs w1 hH hgl (by omega);rw[hlen2] at hsort;have X:Aside (w1.ownsRow w.heap.size 3 1 (.slice (some ⟨g,0,none⟩) n cap) n (zs.map (Value.int .i64))/\Below w.heap.size w w1/\w.heap.size<=g/\g<w1.heap.size/\n<=cap/\cap<=maxLen):=⟨hown',hbel,hbg,hgl,hncap,hcm⟩
       clear hown hown' hbel hH hnn)
    | (go_at_call 205;refine hsort.mono ?_;rintro e w2 ⟨rfl,nn,os,rfl⟩))
  go_ret
  obtain⟨x1,x2,x3,x4,x5,x6⟩:=X.out;rcases x1.2 with ⟨e0,_⟩|⟨g',cap',cur,hv,hbase,hb,h1,h2,h3,h4⟩
  . cases e0
  cases hv;subst hz;exact⟨_,rfl,ownsRow_sortedI (by simp) hbase hb h1 h2 h3,x2.grown (grownBy_sortedI _) x2.size (fun j hj=>by cases hj;exact hbase)⟩
set_option maxHeartbeats 2000000 in
set_option maxRecDepth 100000 in
theorem zero(a:Addr)(c:Nat)(w:World):Calls prog 141 #[.slice (some a) 0 c] w fun e w'=>∃v,e=.returned v/\w'.ownsRow w.heap.size 3 1 v 0 []/\Below w.heap.size w w':=by
  have hclone:=Tryz.slices_Clone_int_zero a c w
  go_enter func141,ntmps141
  go_wp2_with (first
    | (go_at_call 83;refine hclone.mono ?_;rintro e w1 ⟨v1,rfl,hown,hnn,hbel⟩
       have hown':=hown
       obtain⟨g,cap,rfl,_,_,_,_,_,_⟩:=Lib.holds_of_ownsRow (enc:=Value.int .i64) (zs:=[]) hown hnn;have X:Aside (w1.ownsRow w.heap.size 3 1 (.slice (some ⟨g,0,none⟩) 0 cap) 0 []/\Below w.heap.size w w1):=⟨hown',hbel⟩
       clear hown hown' hbel hnn)
    | (go_at_call 205;refine(Tryz.slices_Sort_int_none _ _ _).mono ?_;rintro e w2 ⟨rfl,rfl⟩))
  go_ret
  exact⟨_,rfl,X.out.1,X.out.2⟩
set_option maxHeartbeats 2000000 in
set_option maxRecDepth 100000 in
theorem none(n c:Nat)(w:World):Calls prog 141 #[.slice none n c] w fun e w'=>e=.returned (.slice none 0 0)/\Below w.heap.size w w':=by
 go_enter func141,ntmps141
 go_wp2_with (first
  | (go_at_call 83;refine(Tryz.slices_Clone_int_nil n c _).mono ?_;rintro e w1 ⟨rfl,rfl⟩)
  | (go_at_call 205;refine(Tryz.slices_Sort_int_none _ _ _).mono ?_;rintro e w2 ⟨rfl,rfl⟩))
 go_ret
 exact⟨rfl,Below.refl _ _⟩
end Go.Proofs.YtchfmhhbiealcaaGreatDoor.sortedV
namespace Go.AM
open Go Go.Proofs Go.RowKit
open Go.Proofs.Tryz
theorem zG(l:List Int)(hl:l.length<=1000000):DC 141 [.d (ints l)] (.d (ints (cP l))):=by
 intro tok nt box nb;refine⟨gO.mk func141 rfl (by kernel_rfl),fun G w vals hm hr=>?_⟩;obtain⟨hlen,p8⟩:=hr
 match vals,hlen with
 | [v],_ =>
  have h0:=p8 0 (by simp) (by simp);simp only[cg] at h0;cases h0 with
  | d h0 =>
   obtain⟨A,cap,rfl,iq,iu,hA,hc⟩:=vJ h0;by_cases e:l=[]
   .subst e;have e0:cP []=[]:=by simp[cP]
    cases A with
    | none =>
     refine(YtchfmhhbiealcaaGreatDoor.sortedV.none _ cap w).mono ?_;rintro e w' ⟨rfl,hb⟩;exact⟨_,_,_,G,rfl,⟨rfl,rfl⟩,rfl,eV hm hb,.d (by rw[e0];exact .sl (es:=[]) (fun _ _=>default) (nr0 _) (by decide) (by simp) (by simp) (by simp) (by simp)),gL hm hb,fun k hk=>⟨hk,rfl⟩⟩
    | some a =>
     refine(YtchfmhhbiealcaaGreatDoor.sortedV.zero a cap w).mono ?_;rintro e w' ⟨v,rfl,ho,hb⟩;exact⟨_,_,_,G,rfl,⟨rfl,rfl⟩,rfl,eV hm hb,.d (by rw[e0];exact mH (xs:=[]) hm ho),gL hm hb,fun k hk=>⟨hk,rfl⟩⟩
   .obtain⟨a,rfl⟩:=hA e;have hp:0<l.length:=dg.2 e
    have qt:=hc a rfl
    have hs:a.spot=none:=by
     cases px:a.spot with
     | none=>rfl
     | some q =>
      exfalso
      have:=qt 0 hp
      simp only[World.cell?,Addr.add,px,Option.isSome_some,↓reduceIte] at this;split at this<;>simp at this
    obtain⟨b,off,sp⟩:=a;simp only at hs;subst hs;refine(YtchfmhhbiealcaaGreatDoor.sortedV.any b off l.length cap l w rfl (by omega) fun j hj=>?_).mono ?_
    .have h1:=qt j hj;unfold Addr.add at h1;split at h1
     .rename_i e;subst e;exact h1
     .exact h1
    .rintro e w' ⟨v,rfl,hown,hb⟩;have hl2:l.length=(cP l).length:=by simp[cP]
     rw[hl2] at hown;exact⟨v,_,_,G,rfl,⟨rfl,rfl⟩,rfl,eV hm hb,.d (mH hm hown),gL hm hb,fun k hk=>⟨hk,rfl⟩⟩
theorem aB4(k:List Int)(i:Nat):bC k (i+1)=bC k i++if (i:Int)∈k then [] else [(i:Int)]:=by
 unfold bC;rw[cu,dj,cw];by_cases h:(i:Int)∈k<;>simp[h]
theorem mK(k:List Int)(n:Nat):(bC k n).length<=n:=by
 unfold bC;rw[br];exact bz (di _ _) (by simp)
theorem wW{k:List Int}{n:Nat}:∀x∈bC k n,0<=x/\x<(n:Int):=fun x hx=>by
 unfold bC at hx;obtain⟨i,hi,rfl⟩:=bc.1 hx;have:=ba.1 (b8.1 hi).1
 omega
def aOC(l:List Int)(n:Nat)(nb:Nat)(box:Bxs)(x:Acc):AS:=⟨tl [(8,I x.i),(7,I n),(5,.osl 1 (rI (bC l x.i)) x.own),(0,.d (ints l))],lb nb box [],x.tok,x.nt⟩
theorem aAb(l:List Int)(hl:l.length<=1000000)(n:Nat)(hn:n<=1000000):DC 142 [.d (ints l),I n] (.d (ints (bC l n))):=by
 intro tok nt box nb;refine sI func142 ntmps142 fun Hb Ht=>?_
 repeat first|simp|refine sR ?_
 apply sN;refine sL (aOC l n nb box) (fun x=>x.i<=n/\TK tok nt x.tok x.nt [x.own]) (fun x=>n-x.i) ⟨0,.full,tok,nt⟩ ⟨ai _,(TK.start Ht).full⟩ (wM (nr0 _) rfl (by simp[ToL,lk,bC]) (by simp[aE,lk])) ?_;rintro⟨i,own,tok',nt'⟩ S ⟨hi,htk⟩ hS;simp only[aOC] at hS hi htk;subst hS;have hw:=sW (i:=i) (by omega);have hs:=aB4 l i;have ph:=mK l i;by_cases hlt:i<n
 .have c1:=bN l (i:Int) hl;try (simp[hlt])
  repeat ((first|refine sR ?_|apply sC|apply sX);simp[hlt])
  refine sD (c1 _ _) ?_;simp;by_cases e:(i:Int)∈l
  .rw[af e,c9] at hs;try (simp[e,hw])
   repeat ((first|refine sR ?_|apply sC|apply sX);simp[e,hw])
   apply sE;exact⟨⟨i+1,_,_,_⟩,⟨hlt,htk⟩,by simp only;omega,wM htk.le rfl (by simp[ToL,lk,hs]) (by simp[aE,lk])⟩
  .rw[ac e] at hs;try (simp[e])
   repeat ((first|refine sR ?_|apply sC|apply sX);simp[e])
   refine⟨⟨by omega,htk.live⟩,?_⟩;try (simp[hw])
   repeat ((first|refine sR ?_|apply sC|apply sX);simp[hw])
   apply sE;exact⟨⟨i+1,_,_,_⟩,⟨hlt,htk.app⟩,by simp only;omega,wM htk.app.le rfl (by simp[ToL,lk,hs]) (by simp[aE,lk])⟩
 .have:i=n:=by omega
  subst this;try (simp)
  repeat ((first|refine sR ?_|apply sC|apply sX);simp)
  refine sT (sG Hb Ht htk.old htk.le ?_);simp
def QEx(g:Gr)(p:Mo)(box:Bxs)(nb:Nat)(tok:Tks)(nt:Nat)(v:AV)(m:bF):Prop :=
 ∃o1 o2 tok' nt',v=.tup [.agg [.osl 1 (rI (exG g p).nodes) o1,.osl 3 (rE (exG g p).edges) o2],p.av,I 0]/\m=⟨box,nb,tok',nt'⟩/\TK tok nt tok' nt' [o1,o2]
def aLf(g:Gr)(p:Mo)(kp:Own)(nb:Nat)(box:Bxs)(x:Acc):AS :=
 ⟨tl [(43,I x.i),(42,I p.edges.length),(41,.d (ints p.edges)),(8,.ptr (nb+8) 0 0),(5,.ptr (nb+5) 0 0),(4,.ptr (nb+4) 0 0),(3,.ptr (nb+3) 0 0),(2,.ptr (nb+2) 0 0)],
  lb nb box [(8,[[.osl 1 (rI (iH g p p.nodes.length)) kp,.osl 3 (rE (jZ g p x.i)) x.own]]),(3,[[.d (ints p.nodes),.d (ints p.edges)]]),(2,[[.d (ints g.nodes),.d (AM.edges g.edges)]]),(5,[[dL,dL]]),(4,[[dL,dL]])],x.tok,x.nt⟩
theorem aDG(g:Gr)(p:Mo)(hg:g.Fit)(hp:p.Fit)(h:VP g p)(box:Bxs)(nb:Nat)(tok:Tks)(nt:Nat):aC prog 69 [g.av,p.av] ⟨box,nb,tok,nt⟩ (QEx g p box nb tok nt):=by
 have h1:=pV g p hg hp;rw[h.v] at h1;refine sI func69 ntmps69 fun Hb Ht=>?_
 repeat first|simp|refine sR ?_
 refine sD (h1 _ _) ?_;repeat first|simp|refine sR ?_
 apply sC;repeat first|simp|refine sR ?_
 apply sN;have v6:=hp.n;have s8:=hp.e;refine sL (aFk g p nb box) (fun x=>x.i<=p.nodes.length/\TK tok nt x.tok x.nt [x.own]) (fun x=>p.nodes.length-x.i) ⟨0,.full,tok,nt⟩ ⟨ai _,(TK.start Ht).full⟩ (wM (nr0 _) rfl (by simp[ToL,lk]) (by simp[aE,lk,kZ])) ?_;rintro⟨i,own,tok',nt'⟩ S ⟨hi,htk⟩ hS;simp only[aFk] at hS hi htk;subst hS;have hw:=sW (i:=i) (by omega);repeat first|simp|refine sR ?_|apply sC
 refine⟨fun hlt=>?_,fun hge=>?_⟩
 .obtain⟨r1,r2⟩:=h.n _ (aa hlt);have r3:p.nodes[i].toNat<g.nodes.length:=by omega
  repeat first|simp[hlt,r1,r2,r3]|refine sR ?_
  refine⟨⟨by have:=nN g p i;omega,htk.live⟩,?_⟩;repeat first|simp[hw]|refine sR ?_
  apply sE;exact⟨⟨i+1,_,_,_⟩,⟨hlt,htk.app⟩,by simp only;omega,wM htk.app.le rfl (by simp[ToL,lk]) (by simp[aE,lk,kW g p hlt,r3])⟩
 .apply sX;simp only[AU,↓reduceIte];have:i=p.nodes.length:=by omega
  subst this;repeat first|simp|refine sR ?_
  apply sN;refine sL (aLf g p own nb box) (fun x=>x.i<=p.edges.length/\TK tok nt x.tok x.nt [x.own,own]) (fun x=>p.edges.length-x.i) ⟨0,.full,tok',nt'⟩ ⟨ai _,htk.full⟩ (wM htk.le rfl (by simp[ToL,lk]) (by simp[aE,lk,kR])) ?_;rintro⟨i,ie,ib,io⟩ S ⟨hi,gw⟩ hS;simp only[aLf] at hS hi gw;subst hS;have hw:=sW (i:=i) (by omega);have hh:=fun v=>vB p.nodes v hp.n h.sn
  repeat first|simp|refine sR ?_|apply sC
  refine⟨fun hlt=>?_,fun hge=>?_⟩
  .obtain⟨r1,r2⟩:=h.e _ (aa hlt);have r3:p.edges[i].toNat<g.edges.length:=by omega
   have hE:qQ g p p.edges[i]=⟨g.edges[p.edges[i].toNat].ty,aQ p.nodes g.edges[p.edges[i].toNat].fr,aQ p.nodes g.edges[p.edges[i].toNat].to⟩:=by
    have q2:g.edges.getD p.edges[i].toNat default=g.edges[p.edges[i].toNat]:=by simp[r3]
    rw[qQ,q2]
   have kc:=kQ g p hlt;rw[hE] at kc;have hcc:=h.c _ (aa hlt);have q3:g.edges.getD p.edges[i].toNat default=g.edges[p.edges[i].toNat]:=by simp[r3]
   rw[q3] at hcc;have A3:=hh g.edges[p.edges[i].toNat].fr;have uj:=hh g.edges[p.edges[i].toNat].to;rw[kS h.sn hcc.1] at A3;rw[kS h.sn hcc.2] at uj;refine sR ?_;simp[hlt];refine sR ?_;simp[r1,r2,r3];generalize g.edges[p.edges[i].toNat]=x at *;repeat first|simp|refine sR ?_
   refine sD (A3 _ _) ?_;repeat first|simp|refine sR ?_
   refine sD (uj _ _) ?_;repeat first|simp|refine sR ?_
   refine⟨⟨by have:=nI g p i;omega,gw.live⟩,?_⟩;repeat first|simp[hw]|refine sR ?_
   apply sE;exact⟨⟨i+1,_,_,_⟩,⟨hlt,gw.app⟩,by simp only;omega,wM gw.app.le rfl (by simp[ToL,lk]) (by simp[aE,lk,kc])⟩
  .apply sX;simp only[AU,↓reduceIte];have:i=p.edges.length:=by omega
   subst this;have c1:=gG p.nodes hp.n;have c2:=gG p.edges hp.e;have hG:=aAE g p;repeat first|simp|refine sR ?_
   refine sD (c1 _ _) ?_;repeat first|simp|refine sR ?_
   refine sD (c2 _ _) ?_;simp;have ig:=(gw.full.app.full.app).tail.tail.swap;repeat first|simp|refine sR ?_
   refine sT ?_;try simp only[AU]
   refine⟨by simp,(Fin.gen (av:=.tup [.agg [.osl 1 (rI (exG g p).nodes) own,.osl 3 (rE (exG g p).edges) ie],p.av,I 0]) (by simp[aV,bQ];rfl) Hb ig.le (nr0 _) (fun t h=>⟨h,.inl rfl⟩) (fun k rows _ h=>.inl h) (by simp[hG])).mono fun v m hq=>⟨own,ie,_,_,hq.1,hq.2,ig⟩⟩
structure Lyr (nl nr ng nh:Nat) (m n:Nat->Nat) (K F:Nat->Nat->Prop):Prop where
 f1:∀b c c',F b c->F b c'->c=c'
 f2:∀b b' c,F b c->F b' c->b=b'
 d:∀b,b<ng->((∃c,F b c)↔¬∃a,a<nl/\m a=b/\¬∃a',K a a')
 r:∀c,c<nh->((∃b,F b c)↔¬∃a,a<nr/\n a=c/\¬∃a',K a' a)
 k:∀a a',K a a'->F (m a) (n a')
 fr:∀b c,F b c->b<ng/\c<nh
 kr:∀a a',K a a'->a<nl/\a'<nr
 mr:∀a,a<nl->m a<ng
 nr':∀a,a<nr->n a<nh
 mi:∀a a',a<nl->a'<nl->m a=m a'->a=a'
 ni:∀a a',a<nr->a'<nr->n a=n a'->a=a'
theorem Lyr.symm{nl nr ng nh:Nat}{m n:Nat->Nat}{K F:Nat->Nat->Prop}(h:Lyr nl nr ng nh m n K F):Lyr nr nl nh ng n m (fun a b=>K b a) (fun a b=>F b a) :=
 ⟨fun b c c' h1 h2=>h.f2 _ _ _ h1 h2,fun b b' c h1 h2=>h.f1 _ _ _ h1 h2,h.r,h.d,fun a a' hk=>h.k _ _ hk,fun b c hf=>(h.fr _ _ hf).symm,fun a a' hk=>(h.kr _ _ hk).symm,h.nr',h.mr,h.ni,h.mi⟩
def tO(nr:Nat)(a n q':Nat->Nat)(K J F:Nat->Nat->Prop)(v w:Nat):Prop:=(∃u,J u v/\F (q' u) w)∨∃b,b<nr/\a b=v/\(¬∃b0,K b0 b)/\n b=w
section
variable {nl nr ny nx ng nh:Nat} {p a m n q':Nat->Nat} {K J F:Nat->Nat->Prop}
theorem aCP(h1:Lyr nl nr ny nx p a K J)(h2:Lyr nl nr ng nh m n K F)(hr:∀u,u<ny->q' u<ng)(hi:∀u u',u<ny->u'<ny->q' u=q' u'->u=u')(hp:∀b,b<nl->q' (p b)=m b){u v:Nat}(hj:J u v):∃w,F (q' u) w:=by
 obtain⟨u1,v1⟩:=h1.fr _ _ hj;rw[h2.d _ (hr _ u1)];rintro⟨b,hb,e,hk⟩;have e2:u=p b:=hi _ _ u1 (h1.mr _ hb) (by rw[hp _ hb,e])
 exact(h1.d _ u1).1 ⟨v,hj⟩ ⟨b,hb,e2.symm,hk⟩
theorem aFl(h1:Lyr nl nr ny nx p a K J)(h2:Lyr nl nr ng nh m n K F)(hr:∀u,u<ny->q' u<ng)(hi:∀u u',u<ny->u'<ny->q' u=q' u'->u=u')(hp:∀b,b<nl->q' (p b)=m b){v:Nat}(hv:v<nx):∃w,tO nr a n q' K J F v w:=by
 by_cases h:∃u,J u v
 .obtain⟨u,hu⟩:=h;obtain⟨w,hw⟩:=aCP h1 h2 hr hi hp hu;exact⟨w,.inl ⟨u,hu,hw⟩⟩
 .have h3:∃a0,a0<nr/\a a0=v/\¬∃a',K a' a0:=dq fun hc=>h ((h1.r _ hv).2 hc)
  obtain⟨b,hb,e,hk⟩:=h3;exact⟨n b,.inr ⟨b,hb,e,hk,rfl⟩⟩
theorem aB0(h1:Lyr nl nr ny nx p a K J){v u b:Nat}(hj:J u v)(hb:b<nr)(e:a b=v)(hk:¬∃b0,K b0 b):False :=
 (h1.r _ (h1.fr _ _ hj).2).1 ⟨u,hj⟩ ⟨b,hb,e,hk⟩
theorem kK(h1:Lyr nl nr ny nx p a K J)(h2:Lyr nl nr ng nh m n K F){v w w':Nat}(k1:tO nr a n q' K J F v w)(k2:tO nr a n q' K J F v w'):w=w':=by
 rcases k1 with ⟨u,j,f⟩|⟨b,hb,e,hk,hw⟩<;>rcases k2 with ⟨u',j',f'⟩|⟨b',hb',e',jl,qz⟩
 .have:=h1.f2 _ _ _ j j'
  subst this;exact h2.f1 _ _ _ f f'
 .exact(aB0 h1 j hb' e' jl).elim
 .exact(aB0 h1 j' hb e hk).elim
 .have:=h1.ni _ _ hb hb' (by rw[e,e'])
  subst this;rw[<-hw,<-qz]
theorem aH7(h1:Lyr nl nr ny nx p a K J)(h2:Lyr nl nr ng nh m n K F)(hi:∀u u',u<ny->u'<ny->q' u=q' u'->u=u'){v v' w:Nat}(k1:tO nr a n q' K J F v w)(k2:tO nr a n q' K J F v' w):v=v':=by
 have key:∀u b,F (q' u) w->b<nr->(¬∃b0,K b0 b)->n b=w->False:=fun u b f hb hk hw =>
  (h2.r _ (h2.fr _ _ f).2).1 ⟨_,f⟩ ⟨b,hb,hw,hk⟩
 rcases k1 with ⟨u,j,f⟩|⟨b,hb,e,hk,hw⟩<;>rcases k2 with ⟨u',j',f'⟩|⟨b',hb',e',jl,qz⟩
 .have e:=h2.f2 _ _ _ f f';have:=hi _ _ (h1.fr _ _ j).1 (h1.fr _ _ j').1 e
  subst this;exact h1.f1 _ _ _ j j'
 .exact(key _ _ f hb' jl qz).elim
 .exact(key _ _ f' hb hk hw).elim
 .have:=h2.ni _ _ hb hb' (by rw[hw,qz])
  subst this;rw[<-e,<-e']
theorem aAP(h1:Lyr nl nr ny nx p a K J)(h2:Lyr nl nr ng nh m n K F)(hp:∀b,b<nl->q' (p b)=m b){b:Nat}(hb:b<nr):tO nr a n q' K J F (a b) (n b):=by
 by_cases h:∃b0,K b0 b
 .obtain⟨b0,hk⟩:=h;refine .inl ⟨p b0,h1.k _ _ hk,?_⟩;rw[hp _ (h1.kr _ _ hk).1];exact h2.k _ _ hk
 .exact .inr ⟨b,hb,rfl,h,rfl⟩
theorem aIi(h2:Lyr nl nr ng nh m n K F){v w:Nat}(k:tO nr a n q' K J F v w):w<nh:=by
 rcases k with ⟨u,j,f⟩|⟨b,hb,e,hk,hw⟩
 .exact(h2.fr _ _ f).2
 .rw[<-hw];exact h2.nr' _ hb
theorem aCt(h1:Lyr nl nr ny nx p a K J)(h2:Lyr nl nr ng nh m n K F)(hr:∀u,u<ny->q' u<ng)(hi:∀u u',u<ny->u'<ny->q' u=q' u'->u=u')(hp:∀b,b<nl->q' (p b)=m b){q:Nat->Nat}(hq:∀v,v<nx->tO nr a n q' K J F v (q v)):Lyr ny nx ng nh q' q J F:=by
 have CZ:∀b,b<nr->q (a b)=n b:=fun b hb=>kK h1 h2 (hq _ (h1.nr' _ hb)) (aAP h1 h2 hp hb)
 refine⟨h2.f1,h2.f2,fun b hb=>?_,fun c hc=>?_,fun u v j=>?_,h2.fr,h1.fr,hr,fun v hv=>aIi h2 (hq v hv),hi,fun v v' hv DL e=>aH7 h1 h2 hi (hq v hv) (by rw[e];exact hq v' DL)⟩
 .rw[h2.d b hb];refine not_congr ?_;constructor
  .rintro⟨c,hc,e,hk⟩;exact⟨p c,h1.mr _ hc,by rw[hp _ hc,e],fun hj=>(h1.d _ (h1.mr _ hc)).1 hj ⟨c,hc,rfl,hk⟩⟩
  .rintro⟨u,hu,e,hj⟩;have h3:∃a,a<nl/\p a=u/\¬∃a',K a a':=dq fun hc=>hj ((h1.d _ hu).2 hc)
   obtain⟨c,hc,e2,hk⟩:=h3;exact⟨c,hc,by rw[<-hp _ hc,e2,e],hk⟩
 .rw[h2.r c hc];refine not_congr ?_;constructor
  .rintro⟨b,hb,e,hk⟩;exact⟨a b,h1.nr' _ hb,by rw[CZ _ hb,e],fun hj=>(h1.r _ (h1.nr' _ hb)).1 hj ⟨b,hb,rfl,hk⟩⟩
  .rintro⟨v,hv,e,hj⟩;have h3:∃b,b<nr/\a b=v/\¬∃a',K a' b:=dq fun hc=>hj ((h1.r _ hv).2 hc)
   obtain⟨b,hb,e2,hk⟩:=h3;exact⟨b,hb,by rw[<-CZ _ hb,e2,e],hk⟩
 .obtain⟨w,hw⟩:=aCP h1 h2 hr hi hp j;have:=kK h1 h2 (hq v (h1.fr _ _ j).2) (.inl ⟨u,j,hw⟩)
  rw[this];exact hw
end
def atN(l:List Int)(i:Nat):Nat:=(l.getD i 0).toNat
theorem jI{l:List Int}{n i:Nat}(hr:∀x∈l,0<=x/\x<n)(hi:i<l.length):((atN l i:Nat):Int)=l.getD i 0/\atN l i<n:=by
 have:=hr _ (aO (d:=0) hi)
 unfold atN;omega
theorem aBq{l:List Int}{n i j:Nat}(hn:l.Nodup)(hr:∀x∈l,0<=x/\x<n)(hi:i<l.length)(hj:j<l.length)(e:atN l i=atN l j):i=j:=by
 have h1:=jI hr hi;have h2:=jI hr hj;exact nC hn hi hj (by rw[<-h1.1,<-h2.1,e])
theorem uF{l h:List Int}{i:Nat}(hi:i<l.length):atN (byK l h l.length) i=atN h (atN l i):=by
 unfold atN;rw[mO hi]
structure Stp (l r g h:Gr) (m n:Mo) (KN KE FN FE:Nat->Nat->Prop):Prop where
 em:Emb l g m
 en:Emb r h n
 ln:Lyr l.nodes.length r.nodes.length g.nodes.length h.nodes.length (atN m.nodes) (atN n.nodes) KN FN
 le:Lyr l.edges.length r.edges.length g.edges.length h.edges.length (atN m.edges) (atN n.edges) KE FE
 ty:∀b c,FN b c->g.nodes.getD b 0=h.nodes.getD c 0
 te:∀e f,FE e f->(g.edges.getD e default).ty=(h.edges.getD f default).ty/\FN (g.edges.getD e default).fr.toNat (h.edges.getD f default).fr.toNat/\FN (g.edges.getD e default).to.toNat (h.edges.getD f default).to.toNat
theorem Stp.symm{l r g h:Gr}{m n:Mo}{KN KE FN FE:Nat->Nat->Prop}(s:Stp l r g h m n KN KE FN FE):Stp r l h g n m (fun a b=>KN b a) (fun a b=>KE b a) (fun a b=>FN b a) (fun a b=>FE b a) :=
 ⟨s.en,s.em,s.ln.symm,s.le.symm,fun b c hf=>(s.ty _ _ hf).symm,fun e f hf=>have:=s.te _ _ hf;⟨this.1.symm,this.2⟩⟩
theorem Emb.at{a b:Gr}{m:Mo}(h:Emb a b m){i:Nat}(hi:i<a.nodes.length):((atN m.nodes i:Nat):Int)=m.nodes.getD i 0/\atN m.nodes i<b.nodes.length:=jI h.vm.n (by rw[h.vm.ln];exact hi)
theorem Emb.atE{a b:Gr}{m:Mo}(h:Emb a b m){i:Nat}(hi:i<a.edges.length):((atN m.edges i:Nat):Int)=m.edges.getD i 0/\atN m.edges i<b.edges.length:=jI h.vm.e (by rw[h.vm.le];exact hi)
theorem Emb.an{a b:Gr}{m:Mo}(h:Emb a b m){i:Nat}(hi:i<a.nodes.length):b.nodes.getD (atN m.nodes i) 0=a.nodes.getD i 0:=h.vm.nt i hi
theorem Emb.ae{a b:Gr}{m:Mo}(h:Emb a b m){i:Nat}(hi:i<a.edges.length):(b.edges.getD (atN m.edges i) default).ty=(a.edges.getD i default).ty/\(b.edges.getD (atN m.edges i) default).fr.toNat=atN m.nodes (a.edges.getD i default).fr.toNat/\(b.edges.getD (atN m.edges i) default).to.toNat=atN m.nodes (a.edges.getD i default).to.toNat:=by
 have:=h.vm.et i hi
 unfold atN;rw[this];exact⟨rfl,rfl,rfl⟩
theorem Emb.ends{a b:Gr}{m:Mo}(h:Emb a b m){i:Nat}(hi:i<a.edges.length):(0<=(a.edges.getD i default).fr/\(a.edges.getD i default).fr.toNat<a.nodes.length)/\0<=(a.edges.getD i default).to/\(a.edges.getD i default).to.toNat<a.nodes.length:=by
 have:=aD h.vm.va _ (aO (d:=default) hi)
 omega
theorem aMr{a b:Gr}(va:vG a=0)(vb:vG b=0){f e:Nat->Nat}(fr:∀i,i<a.nodes.length->f i<b.nodes.length)(er:∀i,i<a.edges.length->e i<b.edges.length)(fi:∀i j,i<a.nodes.length->j<a.nodes.length->f i=f j->i=j)(ei:∀i j,i<a.edges.length->j<a.edges.length->e i=e j->i=j)(ft:∀i,i<a.nodes.length->b.nodes.getD (f i) 0=a.nodes.getD i 0)(et:∀i,i<a.edges.length->(b.edges.getD (e i) default).ty=(a.edges.getD i default).ty/\(b.edges.getD (e i) default).fr.toNat=f (a.edges.getD i default).fr.toNat/\(b.edges.getD (e i) default).to.toNat=f (a.edges.getD i default).to.toNat):
  ∃q,Emb a b q/\(∀i,i<a.nodes.length->atN q.nodes i=f i)/\∀i,i<a.edges.length->atN q.edges i=e i:=by
 have g1:∀(f:Nat->Nat) n i,i<n->((List.range n).map fun k=>((f k:Nat):Int)).getD i 0=f i:=fun f n i h=>by simp[h]
 have nd:∀(f:Nat->Nat) n,(∀i j,i<n->j<n->f i=f j->i=j)->((List.range n).map fun k=>((f k:Nat):Int)).Nodup:=fun f n h=>by
  rw[iI];intro i j pg hj;have mh:j<n:=by simpa using hj
  rw[g1 f n i (by omega),g1 f n j mh];intro e;have:=h i j (by omega) mh (by omega)
  omega
 refine⟨⟨(List.range a.nodes.length).map fun k=>((f k:Nat):Int),(List.range a.edges.length).map fun k=>((e k:Nat):Int)⟩,⟨nR ⟨va,vb,by simp,by simp,fun x hx=>?_,fun x hx=>?_,fun i hi=>?_,fun i hi=>?_⟩,nd _ _ fi,nd _ _ ei⟩,fun i hi=>?_,fun i hi=>?_⟩
 .obtain⟨k,hk,rfl⟩:=bc.1 hx;have:=fr k (ba.1 hk)
  omega
 .obtain⟨k,hk,rfl⟩:=bc.1 hx;have:=er k (ba.1 hk)
  omega
 .rw[g1 f _ i hi,bv];exact ft i hi
 .have hx:=aD va _ (aO (d:=default) hi);have hy:=aD vb _ (aO (d:=default) (er i hi));obtain⟨t1,t2,t3⟩:=et i hi;simp only;rw[g1 e _ i hi,bv,g1 f _ _ (by omega),g1 f _ _ (by omega)];generalize b.edges.getD (e i) default=be at *;cases be;simp only at t1 t2 t3 hy ⊢;rw[E.mk.injEq];exact⟨t1,by omega,by omega⟩
 .unfold atN;rw[g1 f _ i hi,bv]
 .unfold atN;rw[g1 e _ i hi,bv]
theorem aMu{a b:Gr}{q q':Mo}(h:Emb a b q)(h':Emb a b q')(hn:∀i,i<a.nodes.length->atN q.nodes i=atN q'.nodes i)(he:∀i,i<a.edges.length->atN q.edges i=atN q'.edges i):q=q':=by
 have l1:=h.vm.ln;have l2:=h'.vm.ln;have l3:=h.vm.le;have l4:=h'.vm.le;have e1:q.nodes=q'.nodes:=aB2 (by omega) fun j hj=>by
  rw[<-(h.at (by omega)).1,<-(h'.at (by omega)).1,hn j (by omega)]
 have e2:q.edges=q'.edges:=aB2 (by omega) fun j hj=>by
  rw[<-(h.atE (by omega)).1,<-(h'.atE (by omega)).1,he j (by omega)]
 cases q;cases q'
 simp only at e1 e2;rw[e1,e2]
theorem Stp.ext{l r y x g h:Gr}{p a m n q':Mo}{KN KE JN JE FN FE:Nat->Nat->Prop}(s1:Stp l r y x p a KN KE JN JE)(s2:Stp l r g h m n KN KE FN FE)(hq:Emb y g q')(hp:oJ p q'=m):
  ∃q,Emb x h q/\oJ a q=n/\Stp y x g h q' q JN JE FN FE:=by
 have pn:∀b,b<l.nodes.length->atN q'.nodes (atN p.nodes b)=atN m.nodes b:=fun b hb=>by
  rw[<-hp];exact(uF (by rw[s1.em.vm.ln];exact hb)).symm
 have pe:∀b,b<l.edges.length->atN q'.edges (atN p.edges b)=atN m.edges b:=fun b hb=>by
  rw[<-hp];exact(uF (by rw[s1.em.vm.le];exact hb)).symm
 have rn:∀u,u<y.nodes.length->atN q'.nodes u<g.nodes.length:=fun u hu=>(hq.at hu).2
 have re:∀u,u<y.edges.length->atN q'.edges u<g.edges.length:=fun u hu=>(hq.atE hu).2
 have jn:∀u u',u<y.nodes.length->u'<y.nodes.length->atN q'.nodes u=atN q'.nodes u'->u=u':=fun u u' hu vg e=>aBq hq.n hq.vm.n (by rw[hq.vm.ln];exact hu) (by rw[hq.vm.ln];exact vg) e
 have je:∀u u',u<y.edges.length->u'<y.edges.length->atN q'.edges u=atN q'.edges u'->u=u':=fun u u' hu vg e=>aBq hq.e hq.vm.e (by rw[hq.vm.le];exact hu) (by rw[hq.vm.le];exact vg) e
 have exN:∀v,v<x.nodes.length->∃w,tO r.nodes.length (atN a.nodes) (atN n.nodes) (atN q'.nodes) KN JN FN v w:=fun v hv=>aFl s1.ln s2.ln rn jn pn hv
 have exE:∀v,v<x.edges.length->∃w,tO r.edges.length (atN a.edges) (atN n.edges) (atN q'.edges) KE JE FE v w:=fun v hv=>aFl s1.le s2.le re je pe hv
 obtain⟨f,hf⟩:∃f:Nat->Nat,∀v,v<x.nodes.length->tO r.nodes.length (atN a.nodes) (atN n.nodes) (atN q'.nodes) KN JN FN v (f v):=by
  classical
  exact⟨fun v=>if hv:v<x.nodes.length then Classical.choose (exN v hv) else 0,fun v hv=>by simp only[hv,dif_pos];exact Classical.choose_spec (exN v hv)⟩
 obtain⟨e,he⟩:∃e:Nat->Nat,∀v,v<x.edges.length->tO r.edges.length (atN a.edges) (atN n.edges) (atN q'.edges) KE JE FE v (e v):=by
  classical
  exact⟨fun v=>if hv:v<x.edges.length then Classical.choose (exE v hv) else 0,fun v hv=>by simp only[hv,dif_pos];exact Classical.choose_spec (exE v hv)⟩
 have ln:=aCt s1.ln s2.ln rn jn pn hf;have le:=aCt s1.le s2.le re je pe he;have fa:∀b,b<r.nodes.length->f (atN a.nodes b)=atN n.nodes b:=fun b hb=>kK s1.ln s2.ln (hf _ (s1.ln.nr' _ hb)) (aAP s1.ln s2.ln pn hb)
 have ea:∀b,b<r.edges.length->e (atN a.edges b)=atN n.edges b:=fun b hb=>kK s1.le s2.le (he _ (s1.le.nr' _ hb)) (aAP s1.le s2.le pe hb)
 obtain⟨q,q1,q2,q3⟩:=aMr (a:=x) (b:=h) (f:=f) (e:=e) s1.en.vm.vb s2.en.vm.vb ln.nr' le.nr' ln.ni le.ni (fun v hv=>by
   rcases hf v hv with ⟨u,j,k⟩|⟨b,hb,e1,_,e2⟩
   .rw[<-s2.ty _ _ k,<-s1.ty _ _ j];exact hq.an (s1.ln.fr _ _ j).1
   .rw[<-e2,<-e1,s2.en.an hb,s1.en.an hb]) (fun v hv=>by
   rcases he v hv with ⟨u,j,k⟩|⟨b,hb,e1,_,e2⟩
   .obtain⟨j1,j2,j3⟩:=s1.te _ _ j;obtain⟨k1,k2,k3⟩:=s2.te _ _ k;have hu:=(s1.le.fr _ _ j).1;obtain⟨a1,a2,a3⟩:=hq.ae hu;rw[a2] at k2;rw[a3] at k3;refine⟨by rw[<-k1,a1,j1],?_,?_⟩
    .exact kK s1.ln s2.ln (.inl ⟨_,j2,k2⟩) (hf _ (s1.ln.fr _ _ j2).2)
    .exact kK s1.ln s2.ln (.inl ⟨_,j3,k3⟩) (hf _ (s1.ln.fr _ _ j3).2)
   .obtain⟨a1,a2,a3⟩:=s1.en.ae hb;obtain⟨b1,b2,b3⟩:=s2.en.ae hb;obtain⟨c1,c2⟩:=s1.en.ends hb;rw[<-e2,<-e1,a1,a2,a3,b1,b2,b3,fa _ c1.2,fa _ c2.2];exact⟨rfl,rfl,rfl⟩)
 have hc:oJ a q=n:=aMu (s1.en.comp q1) s2.en (fun i hi=>by
   show atN (byK a.nodes q.nodes a.nodes.length) i=_
   rw[uF (by rw[s1.en.vm.ln];exact hi),q2 _ (s1.ln.nr' _ hi),fa _ hi]) (fun i hi=>by
   show atN (byK a.edges q.edges a.edges.length) i=_
   rw[uF (by rw[s1.en.vm.le];exact hi),q3 _ (s1.le.nr' _ hi),ea _ hi])
 have cong:∀{n1 n2 n3 n4:Nat} {m f f':Nat->Nat} {K F:Nat->Nat->Prop},Lyr n1 n2 n3 n4 m f K F->(∀i,i<n2->f' i=f i)->Lyr n1 n2 n3 n4 m f' K F:=fun h e =>
  ⟨h.f1,h.f2,h.d,fun c hc=>by
   rw[h.r c hc];exact not_congr <| exists_congr fun a=>and_congr_right fun ha=>by rw[e a ha],fun a a' k=>by rw[e _ (h.kr _ _ k).2];exact h.k _ _ k,h.fr,h.kr,h.mr,fun a ha=>by rw[e a ha];exact h.nr' a ha,h.mi,fun a a' ha wj k=>by rw[e a ha,e a' wj] at k;exact h.ni _ _ ha wj k⟩
 exact⟨q,q1,hc,hq,q1,cong ln q2,cong le q3,s2.ty,s2.te⟩
theorem aCH{n nr na:Nat}{images keep:List Int}{i:Nat->Nat}(hl:images.length=nr)(hr:∀x∈images,0<=x/\x<n)(hk:∀a,a<nr->((a:Int)∈keep↔∃j,j<na/\i j=a)):
  ∀v,v<n->((∃z,z<(fX n images keep).length/\atN (fX n images keep) z=v)↔¬∃a,a<nr/\atN images a=v/\¬∃j,j<na/\i j=a):=fun v hv=>by
 have e1:(∃z,z<(fX n images keep).length/\atN (fX n images keep) z=v)↔(v:Int)∈fX n images keep:=by
  constructor
  .rintro⟨z,z1,z2⟩;have h1:=aO (d:=0) z1;have h2:=(eA.1 h1).1;have:(v:Int)=(fX n images keep).getD z 0:=by rw[<-z2];unfold atN;omega
   rw[this];exact h1
  .intro h;obtain⟨z,z1,z2⟩:=eK h;exact⟨z,z1,by unfold atN;rw[z2];rfl⟩
 rw[e1,eA];constructor
 .rintro⟨_,h⟩ ⟨a,a1,a2,a3⟩;refine h (nO.2 ⟨a,by omega,fun hc=>a3 ((hk a a1).1 hc),?_⟩);have:=hr _ (aO (d:=0) (show a<images.length by omega))
  rw[<-a2];unfold atN;omega
 .intro h;refine⟨⟨by omega,by omega⟩,fun hg=>?_⟩;obtain⟨a,a1,a2,a3⟩:=nO.1 hg;exact h ⟨a,by omega,by unfold atN;rw[a3];rfl,fun hc=>a2 ((hk a (by omega)).2 hc)⟩
theorem aG1{a0 r:Gr}{i:Mo}(hi:Emb a0 r i):(∀a,a<r.nodes.length->((a:Int)∈(xZ r i).nodes↔∃j,j<a0.nodes.length/\atN i.nodes j=a))/\∀a,a<r.edges.length->((a:Int)∈(xZ r i).edges↔∃j,j<a0.edges.length/\atN i.edges j=a):=by
 have key:∀(l:List Int) (n m:Nat),l.length=m->(∀x∈l,0<=x/\x<n)->∀a,a<n->((a:Int)∈lR l n↔∃j,j<m/\atN l j=a):=fun l n m hl hr a ha=>by
  rw[iM];constructor
  .rintro⟨h,_⟩;obtain⟨j,j1,j2⟩:=eK h;exact⟨j,by omega,by unfold atN;rw[j2];rfl⟩
  .rintro⟨j,j1,j2⟩;have h1:=aO (d:=0) (show j<l.length by omega);have h2:=hr _ h1;have:(a:Int)=l.getD j 0:=by rw[<-j2];unfold atN;omega
   rw[this];exact⟨h1,by omega,by omega⟩
 exact⟨key _ _ _ hi.vm.ln hi.vm.n,key _ _ _ hi.vm.le hi.vm.e⟩
def gwN(ns cs:List Int)(i:Nat):List Int:=((cs.take i).drop 1).foldl (fun s c=>if c % 2=1 then s++[c / 2 % 3] else s) ns
def gwE(n:Nat)(es:List E)(cs:List Int)(i:Nat):List E:=((cs.take i).drop 4).foldl (fun s c=>s++[⟨c % 2,c / 2 % n,c / 16 % n⟩]) es
theorem zX{l:List Int}{i k:Nat}(h:i<l.length)(hk:k<=i):(l.take (i+1)).drop k=(l.take i).drop k++[l[i]]:=by
 rw[ah h,List.drop_append_of_le_length (by simp;omega)]
theorem aGY{ns cs:List Int}{i:Nat}(h:i<cs.length)(h1:1<=i):gwN ns cs (i+1)=if cs[i] % 2=1 then gwN ns cs i++[cs[i] / 2 % 3] else gwN ns cs i:=by
 rw[gwN,zX h h1,fc];rfl
theorem aHf{n:Nat}{es:List E}{cs:List Int}{i:Nat}(h:i<cs.length)(h1:4<=i):gwE n es cs (i+1)=gwE n es cs i++[⟨cs[i] % 2,cs[i] / 2 % n,cs[i] / 16 % n⟩]:=by
 rw[gwE,zX h h1,fc];rfl
def gwG(g:Gr)(cs:List Int):Gr :=
 ⟨gwN g.nodes cs (min cs.length 4),if (gwN g.nodes cs (min cs.length 4)).length=0 then g.edges else gwE (gwN g.nodes cs (min cs.length 4)).length g.edges cs (min cs.length 8)⟩
def mkL(b:Nat->Bool)(n:Nat):List Int:=((List.range n).filter b).map fun (k:Nat)=>(k:Int)
theorem uI{b:Nat->Bool}{n:Nat}{x:Int}:x∈mkL b n↔∃k:Nat,k<n/\b k=true/\(k:Int)=x:=by
 simp only[mkL,bc,b8,ba];constructor
 .rintro⟨k,⟨h1,h2⟩,h3⟩;exact⟨k,h1,h2,h3⟩
 .rintro⟨k,h1,h2,h3⟩;exact⟨k,⟨h1,h2⟩,h3⟩
theorem aIL(b:Nat->Bool)(n:Nat):(mkL b n).Pairwise (· < ·):=by
 unfold mkL;rw[List.pairwise_map];refine List.Pairwise.filter _ (List.Pairwise.imp (R:=(· < ·)) (fun h=>by omega) f7)
def lsN(g:Gr)(bn be:Nat->Bool)(i k:Nat):Bool:=bn k||(List.range i).any fun (j:Nat)=>be j&&(decide ((g.edges.getD j default).fr=(k:Int))||decide ((g.edges.getD j default).to=(k:Int)))
def aNP(g:Gr)(bn be:Nat->Bool):Mo:=⟨mkL (lsN g bn be g.edges.length) g.nodes.length,mkL be g.edges.length⟩
theorem aKA{g:Gr}{bn be:Nat->Bool}(hv:vG g=0):VP g (aNP g bn be):=by
 refine⟨hv,fun x hx=>?_,fun x hx=>?_,jL (aIL _ _),jL (aIL _ _),fun x hx=>?_⟩
 .obtain⟨k,hk,_,rfl⟩:=uI.1 hx;omega
 .obtain⟨k,hk,_,rfl⟩:=uI.1 hx;omega
 .obtain⟨k,hk,hb,rfl⟩:=uI.1 hx;obtain⟨b1,b2,b3,b4⟩:=aD hv (g.edges.getD k default) (aO hk);have key:∀y:Int,0<=y->y<g.nodes.length->((g.edges.getD k default).fr=y∨(g.edges.getD k default).to=y)->y∈mkL (lsN g bn be g.edges.length) g.nodes.length:=fun y h0 h1 h=>by
   refine uI.2 ⟨y.toNat,by omega,?_,by omega⟩;unfold lsN;rw[ek,dv];refine .inr ⟨k,ba.2 hk,?_⟩;rw[hb,show ((y.toNat:Nat):Int)=y by omega];simpa using h
  rw[bv];exact⟨key _ b1 b2 (.inl rfl),key _ b3 b4 (.inr rfl)⟩
structure Gw (l g:Gr) (n m:Nat):Prop where
 ex:∃T U,g.nodes=l.nodes++T/\g.edges=l.edges++U/\T.length<=n/\U.length<=m/\(∀a∈T,0<=a/\a<3)/\∀e∈U,(0<=e.ty/\e.ty<2)/\(0<=e.fr/\e.fr<g.nodes.length)/\0<=e.to/\e.to<g.nodes.length
theorem Gw.refl(l:Gr):Gw l l 0 0:=⟨[],[],by simp,by simp,by simp,by simp,by simp,by simp⟩
theorem Gw.mono{l g:Gr}{n m n' m':Nat}(h:Gw l g n m)(h1:n<=n')(h2:m<=m'):Gw l g n' m':=by
 obtain⟨T,U,k1,k2,k3,k4,k5,k6⟩:=h.ex;exact⟨T,U,k1,k2,by omega,by omega,k5,k6⟩
theorem Gw.len{l g:Gr}{n m:Nat}(h:Gw l g n m):l.nodes.length<=g.nodes.length/\g.nodes.length<=l.nodes.length+n/\g.edges.length<=l.edges.length+m:=by
 obtain⟨T,U,k1,k2,k3,k4,k5,k6⟩:=h.ex;rw[k1,k2,am,am];omega
theorem Gw.pre{l g:Gr}{n m:Nat}(h:Gw l g n m)(hv:vG l=0)(h1:l.nodes.length+n<=40)(h2:l.edges.length+m<=80):Pre l g:=by
 have hl:=h.len;obtain⟨T,U,k1,k2,k3,k4,k5,k6⟩:=h.ex;obtain⟨v0,v1,v2⟩:=bE hv;refine⟨hv,nE (by omega) (fun x hx=>?_) (fun e he=>?_),⟨T,k1⟩,⟨U,k2⟩⟩
 .rw[k1] at hx;rcases ap.1 hx with hx|hx
  .exact v1 x hx
  .have:=k5 x hx
   exact aAq this.1 (by omega)
 .rw[k2] at he;rcases ap.1 he with he|he
  .have:=v2 e he
   rw[eZ] at this ⊢;exact⟨this.1,by omega,by omega⟩
  .obtain⟨t1,t2,t3⟩:=k6 e he;rw[eZ];exact⟨aAq t1.1 (by omega),t2,t3⟩
structure InK (g:Gr):Prop where
 n:∀a∈g.nodes,0<=a/\a<3
 e:∀x∈g.edges,0<=x.ty/\x.ty<2
theorem aHK(x:Dr):InK (iR x):=by
 refine⟨fun a ha=>?_,fun e he=>?_⟩
 .simp only[iR,mN,bc] at ha;obtain⟨k,hk,rfl⟩:=ha;omega
 .simp only[iR] at he;split at he
  .simp at he
  .simp only[mE,bc] at he;obtain⟨k,hk,rfl⟩:=he;simp only;omega
theorem aIH(ns cs:List Int):∀i,∃T,gwN ns cs i=ns++T/\T.length<=i/\∀a∈T,0<=a/\a<3
 | 0=>⟨[],by simp[gwN],by simp,by simp⟩
 | i+1=>by
  obtain⟨T,h1,h2,h3⟩:=aIH ns cs i;by_cases h:i<cs.length
  .by_cases h0:1<=i
   .rw[aGY h h0];split
    .refine⟨T++[cs[i] / 2 % 3],by rw[h1,cy],by simp;omega,fun a ha=>?_⟩;rcases ap.1 ha with ha|ha
     .exact h3 a ha
     .rw[a7.1 ha];omega
    .exact⟨T,h1,by omega,h3⟩
   .refine⟨[],?_,by simp,by simp⟩;rw[gwN,fy (by simp;omega)];simp
  .refine⟨T,?_,by omega,h3⟩;rw[<-h1];unfold gwN;rw[ak (by omega),ak (by omega)]
theorem aG4{n:Nat}(hn:0<n)(es:List E)(cs:List Int):∀i,∃U,gwE n es cs i=es++U/\U.length<=i/\∀e∈U,(0<=e.ty/\e.ty<2)/\(0<=e.fr/\e.fr<n)/\0<=e.to/\e.to<n
 | 0=>⟨[],by simp[gwE],by simp,by simp⟩
 | i+1=>by
  obtain⟨T,h1,h2,h3⟩:=aG4 hn es cs i;by_cases h:i<cs.length
  .by_cases h0:4<=i
   .rw[aHf h h0];refine⟨T++[⟨cs[i] % 2,cs[i] / 2 % n,cs[i] / 16 % n⟩],by rw[h1,cy],by simp;omega,fun a ha=>?_⟩;rcases ap.1 ha with ha|ha
    .exact h3 a ha
    .rw[a7.1 ha];have Bz:(n:Int)≠0:=by omega
     have hp:(0:Int)<n:=by omega
     exact⟨by simp only;omega,⟨Int.emod_nonneg _ Bz,Int.emod_lt_of_pos _ hp⟩,Int.emod_nonneg _ Bz,Int.emod_lt_of_pos _ hp⟩
   .refine⟨[],?_,by simp,by simp⟩;rw[gwE,fy (by simp;omega)];simp
  .refine⟨T,?_,by omega,h3⟩;rw[<-h1];unfold gwE;rw[ak (by omega),ak (by omega)]
theorem aM6(g:Gr)(cs:List Int):Gw g (gwG g cs) 4 8:=by
 obtain⟨T,h1,h2,h3⟩:=aIH g.nodes cs (min cs.length 4);by_cases h0:(gwN g.nodes cs (min cs.length 4)).length=0
 .refine⟨T,[],h1,?_,by omega,by simp,h3,by simp⟩;simp only[gwG,af h0,c9]
 .obtain⟨U,k1,k2,k3⟩:=aG4 (show 0<(gwN g.nodes cs (min cs.length 4)).length by omega) g.edges cs (min cs.length 8);refine⟨T,U,h1,?_,by omega,by omega,h3,k3⟩;simp only[gwG,ac h0];exact k1
open Go Go.Proofs Go.ChangeShapes
open Go.Proofs.Tryz
abbrev Ch.cells(x:Ch):List D:=[.sl 1 (x.a.nodes.map fun n=>[u8 n]),.sl 3 (x.a.edges.map fun e=>[u8 e.1,u8 e.2.1,u8 e.2.2]),bytes x.b,bytes x.g,bytes x.c]
structure Dx where
 left:Dr
 keep:Int
 more:List Int
structure Dx.U8 (x:Dx):Prop where
 l:x.left.U8
 m:U8s x.more
 ml:x.more.length<=200000000000000
 nl:x.left.nodes.length<=200000000000000
 el:x.left.edges.length<=200000000000000
structure Scn where
 r:Dx
 codes:List Int
 more:List Int
structure Scn.U8 (x:Scn):Prop where
 r:x.r.U8
 c:U8s x.codes
 m:U8s x.more
 ml:x.more.length<=200000000000000
abbrev u64(n:Int):D:=.raw (.int .u64 n)
abbrev Dx.cells(x:Dx):List D:=[.sl 1 (x.left.nodes.map fun n=>[u8 n]),.sl 3 (x.left.edges.map fun e=>[u8 e.1,u8 e.2.1,u8 e.2.2]),u64 x.keep,bytes x.more]
abbrev Scn.cells(x:Scn):List D:=[.sl 1 (x.r.left.nodes.map fun n=>[u8 n]),.sl 3 (x.r.left.edges.map fun e=>[u8 e.1,u8 e.2.1,u8 e.2.2]),u64 x.r.keep,bytes x.r.more,bytes x.codes,bytes x.more]
abbrev Dx.av(x:Dx):AV:=.agg [.d (.sl 1 (x.left.nodes.map fun n=>[u8 n])),.d (.sl 3 (x.left.edges.map fun e=>[u8 e.1,u8 e.2.1,u8 e.2.2])),.d (u64 x.keep),.d (bytes x.more)]
abbrev Scn.av(x:Scn):AV:=.agg [.d (.sl 1 (x.r.left.nodes.map fun n=>[u8 n])),.d (.sl 3 (x.r.left.edges.map fun e=>[u8 e.1,u8 e.2.1,u8 e.2.2])),.d (u64 x.r.keep),.d (bytes x.r.more),.d (bytes x.codes),.d (bytes x.more)]
def aNB(S:Int)(j:Nat):Bool:=(IntKind.u64.wrap ((((S.fdiv (2 ^ min (((j:Int) % 64)).toNat IntKind.u64.bits) % 2 ^ IntKind.u64.bits).toNat &&& (1 % 2 ^ IntKind.u64.bits):Nat):Int))==1)
def Dx.dr(x:Dx):Dr:=⟨x.left.nodes.take (min x.left.nodes.length 3),x.left.edges.take (min x.left.edges.length 3)⟩
def Dx.g(x:Dx):Gr:=iR x.dr
def aRE(g:Gr)(S:Int):Mo:=aNP g (aNB S) (fun j=>aNB S (g.nodes.length+j))
def Dx.k(x:Dx):Mo:=aRE x.g x.keep
def Dx.cs(x:Dx):List Int:=255::x.more.take (min x.more.length 6)
def Dx.right(x:Dx):Gr:=gwG (exG x.g x.k) x.cs
def Dx.sp(x:Dx):Sp:=⟨x.g,x.right,x.k,idM (exG x.g x.k)⟩
def scS(g:Gr)(a b c:Int):Gr :=
 ⟨if a % 2=0 then g.nodes++[b % 3] else g.nodes,if 0<(if a % 2=0 then g.nodes++[b % 3] else g.nodes).length/\0<a % 3 then g.edges++[⟨a / 8 % 2,b / 4 % (if a % 2=0 then g.nodes++[b % 3] else g.nodes).length,c % (if a % 2=0 then g.nodes++[b % 3] else g.nodes).length⟩] else g.edges⟩
def scK(g:Gr)(cs:List Int):Nat->Gr
 | 0=>g
 | j+1=>scS (scK g cs j) (cs.getD (3*j) 0) (cs.getD (3*j+1) 0) (cs.getD (3*j+2) 0)
def scN(cs:List Int):Nat:=min 3 (cs.length / 3)
def Scn.g(x:Scn):Gr:=scK x.r.g x.more (scN x.more)
structure Dx.Ok (x:Dx):Prop where
 v:vG x.g=0
 i:InK x.g
 n:x.g.nodes.length<=3
 e:x.g.edges.length<=3
 k:VP x.g x.k
 w:Gw (exG x.g x.k) x.right 4 8
theorem Dx.U8.dr{x:Dx}(h:x.U8):x.dr.U8:=⟨fun k hk=>h.l.n k (bq hk),fun k hk=>h.l.e k (bq hk)⟩
theorem Dx.U8.cs{x:Dx}(h:x.U8):U8s x.cs:=fun k hk=>by
 rcases cj.1 hk with rfl|hk
 .exact⟨by decide,by decide⟩
 .exact h.m k (bq hk)
theorem Dx.ok{x:Dx}(h:x.U8):x.Ok:=by
 have hv:=aCX h.dr;have hl:x.g.nodes.length<=3/\x.g.edges.length<=3:=by
  refine⟨by simp only[Dx.g,Dx.dr,iR,aDS,cf];omega,?_⟩;have hl:x.dr.edges.length<=3:=by simp only[Dx.dr,cf];omega
  simp only[Dx.g,iR];by_cases h0:x.dr.nodes.length=0
  .rw[af h0];simp
  .rw[ac h0];simp only[aH8];omega
 exact⟨hv,aHK _,hl.1,hl.2,aKA hv,aM6 _ _⟩
end Go.AM
namespace Go.Proofs
open Go.Shelf
open Go.Proofs.Tryz
def Tryz.lays171_ren:Go.Shelf.Ren:=⟨fun|171=>87|243=>135|246=>200|283=>258|284=>259|285=>260|286=>261|129=>290|317=>289|318=>291|319=>292|320=>293|337=>323|338=>324|n=>n,fun|3=>3|9=>9|2=>2|4=>4|171=>299|0=>0|53=>129|37=>74|5=>5|173=>302|212=>328|51=>321|20=>20|213=>329|46=>238|232=>358|233=>359|n=>n,fun|17=>0|18=>1|19=>2|n=>n⟩
theorem Tryz.lays171:Go.Proofs.Lays.n171 prog Tryz.lays171_ren:={
 mixed:=by kernel_rfl
 f129:=func290.trans (congrArg some (by kernel_rfl))
 f171:=func87.trans (congrArg some (by kernel_rfl))
 f243:=func135.trans (congrArg some (by kernel_rfl))
 f246:=func200.trans (congrArg some (by kernel_rfl))
 f283:=func258.trans (congrArg some (by kernel_rfl))
 f284:=func259.trans (congrArg some (by kernel_rfl))
 f285:=func260.trans (congrArg some (by kernel_rfl))
 f286:=func261.trans (congrArg some (by kernel_rfl))
 f317:=func289.trans (congrArg some (by kernel_rfl))
 f318:=func291.trans (congrArg some (by kernel_rfl))
 f319:=func292.trans (congrArg some (by kernel_rfl))
 f320:=func293.trans (congrArg some (by kernel_rfl))
 f337:=func323.trans (congrArg some (by kernel_rfl))
 f338:=func324.trans (congrArg some (by kernel_rfl))
 t0:=underlying0
 a0:=isAgg0
 z0:=sizeOf0
 v0:=zeroValue0
 t2:=underlying2
 a2:=isAgg2
 z2:=sizeOf2
 v2:=zeroValue2
 t3:=underlying3
 a3:=isAgg3
 z3:=sizeOf3
 v3:=zeroValue3
 t4:=underlying4
 a4:=isAgg4
 z4:=sizeOf4
 v4:=zeroValue4
 t5:=underlying5
 a5:=isAgg5
 z5:=sizeOf5
 v5:=zeroValue5
 t9:=underlying9
 a9:=isAgg9
 z9:=sizeOf9
 v9:=zeroValue9
 t20:=underlying20
 a20:=isAgg20
 z20:=sizeOf20
 v20:=zeroValue20
 t37:=underlying74
 a37:=isAgg74
 z37:=sizeOf74
 v37:=zeroValue74
 t46:=underlying238
 a46:=isAgg238
 z46:=sizeOf238
 v46:=zeroValue238
 t51:=underlying321
 a51:=isAgg321
 z51:=sizeOf321
 v51:=zeroValue321
 t53:=underlying129
 a53:=isAgg129
 z53:=sizeOf129
 v53:=zeroValue129
 t171:=underlying299
 a171:=isAgg299
 z171:=sizeOf299
 v171:=zeroValue299
 t173:=underlying302
 a173:=isAgg302
 z173:=sizeOf302
 v173:=zeroValue302
 t212:=underlying328
 a212:=isAgg328
 z212:=sizeOf328
 v212:=zeroValue328
 t213:=underlying329
 a213:=isAgg329
 z213:=sizeOf329
 t232:=underlying358
 a232:=isAgg358
 z232:=sizeOf358
 v232:=zeroValue358
 t233:=underlying359
 a233:=isAgg359
 z233:=sizeOf359
 v233:=zeroValue359
 g17:=by kernel_rfl
 g18:=by kernel_rfl
 g19:=by kernel_rfl }
open Go.RowKit Go.Sort Go.Lib in
theorem Tryz.strconv_Itoa_small(i:Nat)(hi:i<100)(w:World):
  Calls prog 87 #[.int .i64 i] w fun e w'=>e=.returned (.string ⟨(Lib.decDigits i).toArray⟩)/\w'=w:=Any.strconv_Itoa_small Tryz.lays171 i hi w
end Go.Proofs
namespace Go.AM
open Go Go.Proofs
open Go.Proofs.Tryz
def dgB(i:Nat):ByteArray:=⟨(Lib.decDigits i).toArray⟩
theorem aKg(i:Nat)(h:i<100):DC 87 [I i] (Sb (dgB i)):=by
 intro tok nt box nb;refine⟨gO.mk func87 rfl (by kernel_rfl),fun G w vals hm hr=>?_⟩;obtain⟨hlen,p8⟩:=hr
 match vals,hlen with
 | [v],_ =>
  have h0:=p8 0 (by simp) (by simp);simp only[cg] at h0;cases h0 with|d h0 =>
  cases h0;refine(Tryz.strconv_Itoa_small i h w).mono ?_;rintro e w' ⟨rfl,rfl⟩;exact⟨_,_,_,G,rfl,⟨rfl,rfl⟩,rfl,hm,.d (.raw rfl),Le.refl _ _,fun k hk=>⟨hk,rfl⟩⟩
variable {P:Program}
def aKx(P:Program)(T E:TypeId)(x i:Operand)(d1 d2:Tmp)(K:AS->Prop)(S:AS):Prop:=match S.ev x,S.ev i with
 | .stk t sz es,.d (.raw (.int k q))=>match es[q.toNat]? with
  | some [.raw v]=>0<=q/\S.tok t=true/\K ⟨bU (bU S.tmps (some d1) .bot) (some d2) (.d (.raw v)),S.box,S.tok,S.nt⟩
  | _=>False
 | _,_=>False
theorem aJG{base:Nat}{o:Oper}{G:Gh}{box:Bxs}(h:kY o.op=false):pM P base o G box:=by
 unfold pM;split
 .rename_i h1 _;rw[h1] at h;cases h
 .trivial
theorem Op1.mono{cx:Cx}{o:Oper}{S:AS}{K K':AS->Prop}(hk:∀S,K S->K' S)(h:Op1 P cx o S K):Op1 P cx o S K':=by
 unfold Op1 at h ⊢;split at h
 .exact h.mono fun _ _ q=>hk _ q
 .rcases h with ⟨S1,a,b⟩|⟨t,es,a,b⟩
  .exact .inl ⟨S1,a,hk _ b⟩
  .exact .inr ⟨t,es,a,fun x y=>hk _ (b x y)⟩
theorem lM.mono{cx:Cx}{ops:Array Oper}{K K':AS->Prop}(hk:∀S,K S->K' S):∀(l:List Oper) (S:AS),lM P cx ops l S K->lM P cx ops l S K'
 | [],S,h=>hk S h
 | o::r,S,h=>by
  unfold lM at h ⊢;split at h
  .exact h.mono fun S1 q=>lM.mono hk r S1 q
  .split at h
   .exact⟨fun e=>(h.1 e).mono fun S1 q=>lM.mono hk r S1 q,fun e=>lM.mono hk r _ (h.2 e)⟩
   .exact h
theorem aKx.mono{T E:TypeId}{x i:Operand}{d1 d2:Tmp}{K K':AS->Prop}(hk:∀S,K S->K' S){S:AS}(h:aKx P T E x i d1 d2 K S):aKx P T E x i d1 d2 K' S:=by
 unfold aKx at h ⊢;split at h
 .split at h
  .exact⟨h.1,h.2.1,hk _ h.2.2⟩
  .exact h
 .exact h
theorem tG{ops ops':Array Oper}{Q:Exit->Act->World->Prop}{l2:List Nat}:∀(l:List Nat),(∀i∈l,∃o,ops[i]?=some o/\ops'[i]?=some o/\∀tm,Region.wanted o (yielded ops' tm)=Region.wanted o (yielded ops tm))->∀(a:Act) (w:World),
  wpOps P ops' (fun e a w=>match e with|.normal=>wpOps P ops Q l2 a w|e=>Q e a w) l a w->wpOps P ops Q (l++l2) a w
 | [],_,a,w,h=>h
 | i::l,hl,a,w,h=>by
  obtain⟨o,h1,h2,h3⟩:=hl i (by simp);have ih:=tG (Q:=Q) (l2:=l2) l fun j hj=>hl j (by simp[hj])
  rw[ga];unfold wpOps at h ⊢;rw[h2] at h;rw[h1];simp only at h ⊢;rw[h3] at h;have pz:LetsOut (fun e a w=>match e with|.normal=>wpOps P ops Q l2 a w|e=>Q e a w)->LetsOut Q:=fun ⟨a,w,h⟩=>⟨a,w,h⟩
  split at h
  .rename_i hw;rw[af hw];rcases h with h|⟨h,k⟩
   .left;unfold Oper.wp at h ⊢;generalize (execOp a.eval o).run P w=r at *;cases r with
    | ok n w' =>
     cases n<;>simp only[Oper.upon] at h ⊢ <;>
      first
       | exact ih _ _ h
       | exact Calls.mono h (fun e w'' he=>by cases e<;>first|exact ih _ _ he|exact pz he|exact he)
       | exact Rows.mono h (fun _ _ he=>ih _ _ he)
    | halt x w'=>cases x<;>simp only[Oper.upon] at h ⊢<;>first|exact h|exact pz h
   .exact .inr ⟨h,pz k⟩
  .rename_i hw;rw[ac hw];exact ih _ _ h
def Seg(P:Program)(cx:Cx)(ops:Array Oper)(k:Nat)(K:AS->Prop)(S:AS):Prop:=∀(G0:Gh) (w0:World) (Q:Exit->Act->World->Prop),(∀S a w G,K S->cS cx.n cx.nb G S a w->LeC cx G0 w0 G w S->Q .normal a w) ->
 ∀G a w,cS cx.n cx.nb G S a w->LeC cx G0 w0 G w S->wpOps P ops Q (List.range' k (ops.size-k)) a w
def aOI(ops:Array Oper):Bool:=ops.toList.all fun o=>!kY o.op
theorem aF7{ops:Array Oper}(h:aOI ops=true){o:Oper}(ho:o∈ops):kY o.op=false:=by
 have:=ax.1 h o (by simpa using ho)
 simpa using this
theorem zI{n:Nat}{ops:Array Oper}(h:iL n ops false=true):gW ops=true/\sZ n ops=true:=by
 simpa[iL] using h
def aRA(ops:Array Oper)(p:Nat):Bool:=(ops.toList.take p).all fun o=>match o.guard with|none=>true|some (j,_)=>decide (j<p)
theorem Seg.pre{cx:Cx}{ops:Array Oper}{k:Nat}{K:AS->Prop}{S:AS}(p:Nat)(Cp:k<=p)(CH:p<=ops.size)(j5:cx.base+cx.n<=cx.nb)(gt:iL cx.n (ops.extract 0 p) false=true)(DM:aOI ops=true)(hg:aRA ops p=true){ops':Array Oper}{mid:List Oper}(hx:ops.extract 0 p=ops')(hm:ops'.toList.drop k=mid)(h:kE P cx ops' false mid (Seg P cx ops p K) S):Seg P cx ops k K S:=by
 subst hx hm;intro G0 w0 Q hQ G a w hr hl;have yq:List.range' k (ops.size-k)=List.range' k (p-k)++List.range' p (ops.size-p):=by
  rw[show ops.size-k=(p-k)+(ops.size-p) by omega,<-List.range'_append_1,show k+(p-k)=p by omega]
 rw[yq];have xe:∀j,j<p->(ops.extract 0 p)[j]?=ops[j]?:=fun j hj=>by
  rw[Array.getElem?_extract];have:j<min p ops.size:=by omega
  simp[this]
 refine tG (ops':=ops.extract 0 p) (List.range' k (p-k)) (fun j hj=>?_) a w ?_
 .have mh:j<p:=by simp at hj;omega
  have qe:j<ops.size:=by omega
  refine⟨ops[j],by simp[qe],by rw[xe j mh];simp[qe],fun tm=>?_⟩;have h5:=ax.1 hg ops[j] (by rw[cm];exact⟨j,by simp;omega,by simp⟩);unfold Region.wanted;cases DO:ops[j].guard with
  | none=>rfl
  | some g =>
   obtain⟨q,want⟩:=g;rw[DO] at h5;have hq:q<p:=by simpa using h5
   simp only;unfold yielded;rw[xe q hq]
 have i5:∀o,o∈(ops.extract 0 p).toList.drop k->o∈ops:=fun o ho=>by
  have:=co ho
  rw[Array.toList_extract,List.extract_eq_take_drop] at this;simpa using bq this
 have:=oX (ops:=ops.extract 0 p) (G0:=G0) (w0:=w0) (K:=Seg P cx ops p K) (Q:=fun e a' w'=>match e with|.normal=>wpOps P ops Q (List.range' p (ops.size-p)) a' w'|e=>Q e a' w')
  (oV (zI gt).2) j5 (zI gt).1 (fun S1 a1 w1 G1 hK r9 ma=>hK G0 w0 Q hQ G1 a1 w1 r9 ma) ((ops.extract 0 p).toList.drop k) k S a w G rfl (fun o ho=>aJG (aF7 DM (i5 o ho))) hr hl (eU _ _ h)
 have hlen:((ops.extract 0 p).toList.drop k).length=p-k:=by simp;omega
 rw[hlen] at this;exact this
variable {P:Program}
theorem aR.conv{R:AV->AV->Prop}{G G':Gh}{w w':World}{base nb nt nt':Nat}{out:Bxs}{loc loc':List (Nat × List (List AV))}{tok tok':Nat->Bool}(hm:aR G ⟨lb base out loc,nb,tok,nt⟩ w)(ll:aR G' ⟨lb base out loc,nb,tok',nt'⟩ w')(mu:G'.bx=G.bx)(hto:∀x y v,R x y->RV G w x v->RV G' w' y v)(hh:∀b,G.kind b=.box->w'.heap[b]?=w.heap[b]?)(hb:CvB R loc loc'):
  aR G' ⟨lb base out loc',nb,tok',nt'⟩ w':=by
 constructor
 case box =>
  intro k rows b z hk n5;simp only at hk;by_cases iv:k<base
  .rw[lO iv] at hk;exact ll.box k rows b z (by simp only;rw[lO iv];exact hk) n5
  .have i4:k=base+(k-base):=by omega
   rw[i4,aN] at hk;rcases hb.at (k-base) with ⟨_,h2⟩|⟨r0,r',h1,h2,h3⟩
   .rw[h2] at hk;cases hk
   .rw[h2] at hk;cases hk;obtain⟨g0,cs,e,g2,g3,g4,g5⟩:=hm.box k r0 b z (by simp only;rw[i4,aN];exact h1) (by rw[<-mu];exact n5);obtain⟨g1,_⟩:=ll.box k r0 b z (by simp only;rw[i4,aN];exact h1) n5;refine⟨g1,cs,e,(hh b g0).trans g2,fun q hq=>?_,⟨h3.flat.1.symm.trans g4.1,fun i h1 h2=>hto _ _ _ (h3.flat.2 i (by rw[h3.flat.1];exact h1) h1) (g4.2 i _ h2)⟩,g5⟩;obtain⟨i,hi,rfl⟩:=bi hq;have q9:i<r0.length:=by rw[h3.1];exact hi
    rw[<-(h3.2 i q9 hi).1];exact g3 _ (aa _)
 case nobox =>
  intro k hk;refine ll.nobox k ?_;simp only at hk ⊢;by_cases iv:k<base
  .rw[lO iv] at hk ⊢;exact hk
  .have i4:k=base+(k-base):=by omega
   rw[i4,aN] at hk ⊢;rcases hb.at (k-base) with ⟨h1,_⟩|⟨r0,r',_,h2,_⟩
   .exact h1
   .rw[h2] at hk;cases hk
 case inj=>exact ll.inj
 case nb =>
  intro k hk;have h0:=ll.nb k hk;simp only at h0 ⊢;by_cases iv:k<base
  .rw[lO iv] at h0 ⊢;exact h0
  .have i4:k=base+(k-base):=by omega
   rw[i4,aN] at h0 ⊢;rcases hb.at (k-base) with ⟨_,h2⟩|⟨r0,r',h1,_,_⟩
   .exact h2
   .rw[h1] at h0;cases h0
 case nt=>exact ll.nt
 case toks=>exact ll.toks
 case tokb=>exact ll.tokb
 case tinj=>exact ll.tinj
 case tnt=>exact ll.tnt
 case glob=>exact ll.glob
 case fresh=>exact ll.fresh
def AV.mpF(t:Nat):AV->AV
 | .mp t' es=>if t'=t then .mpd (mpE es) else .mp t' es
 | x=>x
def World.setMap(w:World)(r:Nat)(en:Array MapEntry)(k:Nat):World:={ w with heap:=w.heap.setIfInBounds r (.map en k) }
theorem aDf{w:World}{r:Nat}{o:Obj}(h:w.heap[r]?=some o)(en:Array MapEntry)(k:Nat):(World.setMap w r en k).heap[r]?=some (.map en k):=by
 have:=bW h
 simp[World.setMap,this]
theorem dO{w:World}{r b:Nat}(h:b≠r)(en:Array MapEntry)(k:Nat):(World.setMap w r en k).heap[b]?=w.heap[b]?:=by
 simp[World.setMap,Ne.symm h]
theorem tF(w:World)(r:Nat)(en:Array MapEntry)(k:Nat):(World.setMap w r en k).heap.size=w.heap.size:=by simp[World.setMap]
theorem Le.setMap{G:Gh}{w:World}{r:Nat}(hk:G.kind r=.ex)(ht:∀t,G.tk t≠some (some r)){en0:Array MapEntry}{k0:Nat}(hg:w.heap[r]?=some (.map en0 k0))(en:Array MapEntry)(k:Nat):Le G w G (World.setMap w r en k) where
 os:=rfl
 tape:=rfl
 output:=rfl
 size:=by rw[tF];exact nr0 _
 whole b hb h:=⟨h,dO (fun e=>by subst e;rw[hk] at h;cases h) en k⟩
 part b f0 c0 h:=⟨⟨f0,nr0 _,h⟩,fun a ha _=>World.cell?_of_block (dO (fun e=>by
  have:G.kind r=.part f0 c0:=by rw[<-e,ha];exact h
  rw[hk] at this;cases this) en k)⟩
 bx _ _ h:=h
 nt:=nr0 _
 tk t _:=.inr ⟨rfl,fun j hj=>⟨rfl,fun _=>dO (fun e=>by subst e;exact ht t hj) en k⟩⟩
 ty b c0 T f0 hb:=⟨c0,f0,by rw[dO (fun e=>by subst e;rw[hg] at hb;cases hb) en k];exact hb⟩
theorem aR.setMap{G:Gh}{m:bF}{w:World}(h:aR G m w){r:Nat}(hk:G.kind r=.ex)(ht:∀t,G.tk t≠some (some r)){en0:Array MapEntry}{k0:Nat}(hg:w.heap[r]?=some (.map en0 k0))(en:Array MapEntry)(k:Nat):aR G m (World.setMap w r en k):=by
 have g9:=Le.setMap hk ht hg en k;constructor
 case box =>
  intro q rows b sz i4 hb;obtain⟨h1,cs,e',h2,h3,h4,h5⟩:=h.box q rows b sz i4 hb;exact⟨h1,cs,e',(dO (fun e=>by subst e;rw[hk] at h1;cases h1) en k).trans h2,h3,h4.mono g9,h5⟩
 case nobox=>exact h.nobox
 case inj=>exact h.inj
 case nb=>exact h.nb
 case nt=>exact h.nt
 case toks=>exact h.toks
 case tokb =>
  intro t j hj;obtain⟨f0,cur0,e0,h1,h2⟩:=h.tokb t j hj;exact⟨f0,cur0,e0,h1,(dO (fun e=>by subst e;exact ht t hj) en k).trans h2⟩
 case tinj=>exact h.tinj
 case tnt=>exact h.tnt
 case glob=>exact h.glob.mono g9.cells
 case fresh =>
  intro b hb;exact h.fresh b (by rw[tF] at hb;exact hb)
def jD(es:List (ByteArray × List (List D) × Own))(s:ByteArray)(xs:List (List D))(o:Own):List (ByteArray × List (List D) × Own):=match es.findIdx? fun e=>decide (e.1=s) with
 | some i=>es.set i (s,xs,o)
 | none=>es++[(s,xs,o)]
theorem aBs(n:Nat)(s:ByteArray):Instr.sameBits n (.string s) (.string s)=true:=by
 cases n<;>simp[Instr.sameBits,aHQ]
theorem pW{w:World}{T:TypeId}{r:Nat}{en:Array MapEntry}{k:Nat}{c:Addr->Option Value}{ps:Addr->Prop}{es:List (ByteArray × List (List D))}(hT:aD7 P T=true)(hb:w.heap[r]?=some (.map en k))(he:EnR c ps es en)(s:ByteArray)(v:Value):
  ∃en' k',(Instr.mapUpdate T (.map (some r)) (.string s) v).run P w=.ok () (World.setMap w r en' k')/\(match es.findIdx? fun e=>decide (e.1=s) with
   | some i=>en'.size=en.size/\(∀j (h:j<en'.size) (h2:j<en.size),j≠i->en'[j].key=en[j].key/\en'[j].val=en[j].val)/\∀h:i<en'.size,en'[i].key=.string s/\en'[i].val=v
   | none=>en'.size=en.size+1/\(∀j (h:j<en'.size) (h2:j<en.size),en'[j].key=en[j].key/\en'[j].val=en[j].val)/\∀h:en.size<en'.size,en'[en.size].key=.string s/\en'[en.size].val=v):=by
 obtain⟨kt,et,h1,h2,h3⟩:=zT hT;have hf:=mX s en.toList (es.map (·.1)) 0 he.keys;have hc:(Instr.checkKey false 10000 kt (.string s)).run P w=.ok () w:=MapKept.run_checkKey (k:=.string s) h2 (by simp[MapKept.IsKey]) _ 9999
 have hk:=MapKept.run_findKey (w:=w) h2 hf;rw[vQ] at hk;cases hi:es.findIdx? fun e=>decide (e.1=s) with
 | none =>
  rw[hi] at hk;simp only[Option.bind_none] at hk;refine⟨en.push { key:=.string s,val:=v,born:=k },k+1,?_,by simp,fun j h h2=>?_,fun h=>by simp⟩
  .simp[Instr.mapUpdate,bm h1,MapKept.run_getObj_map hb,hc,hk,MapKept.run_setObj_map _ hb,Result.andThen,World.setMap]
  .rw[Array.getElem_push_lt h2];exact⟨rfl,rfl⟩
 | some i =>
  have hlt:i<en.size:=by
   have:=(d4.1 hi).1
   rw[he.1] at this;exact this
  have Cq:en[i].key=.string s:=by
   obtain⟨g1,g2,_⟩:=d4.1 hi;rw[(he.2 i g1 hlt).1];simp at g2;rw[g2]
  rw[hi] at hk;have hg:en.toList[i]?=some en[i]:=by simp[hlt]
  simp only[ew,hg,dd,b6] at hk;refine⟨en.modify i fun e=>{ e with key:=.string s,val:=v },k,?_,by simp,fun j h h2 hne=>?_,fun h=>?_⟩
  .simp[Instr.mapUpdate,bm h1,MapKept.run_getObj_map hb,hc,hk,hlt,Cq,Instr.keyThatStays,aBs,MapKept.run_setObj_map _ hb,Result.andThen,World.setMap]
  .rw[Array.getElem_modify,ac (Ne.symm hne)];exact⟨rfl,rfl⟩
  .rw[Array.getElem_modify,af rfl];exact⟨rfl,rfl⟩
def AV.mpU(t nt:Nat)(es':List (ByteArray × List (List D) × Own)):AV->AV
 | .mp t' es=>if t'=t then .mp nt es' else .mp t' es
 | x=>x
def aLD(P:Program)(cx:Cx)(o:Oper)(S:AS)(K:AS->Prop):Prop:=∀(G0:Gh) (w0:World) (Q:Act->World->Prop) (E:Exit->Act->World->Prop),(∀S a w G,K S->cS cx.n cx.nb G S a w->LeC cx G0 w0 G w S->Q a w) ->
 ∀G a w,cS cx.n cx.nb G S a w->LeC cx G0 w0 G w S->o.wp P a w Q E
theorem aLD.put{cx:Cx}{o:Oper}{K:AS->Prop}{l:List (Nat × AV)}{out:Bxs}{loc:List (Nat × List (List AV))}{tok:Nat->Bool}{nt:Nat}{T:TypeId}{m k v:Operand}(t:Nat)(es:List (ByteArray × List (List D) × Own))(s:ByteArray)(xs:List (List D))(own:Own)(ho:o.op=.mapUpdate T m k v)(hd:o.dst=none)(hT:aD7 P T=true)(ht:tok t=true)(DP:AS.ev ⟨tl l,lb cx.base out loc,tok,nt⟩ m=.mp t es)(DQ:AS.ev ⟨tl l,lb cx.base out loc,tok,nt⟩ k=.d (.raw (.string s)))(DR:AS.ev ⟨tl l,lb cx.base out loc,tok,nt⟩ v=.osl 1 xs own)(h:K ⟨tl (l.map fun q=>(q.1,q.2.mpU t nt (jD es s xs own))),lb cx.base out (loc.map fun q=>(q.1,q.2.map fun r=>r.map (AV.mpU t nt (jD es s xs own)))),upd (upd tok t false) nt true,nt+1⟩):
  aLD P cx o ⟨tl l,lb cx.base out loc,tok,nt⟩ K:=by
 intro G0 w0 Q E hQ G a w hS hL;have hm:=hS.mem;have yr:=hS.ev m;have Ax:=hS.ev k;have Cr:=hS.ev v;rw[DP] at yr;rw[DQ] at Ax;rw[DR] at Cr;generalize rf:a.eval m=mx at yr;generalize DS:a.eval k=kx at Ax;generalize DT:a.eval v=vx at Cr;have p9:kx=.string s:=by cases Ax with|d h=>cases h;rfl
 subst p9;cases yr with
 | mp yr =>
  obtain⟨z7,nj,r,rfl,yr⟩:=yr;obtain⟨_,x,hx⟩:=hm.toks t ht;obtain⟨rfl,ur,en,k0,hh,he,Bb⟩:=yr x hx;obtain⟨en',k',jd,qg⟩:=pW (P:=P) hT hh he s vx;have kf:=vM hm hx;have pa:=hm.kill (.tok t);have ku:=Le.kill (G:=G) (w:=w) (.tok t);have tc:=pa.setMap ur kf hh en' k';have yj:=Le.setMap (G:=G.kill (.tok t)) ur kf hh en' k';have Da:(World.setMap w r en' k').heap[r]?=some (.map en' k'):=aDf hh en' k'
  have w6:=tc.newtok (some r) (fun g hg=>by cases hg;exact⟨kf,0, #[],_,.inr ur,Da⟩);have lu:=Le.newtok (G:=G.kill (.tok t)) (w:=World.setMap w r en' k') (some r);have g9:=(ku.trans yj).trans lu;have qr:G.nt=nt:=hm.nt
  have AP:RVd w.cell? G.ps (.sl 1 xs) vx/\sM G 1 xs.length own vx:=by cases Cr with|osl h1 h2=>exact⟨h1,h2⟩
  have xf:∀t',own=.tok t'->t'<G.nt:=fun t' e=>by subst e;exact AP.2.1
  have DU:MpR ((G.kill (.tok t)).newtok (some r)) (World.setMap w r en' k') nt (jD es s xs own) (.map (some r)):=by
   refine⟨by simp only[Gh.newtok,Gh.kill];omega,fun e Bk t' e1=>?_,r,rfl,fun y hy=>?_⟩
   .have:t'<G.nt:=by
     unfold jD at Bk;split at Bk
     .rcases List.mem_or_eq_of_mem_set Bk with h5|h5
      .exact nj e h5 t' e1
      .subst h5;exact xf t' e1
     .rcases ap.1 Bk with h5|h5
      .exact nj e h5 t' e1
      .simp at h5;subst h5;exact xf t' e1
    simp only[Gh.newtok,Gh.kill];omega
   .simp only[Gh.newtok,Gh.kill,qr,uS,ad] at hy;subst hy;refine⟨rfl,ur,en',k',Da,?_⟩;have pk:(mpE es).findIdx? (fun e=>decide (e.1=s))=es.findIdx? fun e=>decide (e.1=s):=by
     rw[mpE,List.findIdx?_map];rfl
    rw[pk] at qg;have hsz:es.length=en.size:=by have:=he.1;simpa[mpE] using this
    cases hi:es.findIdx? fun e=>decide (e.1=s) with
    | some i =>
     rw[hi] at qg;simp only at qg;obtain⟨e1,e2,e3⟩:=qg;have hp:jD es s xs own=es.set i (s,xs,own):=by simp only[jD,hi]
     rw[hp];refine⟨⟨by simp[mpE,e1,hsz],fun j h1 h2=>?_⟩,fun j h1 h2=>?_⟩
     .have hj:j<es.length:=by simpa[mpE] using h1
      by_cases yt:j=i
      .subst yt;simp only[mpE,bj,List.getElem_set_self];exact⟨(e3 h2).1,by rw[(e3 h2).2];exact AP.1.mono g9.cells⟩
      .simp only[mpE,bj,List.getElem_set_ne (Ne.symm yt)];obtain⟨q1,q2⟩:=e2 j h2 (by omega) yt;have:=he.2 j (by simpa[mpE] using hj) (by omega)
       simp only[mpE,bj] at this;rw[q1,q2];exact⟨this.1,this.2.mono g9.cells⟩
     .have hj:j<es.length:=by simpa using h1
      by_cases yt:j=i
      .subst yt;simp only[List.getElem_set_self];rw[(e3 h2).2];exact AP.2.mono g9
      .simp only[List.getElem_set_ne (Ne.symm yt)];rw[(e2 j h2 (by omega) yt).2];exact(Bb j hj (by omega)).mono g9
    | none =>
     rw[hi] at qg;simp only at qg;obtain⟨e1,e2,e3⟩:=qg;have hp:jD es s xs own=es++[(s,xs,own)]:=by simp only[jD,hi]
     rw[hp];have hval:∀j (h1:j<(es++[(s,xs,own)]).length),(es++[(s,xs,own)])[j]=if h:j<es.length then es[j] else (s,xs,own):=fun j h1=>by
      by_cases h:j<es.length
      .rw[dif_pos h,bu h]
      .rw[dif_neg h];simp at h1;have:j=es.length:=by omega
       subst this;simp
     refine⟨⟨by simp[mpE,e1,hsz],fun j h1 h2=>?_⟩,fun j h1 h2=>?_⟩
     .simp only[mpE,bj];rw[hval j (by simpa[mpE] using h1)];by_cases h:j<es.length
      .rw[dif_pos h];obtain⟨q1,q2⟩:=e2 j h2 (by omega);have:=he.2 j (by simpa[mpE] using h) (by omega)
       simp only[mpE,bj] at this;rw[q1,q2];exact⟨this.1,this.2.mono g9.cells⟩
      .rw[dif_neg h];have:j=en.size:=by omega
       subst this;exact⟨(e3 h2).1,by rw[(e3 h2).2];exact AP.1.mono g9.cells⟩
     .rw[hval j h1];by_cases h:j<es.length
      .rw[dif_pos h];rw[(e2 j h2 (by omega)).2];exact(Bb j h (by omega)).mono g9
      .rw[dif_neg h];have:j=en.size:=by omega
       subst this;rw[(e3 h2).2];exact AP.2.mono g9
  have hto:∀x y v,y=AV.mpU t nt (jD es s xs own) x->RV G w x v->RV ((G.kill (.tok t)).newtok (some r)) (World.setMap w r en' k') y v:=fun x y v h hr=>by
   subst h;cases x with
   | mp t' es0 =>
    simp only[AV.mpU];split
    .rename_i h;subst h;cases hr with
     | mp hr =>
      obtain⟨_,_,r2,rfl,hr⟩:=hr;have:=(hr _ hx).1
      cases this;exact .mp DU
    .exact hr.mono g9
   | _=>exact hr.mono g9
  have DV:cS cx.n cx.nb ((G.kill (.tok t)).newtok (some r)) ⟨tl (l.map fun q=>(q.1,q.2.mpU t nt (jD es s xs own))),lb cx.base out (loc.map fun q=>(q.1,q.2.map fun r=>r.map (AV.mpU t nt (jD es s xs own)))),upd (upd tok t false) nt true,nt+1⟩ a (World.setMap w r en' k') :=
   ⟨hS.defers,hS.size,fun i=>hto _ _ _ (CvL.at (R:=fun x y=>y=AV.mpU t nt (jD es s xs own) x) rfl (aAL (R:=fun x y=>y=AV.mpU t nt (jD es s xs own) x) (fun _=>rfl) l) i) (hS.tmps i),
    hm.conv w6 rfl hto (fun b hb=>dO (fun e=>by subst e;rw[ur] at hb;cases hb) en' k') (aBf (R:=fun x y=>y=AV.mpU t nt (jD es s xs own) x) (fun _=>rfl) loc)⟩
  unfold Oper.wp;have uv:(execOp a.eval o).run P w=.ok .skip (World.setMap w r en' k'):=by
   simp only[execOp,ho,rf,DS,DT,aw,jd,aj,ay]
  rw[uv];simp only[Oper.upon,hd,Act.put];exact hQ _ _ _ _ h DV (hL.step ⟨g9,fun k iv hg=>⟨hg,by simp only;rw[lO iv,lO iv]⟩⟩)
inductive tS (t sz:Nat):AV->AV->Prop
 | bot {x}:tS t sz x .bot
 | same {x}:tS t sz x x
 | nil {n}:tS t sz (.osl n [] .full) (.que t sz [])
 | tok {t' s es}:tS t sz (.osl s es (.tok t')) (.que t' s es)
theorem tS.rv{G:Gh}{w:World}{t sz:Nat}(ht:t<G.nt)(hk:G.tk t=some none){x y:AV}{v:Value}(h:tS t sz x y)(hr:RV G w x v):RV G w y v:=by
 cases h with
 | bot=>exact .bot
 | same=>exact hr
 | nil =>
  cases hr with
  | osl _ ho =>
   obtain⟨A,rfl,_⟩:=ho;exact .que (.sl (es:=[]) (fun _ _=>default) (nr0 _) (ai _) (by simp) (by simp) (fun a _ i j hi _=>by simp at hi) (fun i j hi _=>by simp at hi)) ⟨ht,fun x hx=>.inl ⟨A,rfl⟩⟩
 | tok =>
  cases hr with
  | osl h1 ho =>
   refine .que h1 ⟨ho.1,fun x hx=>?_⟩;have:=ho.2 x hx
   cases x with
   | none=>exact .inl this
   | some g =>
    obtain⟨cap,hv,hk⟩:=this;exact .inr ⟨g,0,cap,rfl,hv,by simpa using hk⟩
theorem iW.que{cx:Cx}{nt0 nt:Nat}{l l':List (Nat × AV)}{out:Bxs}{loc loc':List (Nat × List (List AV))}{tok:Nat->Bool}(sz:Nat)(hl:CvL (tS nt sz) l l')(hb:CvB (tS nt sz) loc loc'):
  iW cx nt0 ⟨tl l,lb cx.base out loc,tok,nt⟩ ⟨tl l',lb cx.base out loc',upd tok nt true,nt+1⟩:=by
 intro G0 w0 G a w he u7 hS hL;have hm:=hS.mem;have qr:G.nt=nt:=hm.nt
 have g9:=Le.newtok (G:=G) (w:=w) none;have ll:=hm.newtok none (fun g h=>by cases h)
 have h1:nt<(G.newtok none).nt:=by simp only[Gh.newtok];omega
 have h2:(G.newtok none).tk nt=some none:=by simp only[Gh.newtok];rw[<-qr,uS]
 refine⟨G.newtok none,⟨hS.defers,hS.size,fun i=>(hl.at .bot i).rv h1 h2 ((hS.tmps i).mono g9),ll.rows (fun x y v h hr=>h.rv h1 h2 hr) hb⟩,?_⟩;refine hL.step ⟨g9,fun k iv hg=>⟨hg,?_⟩⟩;simp only;rw[lO iv,lO iv]
section
variable {t sz:Nat}
@[simp] theorem aPS(x:AV):tS t sz x .bot:=.bot
@[simp] theorem aNl(x:AV):tS t sz x x:=.same
@[simp] theorem aNz(n:Nat):tS t sz (.osl n [] .full) (.que t sz []):=.nil
@[simp] theorem aNR(t' s:Nat)(es:List (List D)):tS t sz (.osl s es (.tok t')) (.que t' s es):=.tok
end
section
variable {p:Nat->Prop} {fz:Option (Nat × Nat × List (List D))}
@[simp] theorem aR3(t:Nat)(es:List (ByteArray × List (List D) × Own)):To p (fun _=>True) fz (.mp t es) (.mp t es):=.same (.mp trivial fun _ _ _ _=>trivial)
@[simp] theorem aR0{q:Nat->Prop}(es:List (ByteArray × List (List D))):To p q fz (.mpd es) (.mpd es):=.same .mpd
@[simp] theorem aNy{q:Nat->Prop}{es:List (ByteArray × List (List D))}:bD p q (.mpd es):=.mpd
end
attribute [simp] fM AV.mpF AV.mpU
variable {P:Program}
theorem Seg.opn{cx:Cx}{ops:Array Oper}{k nt:Nat}{K:AS->Prop}{l l':List (Nat × AV)}{out:Bxs}{loc loc':List (Nat × List (List AV))}{tok:Nat->Bool}(sz:Nat)(hl:CvL (tW nt sz) l l')(hb:CvB (tW nt sz) loc loc')(h:Seg P cx ops k K ⟨tl l',lb cx.base out loc',upd tok nt true,nt+1⟩):Seg P cx ops k K ⟨tl l,lb cx.base out loc,tok,nt⟩:=by
 intro G0 w0 Q hQ G a w hS hL;have hm:=hS.mem;have qr:G.nt=nt:=hm.nt
 have g9:=Le.newtok (G:=G) (w:=w) none;have ll:=hm.newtok none (fun g h=>by cases h)
 have h1:nt<(G.newtok none).nt:=by simp only[Gh.newtok];omega
 have h2:(G.newtok none).tk nt=some none:=by simp only[Gh.newtok];rw[<-qr,uS]
 refine h G0 w0 Q hQ (G.newtok none) a w ⟨hS.defers,hS.size,fun i=>(hl.at .bot i).rv h1 h2 ((hS.tmps i).mono g9),ll.rows (fun x y v h hr=>h.rv h1 h2 hr) hb⟩ ?_;refine hL.step ⟨g9,fun k iv hg=>⟨hg,?_⟩⟩;simp only;rw[lO iv,lO iv]
inductive Fo where
 | mk (kind:Int) (name:ByteArray) (kids:List Fo)
 deriving Inhabited
def Fo.kind:Fo->Int|.mk k _ _=>k
def Fo.name:Fo->ByteArray|.mk _ s _=>s
def Fo.kids:Fo->List Fo|.mk _ _ c=>c
mutual
def Fo.cells:Fo->List D
 | .mk k s c=>[.raw (.int .i64 k),.raw (.string s),.sl 3 (Fo.rows c)]
def Fo.rows:List Fo->List (List D)
 | []=>[]
 | x::r=>Fo.cells x::Fo.rows r
end
theorem Fo.rows_map:∀l:List Fo,Fo.rows l=l.map Fo.cells
 | []=>by simp[Fo.rows]
 | x::r=>by simp[Fo.rows,Fo.rows_map r]
abbrev fos(l:List Fo):D:=.sl 3 (l.map Fo.cells)
theorem Fo.cells_eq(c:Fo):c.cells=[.raw (.int .i64 c.kind),.raw (.string c.name),fos c.kids]:=by
 cases c;simp[Fo.cells,Fo.rows_map,Fo.kind,Fo.name,Fo.kids]
abbrev Fo.row(c:Fo):List AV:=[I c.kind,Sb c.name,.d (fos c.kids)]
abbrev Fo.av(c:Fo):AV:=.agg c.row
theorem Fo.get{l:List Fo}{i:Nat}(h:i<l.length):(l.map Fo.cells)[i]?=some [.raw (.int .i64 l[i].kind),.raw (.string l[i].name),fos l[i].kids]:=by
 simp[h,Fo.cells_eq l[i]]
mutual
def Fo.size:Fo->Nat
 | .mk _ _ c=>1+Fo.sizeL c
def Fo.sizeL:List Fo->Nat
 | []=>0
 | x::r=>Fo.size x+Fo.sizeL r
end
mutual
def Fo.depth:Fo->Nat
 | .mk _ _ c=>1+Fo.depthL c
def Fo.depthL:List Fo->Nat
 | []=>0
 | x::r=>max (Fo.depth x) (Fo.depthL r)
end
structure Mdl where
 next:List (List Int)
 prev:List (List Int)
 atoms:List (ByteArray × List Bool)
def inR(n:Nat)(k:Int):Prop:=0<=k/\k<n
structure Mdl.Ok (m:Mdl) (n:Nat):Prop where
 pos:0<n
 le:n<=300
 next:m.next.length=n
 prev:m.prev.length=n
 mF:∀r∈m.next,∀k∈r,inR n k
 prevR:∀r∈m.prev,∀k∈r,inR n k
 nextL:∀r∈m.next,r.length<=n
 prevL:∀r∈m.prev,r.length<=n
 atoms:∀a∈m.atoms,a.2.length=n
def aMW(l:List Bool):List Bool:=l.map fun b=>!b
def aPG(n:Nat):List Bool:=aMW (List.replicate n false)
@[simp] theorem aOF(l:List Bool):(aMW l).length=l.length:=by simp[aMW]
@[simp] theorem aON(n:Nat):(aPG n).length=n:=by simp[aPG]
def aLc(nx:List (List Int))(l:List Bool):List Bool:=nx.map fun r=>r.any fun k=>l.getD k.toNat false
@[simp] theorem aNm(nx:List (List Int))(l:List Bool):(aLc nx l).length=nx.length:=by simp[aLc]
abbrev rBo(xs:List Bool):List (List D):=xs.map fun b=>[D.raw (.bool b)]
abbrev lls(l:List (List Int)):D:=.sl 1 (l.map fun r=>[ints r])
abbrev Mdl.row(m:Mdl):List AV:=[.d (lls m.next),.d (lls m.prev),.mpd (m.atoms.map fun a=>(a.1,rBo a.2))]
abbrev Mdl.av(m:Mdl):AV:=.agg m.row
structure Hs where
 g:Gr
 vals:List (List Int)
abbrev Hs.av(h:Hs):AV:=.agg [.d (ints h.g.nodes),.d (AM.edges h.g.edges),.d (lls h.vals)]
end Go.AM
