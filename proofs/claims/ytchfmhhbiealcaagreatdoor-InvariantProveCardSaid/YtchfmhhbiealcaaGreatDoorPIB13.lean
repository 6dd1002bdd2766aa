import Derived.Test.YtchfmhhbiealcaaGreatDoorPIB12
set_option linter.unusedSimpArgs false
set_option linter.unusedVariables false
namespace Go.AM
theorem fp:type_of% @Nat.le_succ_of_le:=@Nat.le_succ_of_le
open Go Go.Proofs
open Go.Proofs.Tryz
def zE(t:Ty)(a:Int):List Int × Int:=if pC t [a]≠0 then ([],pC t [a]) else (iB t a t.nodes.length,0)
theorem aAM{t:Ty}(h:tyE t=0){a:Int}(h0:0<=a):pC t [a]=if (t.nodes.length:Int)<=a then 6 else 0:=by
 unfold pC;rw[af h];by_cases h1:(t.nodes.length:Int)<=a
 .have:¬a<t.nodes.length:=by omega
  simp[bB,gF,h1,this]
 .have:a<t.nodes.length:=by omega
  simp[bB,gF,h1,this,h0]
def aP6(t:Ty)(a:Int)(nb:Nat)(box:Bxs)(x:Acc):AS :=
 ⟨tl [(19,I x.i),(18,I t.nodes.length),(7,.osl 1 (rI (iB t a x.i)) x.own),(1,I a),(2,.ptr (nb+2) 0 0)],lb nb box [(2,[[.d (nts t.nodes),.d (ets t.edges)]])],x.tok,x.nt⟩
theorem aFW(t:Ty)(ht:t.Fit)(a:Int):DC 254 [t.av,I a] (.tup [.d (ints (zE t a).1),I (zE t a).2]):=by
 intro tok nt box nb;have qo:=ht.n;have h1:=aFJ t ht [a] (by simp);have jf:=@aBL t [a];obtain⟨N,hN⟩:∃N,zE t a=N:=⟨_,rfl⟩
 rw[hN];unfold zE at hN;generalize pC t [a]=E at *;refine sI func254 ntmps254 fun Hb Ht=>?_
 repeat first|simp|refine sR ?_
 refine aN.data ?_;refine sD (h1 _ _) ?_;repeat first|simp|refine sR ?_
 by_cases e1:E=0
 .rw[ac (by simp[e1])] at hN;have hp:=kB (jf e1).1;apply sC;simp[e1];repeat first|simp|refine sR ?_
  apply sN;refine sL (aP6 t a nb box) (fun x=>x.i<=t.nodes.length/\TK tok nt x.tok x.nt [x.own]) (fun x=>t.nodes.length-x.i) ⟨0,.full,tok,nt⟩ ⟨ai _,(TK.start Ht).full⟩ (wM (nr0 _) rfl (by simp[ToL,lk,aGR]) (by simp[aC,lk])) ?_;rintro⟨i,own,tok',nt'⟩ S ⟨hi,htk⟩ hS;simp only[aP6] at hS hi htk;subst hS;have hw:=sW (i:=i) (by omega);have hlen:=aC2 t a i;have mu:=aGI t a i;repeat first|simp|refine sR ?_|apply sC
  refine⟨fun hlt=>?_,fun hge=>?_⟩
  .have hc:=aNF t ht i a (by omega) (by omega) hp;generalize iB t a i=L at *;repeat first|simp[hlt]|refine sR ?_
   refine sD (hc _ _) ?_;simp;cases e2:isB t i a
   .rw[e2,ac (by simp)] at mu;repeat first|simp[hw]|refine sR ?_|apply sC
    apply sE;exact⟨⟨i+1,own,tok',nt'⟩,⟨hlt,htk⟩,by simp only;omega,wM htk.le rfl (by simp[ToL,lk,mu]) (by simp[aC,lk])⟩
   .rw[e2,af rfl] at mu;repeat first|simp|refine sR ?_
    apply sC;repeat first|simp|refine sR ?_
    refine⟨⟨by omega,htk.live⟩,?_⟩;repeat first|simp[hw]|refine sR ?_
    apply sE;exact⟨⟨i+1,_,_,_⟩,⟨hlt,htk.app⟩,by simp only;omega,wM htk.app.le rfl (by simp[ToL,lk,mu]) (by simp[aC,lk])⟩
  .apply sX;simp only[AU,↓reduceIte];have:i=t.nodes.length:=by omega
   subst this;repeat first|simp|refine sR ?_
   refine sT (sG Hb Ht htk.old htk.le ?_);simp[<-hN]
 .rw[af e1] at hN;have b1:(E != 0)=true:=by simp[e1]
  apply sC;simp[b1];repeat first|simp|refine sR ?_
  refine sT (sH ?_);simp[<-hN,ints]
theorem aET(t:Ty)(ht:t.Fit)(g:Gr)(e:E)(h0:0<=e.fr/\e.fr<g.nodes.length)(h2:0<=e.to/\e.to<g.nodes.length)(box:Bxs)(nb k1 k2:Nat)(tok:Tks)(nt:Nat)(h1:box k1=some [[.d (nts t.nodes),.d (ets t.edges)]])(h3:box k2=some [[.d (ints g.nodes),.d (AM.edges g.edges)]]):
  aD prog 262 [.agg [I e.ty,I e.fr,I e.to],.ptr k1 0 0,.ptr k2 0 0] ⟨box,nb,tok,nt⟩ fun v m=>v=B (!lvE t g e)/\m=⟨box,nb,tok,nt⟩:=by
 obtain⟨ty,fr,to'⟩:=e;simp only at h0 h2;obtain⟨a,rfl⟩:=cm h0.1;obtain⟨b,rfl⟩:=cm h2.1;have ha:a<g.nodes.length:=by omega
 have hb:b<g.nodes.length:=by omega
 have hc:=aGj t ht ty g.nodes[a] g.nodes[b];have hL:lvE t g ⟨ty,a,b⟩=pE t ty g.nodes[a] g.nodes[b]:=by simp[lvE,ha,hb]
 rw[hL];generalize pE t ty g.nodes[a] g.nodes[b]=R at *;refine sI func262 ntmps262 fun Hb Ht=>?_
 have k1n:=bC Hb h1;have k2n:=bC Hb h3;repeat first|simp[lO k1n,lO k2n,h1,h3,ha,hb]|refine sR ?_
 refine sD (hc _ _) ?_;repeat first|simp|refine sR ?_
 refine sT (sH ?_);simp
def aOZ(t:Ty)(g:Gr)(nb:Nat)(box:Bxs)(tok:Tks)(nt:Nat)(i:Nat):AS :=
 ⟨tl [(12,I i),(11,I g.nodes.length),(10,.d (ints g.nodes)),(3,.ptr (nb+3) 0 0),(2,.ptr (nb+2) 0 0)],lb nb box [(3,[[.d (ints g.nodes),.d (AM.edges g.edges)]]),(2,[[.d (nts t.nodes),.d (ets t.edges)]])],tok,nt⟩
theorem aA5(t:Ty)(ht:t.Fit)(g:Gr)(hg:g.Fit)(t8:tyE t=0)(h0:∀n∈g.nodes,0<=n)(hv:∀e∈g.edges,0<=e.fr/\e.fr<g.nodes.length/\0<=e.to/\e.to<g.nodes.length):DC 202 [t.av,g.av] (B (dF t g)):=by
 intro tok nt box nb;have rc:=hg.n;have hge:=hg.e;have qo:=ht.n;obtain⟨N,hN⟩:∃N,dF t g=N:=⟨_,rfl⟩
 rw[hN];unfold dF at hN;refine sI func202 ntmps202 fun Hb Ht=>?_
 repeat first|simp|refine sR ?_
 apply sN;refine sL (aOZ t g nb box tok nt) (fun i=>i<=g.nodes.length/\cJ (lvN t) (g.nodes.take i)=true) (fun i=>g.nodes.length-i) 0 ⟨ai _,by simp[cJ]⟩ wkA ?_;rintro i S' ⟨hi,ia⟩ hS;simp only[aOZ] at hS;subst hS;have hw:=sW (i:=i) (by omega);repeat first|simp|refine sR ?_|apply sC
 refine⟨fun hlt=>?_,fun hge=>?_⟩
 .have ju:=fun h=>gA (p:=lvN t) hlt h
  have jt:=fun h=>dA (p:=lvN t) hlt ia h
  have hl:lvN t g.nodes[i]=if (t.nodes.length:Int)<=g.nodes[i] then false else eJ t g.nodes[i]:=rfl
  have hc:=aFW t ht g.nodes[i];have we:=h0 _ (aa hlt);have qq:=fun (e1:¬(t.nodes.length:Int)<=g.nodes[i])=>aEO we (by omega) (kB t8)
  have m7:=aAM (t:=t) t8 we;by_cases e1:(t.nodes.length:Int)<=g.nodes[i]
  .rw[af e1] at hl;rw[ju hl,ac (by simp)] at hN;have hR:zE t g.nodes[i]=([],6):=by rw[zE,af (by rw[m7,af e1];decide),m7,af e1]
   rw[hR] at hc;repeat first|simp[hlt]|refine sR ?_
   refine sD (hc _ _) ?_;repeat first|simp|refine sR ?_
   apply sC;repeat first|simp|refine sR ?_
   refine sT (sH ?_);simp[<-hN]
  .rw[ac e1] at hl;have qq:=qq e1;have hR:zE t g.nodes[i]=(iB t g.nodes[i] t.nodes.length,0):=by rw[zE,ac (by rw[m7,ac e1];simp)]
   rw[hR] at hc;simp only at hc;generalize iB t g.nodes[i] t.nodes.length=L at *;repeat first|simp[hlt]|refine sR ?_
   refine sD (hc _ _) ?_;repeat first|simp|refine sR ?_
   cases e2:eJ t g.nodes[i]
   .rw[e2] at hl qq;have e3:(1:Int)<L.length:=by
     have:¬L.length<=1:=fun h=>by simpa using qq.1 h
     omega
    have pp:1<L.length:=by omega
    rw[ju hl,ac (by simp)] at hN;try (simp[e3,pp])
    repeat ((first|refine sR ?_|apply sC|apply sX);simp[e3,pp])
    refine sT (sH ?_);simp[<-hN]
   .rw[e2] at hl qq;have e3:¬(1:Int)<L.length:=by
     have:=qq.2 rfl
     omega
    have pp:¬1<L.length:=by omega
    try (simp[e3,pp,hw])
    repeat ((first|refine sR ?_|apply sC|apply sX);simp[e3,pp,hw])
    apply sE;exact⟨i+1,⟨hlt,jt hl⟩,by omega,wkA⟩
 .apply sX;simp only[AU,↓reduceIte];have:i=g.nodes.length:=by omega
  subst this;rw[bh] at ia;rw[af ia] at hN;obtain⟨p,pm⟩:∃p:E->Bool,(fun e=>!lvE t g e)=p:=⟨_,rfl⟩
  have h2:=fun y (hy:y∈g.edges) box nb k1 k2 qm hk2=>aET t ht g y ⟨(hv y hy).1,(hv y hy).2.1⟩ ⟨(hv y hy).2.2.1,(hv y hy).2.2.2⟩ box nb k1 k2 tok nt qm hk2
  have t7:∀y:E,(!lvE t g y)=p y:=fun y=>by rw[<-pm]
  simp only[t7] at h2;have rh:(!bB p g.edges)=N:=by
   rw[<-hN,<-pm,cJ,bB,gb,Bool.not_not];simp
  repeat first|simp|refine sR ?_
  have i8:∀c∈[AV.ptr (nb+2) 0 0,AV.ptr (nb+3) 0 0],bF (fun k=>(lb nb box [(3,[[.d (ints g.nodes),.d (AM.edges g.edges)]]),(2,[[.d (nts t.nodes),.d (ets t.edges)]])]) k≠none) (fun _=>True) c:=by
   intro c hc;simp only[ca,List.not_mem_nil,or_false] at hc;rcases hc with h|h
   .rw[h];simp[aQ]
   .rw[h];simp[aQ]
  refine aN.of_b (eW g.edges 262 [.ptr (nb+2) 0 0,.ptr (nb+3) 0 0] p hg.e _ _ _ _ i8 (fun y hy box' nb' he=>h2 y hy box' nb' _ _ (he _ _ (by simp[aQ])) (he _ _ (by simp[aQ])))) ?_;repeat first|simp|refine sR ?_
  refine sT (sH ?_);simp[<-rh]
theorem aAR{g:Gr}(h:vG g=0):∀n∈g.nodes,0<=n:=by
 intro n hn;unfold vG at h;split at h
 .cases h
 .split at h
  .cases h
  .rename_i h1 h2;have:=d7.1 (Bool.not_eq_true _ ▸ h2) n hn
   simp[bA] at this;omega
theorem aIB(t:Ty)(ht:t.Fit)(r:Ru)(hr:r.Fit)(c:Co)(hc:c.Fit):DC 136 [t.av,r.av,c.av] (I (rC t r c)):=by
 intro tok nt box nb;have h1:=nW t ht ht.hM;have h2:=xS r hr;have h3:=aCY t ht c hc;have hv:=@wF r;have l1:=fun t8 (h:vG r.lg=0)=>aA5 t ht r.lg hr.lg t8 (aAR h) (aE h)
 have l2:=fun t8 (h:vG r.rg=0)=>aA5 t ht r.rg hr.rg t8 (aAR h) (aE h)
 obtain⟨N,hN⟩:∃N,rC t r c=N:=⟨_,rfl⟩
 rw[hN];unfold rC at hN;generalize tyE t=E at *;generalize tyN t=Z at *;generalize cQ r=S at *;refine sI func136 ntmps136 fun Hb Ht=>?_
 repeat first|simp|refine sR ?_
 refine sD (h1 _ _) ?_;repeat first|simp|refine sR ?_
 by_cases e1:E=0
 .rw[ac (by simp[e1])] at hN;apply sC;simp[e1];repeat first|simp|refine sR ?_
  refine sD (h2 _ _) ?_;repeat first|simp|refine sR ?_
  by_cases e2:S=0
  .rw[ac (by simp[e2])] at hN;obtain⟨v1,v2⟩:=hv e2;apply sC;simp[e2];repeat first|simp|refine sR ?_
   refine sD (l1 e1 v1 _ _) ?_;simp;cases e3:dF t r.lg
   .rw[e3,ac (by simp)] at hN;repeat first|simp|refine sR ?_
    apply sC;repeat first|simp|refine sR ?_
    refine sT (sH ?_);simp[<-hN]
   .rw[e3,af rfl] at hN;repeat first|simp|refine sR ?_
    refine sD (l2 e1 v2 _ _) ?_;simp;cases e4:dF t r.rg
    .rw[e4,ac (by simp)] at hN;repeat first|simp|refine sR ?_
     apply sC;repeat first|simp|refine sR ?_
     refine sT (sH ?_);simp[<-hN]
    .rw[e4,af rfl] at hN;repeat first|simp|refine sR ?_
     apply sC;repeat first|simp|refine sR ?_
     refine sD (h3 _ _) ?_;repeat first|simp|refine sR ?_
     refine sT (sH ?_);simp[<-hN]
  .rw[af e2] at hN;have b2:(S != 0)=true:=by simp[e2]
   apply sC;simp[b2];repeat first|simp|refine sR ?_
   refine sT (sH ?_);simp[<-hN]
 .rw[af e1] at hN;have b1:(E != 0)=true:=by simp[e1]
  apply sC;simp[b1];repeat first|simp|refine sR ?_
  refine sT (sH ?_);simp[<-hN]
theorem aGx(t:Ty)(ht:t.Fit)(r:Ru)(hr:r.Fit)(c:Co)(hc:c.Fit):DC 143 [t.av,r.av,c.av] (I (rC t r c)):=by
 intro tok nt box nb;have h1:=kQ t ht ht.hM;have h2:=fU r hr;have h3:=aDn t ht c hc;have hv:=@wF r;have l1:=fun (h:vG r.lg=0)=>oW t ht r.lg hr.lg (aE h)
 have l2:=fun (h:vG r.rg=0)=>oW t ht r.rg hr.rg (aE h)
 obtain⟨N,hN⟩:∃N,rC t r c=N:=⟨_,rfl⟩
 rw[hN];unfold rC at hN;generalize tyE t=E at *;generalize tyN t=Z at *;generalize cQ r=S at *;refine sI func143 ntmps143 fun Hb Ht=>?_
 repeat first|simp|refine sR ?_
 refine sD (h1 _ _) ?_;repeat first|simp|refine sR ?_
 by_cases e1:E=0
 .rw[ac (by simp[e1])] at hN;apply sC;simp[e1];repeat first|simp|refine sR ?_
  refine sD (h2 _ _) ?_;repeat first|simp|refine sR ?_
  by_cases e2:S=0
  .rw[ac (by simp[e2])] at hN;obtain⟨v1,v2⟩:=hv e2;apply sC;simp[e2];repeat first|simp|refine sR ?_
   refine sD (l1 v1 _ _) ?_;simp;cases e3:dF t r.lg
   .rw[e3,ac (by simp)] at hN;repeat first|simp|refine sR ?_
    apply sC;repeat first|simp|refine sR ?_
    refine sT (sH ?_);simp[<-hN]
   .rw[e3,af rfl] at hN;repeat first|simp|refine sR ?_
    refine sD (l2 v2 _ _) ?_;simp;cases e4:dF t r.rg
    .rw[e4,ac (by simp)] at hN;repeat first|simp|refine sR ?_
     apply sC;repeat first|simp|refine sR ?_
     refine sT (sH ?_);simp[<-hN]
    .rw[e4,af rfl] at hN;repeat first|simp|refine sR ?_
     apply sC;repeat first|simp|refine sR ?_
     refine sD (h3 _ _) ?_;repeat first|simp|refine sR ?_
     refine sT (sH ?_);simp[<-hN]
  .rw[af e2] at hN;have b2:(S != 0)=true:=by simp[e2]
   apply sC;simp[b2];repeat first|simp|refine sR ?_
   refine sT (sH ?_);simp[<-hN]
 .rw[af e1] at hN;have b1:(E != 0)=true:=by simp[e1]
  apply sC;simp[b1];repeat first|simp|refine sR ?_
  refine sT (sH ?_);simp[<-hN]
abbrev blB(l:List Bool):D:=.sl 1 (l.map fun b=>[D.raw (.bool b)])
def eU(t:Ty)(a:Nat):List Bool:=(List.range t.nodes.length).map fun (b:Nat)=>isB t (b:Int) (a:Int)
def mL(t:Ty):List (List Bool):=(List.range t.nodes.length).map (eU t)
def isD(t:Ty):D:=.sl 1 ((mL t).map fun r=>[blB r])
def ptD(nl:Bool)(l:List Int):D:=if nl=true then .raw aLK else ints l
structure Sr.Nl (s:Sr) (nl:Bool):Prop where
 n:nl=true->∀x∈s.pt.nodes,x = -1
 e:nl=true->∀x∈s.pt.edges,x = -1
def Sr.rowD(s:Sr)(nl:Bool)(fm:Nat)(N E:List Int)(out:List Mo):List D :=
 [ints s.p.nodes,AM.edges s.p.edges,ints s.g.nodes,AM.edges s.g.edges,isD s.t,ptD nl s.pt.nodes,ptD nl s.pt.edges,.raw (.bool s.inj),.raw (.int .i64 fm),ints N,ints E,.sl 2 (aHp out)]
abbrev Sr.rowF(s:Sr)(nl:Bool)(fm:Nat)(N:List Int)(a:Nat)(E:List Int)(b:Nat)(out:List Mo)(own:Own):List AV :=
 [.d (ints s.p.nodes),.d (AM.edges s.p.edges),.d (ints s.g.nodes),.d (AM.edges s.g.edges),.d (isD s.t),.d (ptD nl s.pt.nodes),.d (ptD nl s.pt.edges),B s.inj,I fm,.stk a 1 (rI N),.stk b 1 (rI E),.osl 2 (aHp out) own]
theorem Sr.row_cds{s:Sr}{nl:Bool}{fm:Nat}{N:List Int}{a:Nat}{E:List Int}{b:Nat}{out:List Mo}{own:Own}{tok:Nat->Bool}(ha:tok a=true)(hb:tok b=true):mQ tok (s.rowF nl fm N a E b out own) (s.rowD nl fm N E out) :=
 ⟨.d,.d,.d,.d,.d,.d,.d,.d,.d,.stk ha,.stk hb,.osl,trivial⟩
def gvI(nl:Bool)(l:List Int)(i:Nat):Int:=if nl=true then -1 else l.getD i 0
theorem aGf{nl:Bool}{l:List Int}{i:Nat}(h:nl=true->∀x∈l,x = -1)(hi:i<l.length)(k:Nat):gvB l i k=if 0<=gvI nl l i then decide (gvI nl l i=(k:Int)) else true:=by
 unfold gvB gvI;cases nl
 .simp
 .have:l.getD i 0 = -1:=by
   have:=h rfl _ (aa hi)
   simp[hi,this]
  rw[this];simp
theorem aCw(nl:Bool)(l:List Int)(i:Nat)(hi:i<l.length)(hl:l.length<=1000000):DC 255 [.d (ptD nl l),I i] (I (gvI nl l i)):=by
 intro tok nt box nb;cases nl
 .refine sI func255 ntmps255 fun Hb Ht=>?_
  simp only[ptD,bu,if_false];repeat first|simp[hi]|refine sR ?_
  refine⟨?_,fun h=>by rw[h] at hi;simp at hi⟩;try (simp[hi])
  repeat ((first|refine sR ?_|apply sC|apply sX);simp[hi])
  refine sT (sH ?_);simp[gvI,hi]
 .refine sI func255 ntmps255 fun Hb Ht=>?_
  simp only[ptD,if_true];try (simp)
  repeat ((first|refine sR ?_|apply sC|apply sX);simp)
  refine sT (sH ?_);simp[gvI]
theorem E.dec3(e:E)(a b c:Int):decide (e=⟨a,b,c⟩)=(decide (e.ty=a)&&(decide (e.fr=b)&&decide (e.to=c))):=by
 cases e;simp
theorem aGi(s:Sr)(h:s.Ok)(nl:Bool)(pq:s.Nl nl)(fm:Nat)(N E:List Int)(out:List Mo)(i k:Nat)(hi:i<s.p.edges.length)(hk:k<s.g.edges.length)(hf:(s.p.edges.getD i default).fr<N.length)(ht:(s.p.edges.getD i default).to<N.length):DC 257 [.cptr (s.rowD nl fm N E out) 0,I i,I k] (B (s.fitK N i k)):=by
 intro tok nt box nb;have rd:=h.p.e;have mg:i<s.pt.edges.length:=by rw[h.pe];exact hi
 have hg:=aCw nl s.pt.edges i mg (by rw[h.pe];omega);have m7:=aGf pq.e mg k;obtain⟨x1,x2,x3,x4⟩:=h.vp _ (aa hi);have pg:s.p.edges.getD i default=s.p.edges[i]:=by simp[hi]
 rw[pg] at hf ht;have y1:s.p.edges[i].fr.toNat<N.length:=by omega
 have y2:s.p.edges[i].to.toNat<N.length:=by omega
 have rb:fZ s.p N i=⟨s.p.edges[i].ty,N[s.p.edges[i].fr.toNat],N[s.p.edges[i].to.toNat]⟩:=by simp[fZ,hi,y1,y2]
 have l9:s.g.edges.getD k default=s.g.edges[k]:=by simp[hk]
 obtain⟨R,hR⟩:∃R,s.fitK N i k=R:=⟨_,rfl⟩
 rw[hR];unfold Sr.fitK at hR;rw[m7,rb,l9] at hR;generalize gvI nl s.pt.edges i=W at *;refine sI func257 ntmps257 fun Hb Ht=>?_
 repeat first|simp[Sr.rowD,hi]|refine sR ?_
 refine sD (hg _ _) ?_;simp;by_cases p01:0<=W/\W≠(k:Int)
 .obtain⟨p0,p1⟩:=p01;have b1:(W != (k:Int))=true:=by simp[p1]
  rw[af p0,ac (by simp[p1])] at hR;try (simp[p0,b1])
  repeat ((first|refine sR ?_|apply sC|apply sX);simp[p0,b1])
  refine sT (sH ?_);simp[<-hR]
 .have hW:(if 0<=W then decide (W=(k:Int)) else true)=true:=by
   by_cases p0:0<=W
   .rw[af p0];by_cases p1:W=(k:Int)
    .simp[p1]
    .exact absurd ⟨p0,p1⟩ p01
   .rw[ac p0]
  rw[af hW,_root_.Go.AM.E.dec3] at hR;have jp:∀Q,(0<=W->(W != (k:Int))=false->Q)->(¬0<=W->Q)->Q:=by
   intro Q h1 h2;by_cases p0:0<=W
   .refine h1 p0 ?_;by_cases p1:W=(k:Int)
    .simp[p1]
    .exact absurd ⟨p0,p1⟩ p01
   .exact h2 p0
  refine jp _ (fun p0 b1=>?_) (fun p0=>?_)
  .try (simp[p0,b1,hk,x1,x3,y1,y2,hf,ht,Sr.rowD])
   repeat ((first|refine sR ?_|apply sC|apply sX);simp[p0,b1,hk,x1,x3,y1,y2,hf,ht,Sr.rowD])
   refine sT (sH ?_);simp[<-hR]
  .try (simp[p0,hk,x1,x3,y1,y2,hf,ht,Sr.rowD])
   repeat ((first|refine sR ?_|apply sC|apply sX);simp[p0,hk,x1,x3,y1,y2,hf,ht,Sr.rowD])
   refine sT (sH ?_);simp[<-hR]
def aMa(s:Sr)(nl:Bool)(fm:Nat)(N E:List Int)(out:List Mo)(nb:Nat)(box:Bxs)(tok:Tks)(nt:Nat)(i:Nat):AS :=
 ⟨tl [(20,I i),(19,I s.p.edges.length),(18,.d (AM.edges s.p.edges)),(3,I ((N.length:Int)-1)),(0,.cptr (s.rowD nl fm N E out) 0)],lb nb box [],tok,nt⟩
def aM1(s:Sr)(nl:Bool)(fm:Nat)(N E:List Int)(out:List Mo)(nb:Nat)(box:Bxs)(tok:Tks)(nt:Nat)(i:Nat)(q:Nat):AS :=
 ⟨tl [(38,I q),(37,I s.g.edges.length),(6,B false),(5,.ptr (nb+5) 0 0),(4,I i),(20,I i),(19,I s.p.edges.length),(18,.d (AM.edges s.p.edges)),(3,I ((N.length:Int)-1)),(0,.cptr (s.rowD nl fm N E out) 0)],
  lb nb box [(5,[[I (s.p.edges.getD i default).ty,I (s.p.edges.getD i default).fr,I (s.p.edges.getD i default).to]])],tok,nt⟩
theorem jT(s:Sr)(h:s.Ok)(nl:Bool)(pq:s.Nl nl)(fm:Nat)(N E:List Int)(hN:N.length<=s.p.nodes.length)(out:List Mo):DC 256 [.cptr (s.rowD nl fm N E out) 0] (B (s.pos N)):=by
 intro tok nt box nb;have rd:=h.p.e;have so:=h.p.n;have hge:=h.g.e;have qc:IntKind.i64.wrap (↑N.length-1)=(N.length:Int)-1:=aM (by omega) (by omega)
 have ji:=fun i k hi hk hf ht=>aGi s h nl pq fm N E out i k hi hk hf ht
 obtain⟨R,hR⟩:∃R,s.pos N=R:=⟨_,rfl⟩
 rw[hR];refine sI func256 ntmps256 fun Hb Ht=>?_
 repeat first|simp[Sr.rowD,qc]|refine sR ?_
 apply sN;refine sL (aMa s nl fm N E out nb box tok nt) (fun i=>i<=s.p.edges.length/\∀j,j<i->s.posE N j=true) (fun i=>s.p.edges.length-i) 0 ⟨ai _,fun j hj=>absurd hj (b8 _)⟩ (wM (nr0 _) rfl (by simp[ToL,lk,Sr.rowD]) (by simp[aC,lk])) ?_;rintro i S' ⟨hi,ik⟩ hS;simp only[aMa] at hS;subst hS;have hw:=sW (i:=i) (by omega);by_cases hlt:i<s.p.edges.length
 .have pg:s.p.edges.getD i default=s.p.edges[i]:=by simp[hlt]
  have ji:=fun k hk=>ji i k hlt hk
  obtain⟨x1,x2,x3,x4⟩:=h.vp _ (aa hlt);by_cases sd:max s.p.edges[i].fr s.p.edges[i].to=(N.length:Int)-1
  .have b1:(max s.p.edges[i].fr s.p.edges[i].to != (N.length:Int)-1)=false:=by simp[sd]
   have Bi:s.posE N i=(List.range s.g.edges.length).any (s.fitK N i):=by unfold Sr.posE;rw[pg,af sd]
   have ji:=fun k hk=>ji k hk (by rw[pg];omega) (by rw[pg];omega)
   try (simp[hlt,b1,Sr.rowD])
   repeat ((first|refine sR ?_|apply sC|apply sX);simp[hlt,b1,Sr.rowD])
   apply sN;refine sL (aM1 s nl fm N E out nb box tok nt i) (fun q=>q<=s.g.edges.length/\∀j,j<q->s.fitK N i j=false) (fun q=>s.g.edges.length-q) 0 ⟨ai _,fun j hj=>absurd hj (b8 _)⟩ (wM (nr0 _) rfl (by simp[ToL,lk,hlt,Sr.rowD]) (by simp[aC,lk,hlt])) ?_;rintro q S' ⟨DU,ju⟩ hS;simp only[aM1] at hS;subst hS;have ua:=sW (i:=q) (by omega);by_cases hq:q<s.g.edges.length
   .have hc:=ji q hq;try (simp[hq])
    repeat ((first|refine sR ?_|apply sC|apply sX);simp[hq])
    refine sD (hc _ _) ?_;cases e:s.fitK N i q
    .try (simp[ua])
     repeat ((first|refine sR ?_|apply sC|apply sX);simp[ua])
     apply sE;exact⟨q+1,⟨hq,fun j hj=>(ew j q).elim (ju j) fun hh=>by rw[show j=q by omega];exact e⟩,by omega,wM (nr0 _) rfl (by simp[ToL,lk,hlt]) (by simp[aC,lk,hlt])⟩
    .have hp:s.posE N i=true:=by
      rw[Bi,dy];exact⟨q,ay.2 hq,e⟩
     try (simp[hw])
     repeat ((first|refine sR ?_|apply sC|apply sX);simp[hw])
     apply sE;exact⟨i+1,⟨hlt,fun j hj=>(ew j i).elim (ik j) fun hh=>by rw[show j=i by omega];exact hp⟩,by omega,wkA⟩
   .have:q=s.g.edges.length:=by omega
    subst this;have hp:s.posE N i=false:=by
     rw[Bi,d7];exact fun j hj=>by simp[ju j (ay.1 hj)]
    rw[Sr.pos_false hlt hp] at hR;try (simp)
    repeat ((first|refine sR ?_|apply sC|apply sX);simp)
    refine sT (sH ?_);simp[<-hR]
  .have b1:(max s.p.edges[i].fr s.p.edges[i].to != (N.length:Int)-1)=true:=by simp[sd]
   have hp:s.posE N i=true:=by unfold Sr.posE;rw[pg,ac sd]
   try (simp[hlt,b1,hw])
   repeat ((first|refine sR ?_|apply sC|apply sX);simp[hlt,b1,hw])
   apply sE;exact⟨i+1,⟨hlt,fun j hj=>(ew j i).elim (ik j) fun hh=>by rw[show j=i by omega];exact hp⟩,by omega,wkA⟩
 .have:i=s.p.edges.length:=by omega
  subst this;rw[Sr.pos_true ik] at hR;try (simp)
  repeat ((first|refine sR ?_|apply sC|apply sX);simp)
  refine sT (sH ?_);simp[<-hR]
def QFd(s:Sr)(nl:Bool)(fm:Nat)(box:Bxs)(nb k:Nat)(mtok:Tks)(nt0 nt:Nat)(N E:List Int)(R:List Mo)(v:AV)(m:bH):Prop :=
 v=.tup []/\∃a b own tok nt',m=⟨upd box k (some [s.rowF nl fm N a E b R own]),nb,tok,nt'⟩/\TK mtok nt0 tok nt' [.tok a,.tok b,own]/\nt<=nt'
theorem eQ{s:Sr}{nl:Bool}{fm:Nat}{N E:List Int}{a b:Nat}{out:List Mo}{own:Own}{box:Bxs}{k base:Nat}{p q:Nat->Prop}(hq:q=fun _=>True):∀k' rows,k'<base->(upd box k (some [s.rowF nl fm N a E b out own])) k'=some rows->box k'=some rows∨∀r∈rows,∀x∈r,bF p q x:=by
 subst hq;intro k' rows jv hr;by_cases e:k'=k
 .subst e;rw[uS] at hr;cases hr;exact .inr (by simp)
 .rw[uO _ _ e] at hr;exact .inl hr
theorem aGW{c:Addr->Option Value}{ps:Addr->Prop}{xs:List Int}{vs:List Value}(h:cN c ps 1 (rI xs) vs):∀j,j<xs.length->vs[j]?=some (.int .i64 (xs.getD j 0)):=by
 intro j hj;have nk:j<(rI xs).length:=by simpa using hj
 obtain⟨u,h1,h2⟩:=h.read j 0 nk (by simp);rw[gz,fl] at h1;have e:(rI xs)[j][0]'(by simp)=D.raw (.int .i64 xs[j]):=by simp
 rw[e] at h2;cases h2;rw[h1];simp[hj]
theorem aDB(xs:List Int)(hx:xs.length<=1000000)(t:Nat)(tok:Tks)(nt:Nat)(ht:tok t=true):cZ prog 83 [.stk t 1 (rI xs)] tok nt (.d (ints xs)) tok nt:=by
 intro box nb;refine⟨iC.mk func83 rfl (by kernel_rfl),fun G w vals hm hr=>?_⟩;obtain⟨hlen,ql⟩:=hr
 match vals,hlen with
 | [v],_ =>
  have h0:=ql 0 (by simp) (by simp);simp only[ck] at h0;cases h0 with|stk h0 =>
  obtain⟨h1,A,cap,rfl,i8,i9,h2⟩:=h0;obtain⟨_,x,yn⟩:=hm.toks t ht;have h3:=h2 x yn;have hl:(rI xs).length=xs.length:=by simp
  rw[hl] at i8 ⊢;cases A with
  | none =>
   have he:xs=[]:=by
    cases x with
    | none=>exact dj.1 (by simp only at h3;omega)
    | some g=>cases h3.1
   subst he;refine(Tryz.slices_Clone_int_nil _ cap w).mono ?_;rintro e w' ⟨rfl,rfl⟩;exact⟨_,_,_,G,rfl,⟨rfl,rfl⟩,rfl,hm,.d (.sl (es:=[]) (fun _ _=>default) (nr0 _) (by decide) (by simp) (by simp) (by simp) (by simp)),Le.refl _ _,fun k hk=>⟨hk,rfl⟩⟩
  | some a =>
   by_cases e:xs=[]
   .subst e;refine(Tryz.slices_Clone_int_zero a cap w).mono ?_;rintro e w' ⟨v,rfl,hown,hnn,hb⟩;exact⟨v,_,_,G,rfl,⟨rfl,rfl⟩,rfl,fB hm hb,.d (nK hm hown),gX hm hb,fun k hk=>⟨hk,rfl⟩⟩
   .have hne:xs.length≠0:=fun h=>e (dj.1 h)
    cases x with
    | none=>simp only at h3;omega
    | some g =>
     obtain⟨hA,vs,sp,et,hg,hh,lw,pu,_⟩:=h3;cases hA;have hc:∀j,j<xs.length->w.cell? ⟨g,0+j,none⟩=some (.int .i64 (xs.getD j 0)):=by
      intro j hj;have:=aGW pu j hj
      rw[cd,e8 w g _ _ et (0,0) hh];have y7:j<vs.length:=by rw[pu.len];simpa using hj
      simp only[d5,bi y7];exact this
     have:=Tryz.slices_Clone_int g 0 xs.length cap xs w (nr0 _) (by omega) hc
     rw[bh] at this;refine this.mono ?_;rintro e w' ⟨v,rfl,hown,hnn,hb⟩;exact⟨v,_,_,G,rfl,⟨rfl,rfl⟩,rfl,fB hm hb,.d (nK hm hown),gX hm hb,fun k hk=>⟨hk,rfl⟩⟩
structure aQn where
 i:Nat
 out:List Mo
 a:Nat
 b:Nat
 own:Own
 tok:Nat->Bool
 nt:Nat
def Sr.stEp(s:Sr)(fm:Nat)(N E:List Int)(n:Nat)(out:List Mo)(k:Nat):List Mo:=if s.okE N E k=true then iJ fm (s.okE N) s.g.edges.length N n (E++[(k:Int)]) out else out
def aL6(s:Sr)(nl:Bool)(fm:Nat)(N E:List Int)(nb k:Nat)(box:Bxs)(x:aQn):AS :=
 ⟨tl [(164,I x.i),(163,I s.g.edges.length),(162,.d (AM.edges s.g.edges)),(6,I E.length),(0,.ptr k 0 0)],lb nb (upd box k (some [s.rowF nl fm N x.a E x.b x.out x.own])) [],x.tok,x.nt⟩
theorem dI(E:List Int)(v:Int):List.take E.length (rI (E++[v]))=rI E:=by
 unfold rI;rw[c7,c8 (by simp),ak (by simp)]
set_option maxRecDepth 100000 in
theorem aKE(s:Sr)(h:s.Ok)(nl:Bool)(pq:s.Nl nl)(fm:Nat)(yc:fm<=1000000)(N:List Int)(hN:N.length=s.p.nodes.length)(mtok:Tks)(nt0:Nat):∀(n:Nat) (E:List Int) (out:List Mo) (a b:Nat) (own:Own) (box:Bxs) (nb k:Nat) (tok:Tks) (nt:Nat),E.length+n=s.p.edges.length->out.length<=fm ->
  box k=some [s.rowF nl fm N a E b out own]->TK mtok nt0 tok nt [.tok a,.tok b,own]->aD prog 199 [.ptr k 0 0] ⟨box,nb,tok,nt⟩ (QFd s nl fm box nb k mtok nt0 nt N E (iJ fm (s.okE N) s.g.edges.length N n E out)):=by
 have so:=h.p.n;have rd:=h.p.e;have rc:=h.g.n;have hge:=h.g.e;intro n;induction n with
 | zero =>
  intro E out a b own box nb k tok nt hE ho hk htk;have ix:box=upd box k (some [s.rowF nl fm N a E b out own]):=(cM box k _ hk).symm
  refine sI func199 ntmps199 fun Hb Ht=>?_
  have g9:=bC Hb hk;have B8:E.length=s.p.edges.length:=by omega
  repeat first|simp[lO g9,hk]|refine sR ?_
  by_cases hbig:out.length=fm
  .have b1:((out.length:Int)==(fm:Int))=true:=by simp[hbig]
   try (simp[lO g9,hk,b1])
   repeat ((first|refine sR ?_|apply sC|apply sX);simp[lO g9,hk,b1])
   apply sN;apply sE;refine⟨by simp,(Fin.own (vs:=[]) (av:=.tup []) (by simp[aP,bI]) Hb rfl (nr0 _) (by simp)).mono fun v m hq=>⟨hq.1,a,b,own,tok,nt,?_,htk,nr0 _⟩⟩;rw[hq.2,iJ,af hbig,<-ix]
  .have b1:((out.length:Int)==(fm:Int))=false:=by simp;omega
   have ug:tok a=true:=htk.live
   have u9:tok b=true:=htk.swap.live
   try (simp[lO g9,hk,b1,hN,B8])
   repeat ((first|refine sR ?_|apply sC|apply sX);simp[lO g9,hk,b1,hN,B8])
   refine sD (aDB N (by omega) a _ _ ug) ?_;simp[lO g9,hk];refine sD (aDB E (by omega) b _ _ u9) ?_;simp[lO g9,hk];refine⟨⟨by omega,htk.pick3.live⟩,?_⟩;simp only[uL g9];apply sN;apply sE;have ie:=htk.pick3.app.put3;refine⟨by simp,(Fin.gen (vs:=[]) (av:=.tup []) (tok':=upd (own.kill tok) nt true) (nt':=nt+1) (by simp[aP,bI]) ?_ (by omega) (nr0 _) (fun t h=>⟨h,.inl rfl⟩) ?_ (by simp)).mono fun v m hq=>⟨hq.1,a,b,.tok nt,_,nt+1,?_,ie,by omega⟩⟩
   .rw[<-uL g9,Hb]
   .intro k' rows jv hr;by_cases e:k'=k
    .subst e;rw[uS] at hr;cases hr;exact .inr (by simp)
    .rw[uO _ _ e] at hr;exact .inl hr
   .rw[hq.2,iJ,ac hbig];simp[Sr.rowF]
 | succ n ih =>
  intro E out a b own box nb k tok nt hE ho hk htk;have ix:box=upd box k (some [s.rowF nl fm N a E b out own]):=(cM box k _ hk).symm
  have hlt:E.length<s.p.edges.length:=by omega
  refine sI func199 ntmps199 fun Hb Ht=>?_
  have g9:=bC Hb hk;repeat first|simp[lO g9,hk]|refine sR ?_
  by_cases hbig:out.length=fm
  .have b1:((out.length:Int)==(fm:Int))=true:=by simp[hbig]
   try (simp[lO g9,hk,b1])
   repeat ((first|refine sR ?_|apply sC|apply sX);simp[lO g9,hk,b1])
   apply sN;apply sE;refine⟨by simp,(Fin.own (vs:=[]) (av:=.tup []) (by simp[aP,bI]) Hb rfl (nr0 _) (by simp)).mono fun v m hq=>⟨hq.1,a,b,own,tok,nt,?_,htk,nr0 _⟩⟩;rw[hq.2,iJ,af hbig,<-ix]
  .have b1:((out.length:Int)==(fm:Int))=false:=by simp;omega
   try (simp[lO g9,hk,b1,hN,hlt])
   repeat ((first|refine sR ?_|apply sC|apply sX);simp[lO g9,hk,b1,hN,hlt])
   apply sN;have mh:∀loc,lb nb box loc=lb nb (upd box k (some [s.rowF nl fm N a E b out own])) loc:=fun loc=>by rw[<-ix]
   rw[mh];refine sL (aL6 s nl fm N E nb k box) (fun x=>x.i<=s.g.edges.length/\x.out=(List.range x.i).foldl (s.stEp fm N E n) out/\x.out.length<=fm/\TK mtok nt0 x.tok x.nt [.tok x.a,.tok x.b,x.own]/\nt<=x.nt) (fun x=>s.g.edges.length-x.i)
    ⟨0,out,a,b,own,tok,nt⟩ ⟨ai _,rfl,ho,htk,nr0 _⟩ (aS.mk' (nr0 _) (by simp[ToL,lk];exact aI (by rw[lO g9,uS];simp)) (by simp[aC,lk]) (eQ rfl)) ?_
   rintro⟨i,ii,a2,b2,im,io,iz⟩ S ⟨hi,jm,kg,ie,lj⟩ hS;simp only[aL6] at hS hi jm kg ie lj;subst hS;have hw:IntKind.i64.wrap (↑i+1)=((i+1:Nat):Int):=by rw[aM (by omega) (by omega)];omega
   have iq:(List.range (i+1)).foldl (s.stEp fm N E n) out=s.stEp fm N E n ii i:=by
    rw[jm,cn,ek];rfl
   have ug:io a2=true:=ie.live
   have u9:io b2=true:=ie.swap.live
   by_cases iw:i<s.g.edges.length
   .obtain⟨x1,x2,x3,x4⟩:=h.vp _ (aa hlt);have pg:s.p.edges.getD E.length default=s.p.edges[E.length]:=by simp[hlt]
    have ji:=aGi s h nl pq fm N E ii E.length i hlt iw (by rw[pg];omega) (by rw[pg];omega);have jh:=s.okE_eq N E i;try (simp[lO g9,uS,iw])
    repeat ((first|refine sR ?_|apply sC|apply sX);simp[lO g9,uS,iw])
    refine aN.of_r (cW.lends rfl (fun tok=>ji tok iz) ⟨.ptr (by simp only[lO g9,uS]) (Sr.row_cds (own:=im) ug u9),.same (by simp),.same (by simp),trivial⟩) ?_;cases e1:s.fitK N E.length i
    .have ia:s.okE N E i=false:=by rw[jh,e1];rfl
     try (simp[lO g9,uS,hw])
     repeat ((first|refine sR ?_|apply sC|apply sX);simp[lO g9,uS,hw])
     apply sE;exact⟨⟨i+1,ii,a2,b2,im,io,iz⟩,⟨iw,by rw[iq,Sr.stEp,ia];simp,kg,ie,lj⟩,by simp only;omega,aS.mk' (by have:=ie.le;omega) (by simp[ToL,lk];exact aI (by rw[lO g9,uS];simp)) (by simp[aC,lk]) (eQ rfl)⟩
    .have jh:s.okE N E i=!usB s.inj E i:=by rw[jh,e1];simp
     have skip:∀Q:Prop,(s.inj=true->decide ((i:Int)∈E)=true->Q)->(s.inj=true->decide ((i:Int)∈E)=false->Q)->(s.inj=false->Q)->Q:=by
      intro Q h1 h2 h3;cases ei:s.inj
      .exact h3 ei
      .cases ed:decide ((i:Int)∈E)
       .exact h2 ei ed
       .exact h1 ei ed
     refine skip _ (fun ei ed=>?_) (fun ei ed=>?_) (fun ei=>?_)
     .have ia:s.okE N E i=false:=by rw[jh,usB,af ei,ed];rfl
      simp[lO g9,uS,ei];refine aN.of_r (cW.lends rfl (fun tok=>bQ E i (by omega) tok iz) ⟨.stk u9,.same (by simp),trivial⟩) ?_;rw[ed];try (simp[hw])
      repeat ((first|refine sR ?_|apply sC|apply sX);simp[hw])
      apply sE;exact⟨⟨i+1,ii,a2,b2,im,io,iz⟩,⟨iw,by rw[iq,Sr.stEp,ia];simp,kg,ie,lj⟩,by simp only;omega,aS.mk' (by have:=ie.le;omega) (by simp[ToL,lk];exact aI (by rw[lO g9,uS];simp)) (by simp[aC,lk]) (eQ rfl)⟩
     .have ia:s.okE N E i=true:=by rw[jh,usB,af ei,ed];rfl
      simp[lO g9,uS,ei];refine aN.of_r (cW.lends rfl (fun tok=>bQ E i (by omega) tok iz) ⟨.stk u9,.same (by simp),trivial⟩) ?_;rw[ed];try (simp[lO g9,uS])
      repeat ((first|refine sR ?_|apply sC|apply sX);simp[lO g9,uS])
      refine⟨⟨by omega,u9⟩,?_⟩;have iy:=ie.swap.app.swap;simp only[uL g9,bD];try (simp[lO g9,uS])
      repeat ((first|refine sR ?_|apply sC|apply sX);simp[lO g9,uS])
      refine aN.of_a (ih (E++[(i:Int)]) ii a2 iz im _ _ k _ _ (by simp;omega) kg (by simp[lO g9,uS]) iy) ?_;rintro v m' ⟨rfl,a3,b3,ja,i6,jz,rfl,mm,m8⟩;have m8:iz+1<=jz:=m8
      have ph:nt<=jz:=by omega
      simp[uL g9,bD];try (simp[lO g9,uS,dI,hw])
      repeat ((first|refine sR ?_|apply sC|apply sX);simp[lO g9,uS,dI,hw])
      simp only[uL g9,bD];apply sE;exact⟨⟨i+1,iJ fm (s.okE N) s.g.edges.length N n (E++[(i:Int)]) ii,a3,b3,ja,i6,jz⟩,⟨iw,by rw[iq,Sr.stEp,ia];simp,mW kg,mm,by omega⟩,by simp only;omega,aS.mk' ph (by simp[ToL,lk];exact aI (by rw[lO g9,uS];simp)) (by simp[aC,lk]) (eQ rfl)⟩
     .have ia:s.okE N E i=true:=by rw[jh,usB,ac (by simp[ei])];rfl
      simp[lO g9,uS,ei];try (simp[lO g9,uS])
      repeat ((first|refine sR ?_|apply sC|apply sX);simp[lO g9,uS])
      refine⟨⟨by omega,u9⟩,?_⟩;have iy:=ie.swap.app.swap;simp only[uL g9,bD];try (simp[lO g9,uS])
      repeat ((first|refine sR ?_|apply sC|apply sX);simp[lO g9,uS])
      refine aN.of_a (ih (E++[(i:Int)]) ii a2 iz im _ _ k _ _ (by simp;omega) kg (by simp[lO g9,uS]) iy) ?_;rintro v m' ⟨rfl,a3,b3,ja,i6,jz,rfl,mm,m8⟩;have m8:iz+1<=jz:=m8
      have ph:nt<=jz:=by omega
      simp[uL g9,bD];try (simp[lO g9,uS,dI,hw])
      repeat ((first|refine sR ?_|apply sC|apply sX);simp[lO g9,uS,dI,hw])
      simp only[uL g9,bD];apply sE;exact⟨⟨i+1,iJ fm (s.okE N) s.g.edges.length N n (E++[(i:Int)]) ii,a3,b3,ja,i6,jz⟩,⟨iw,by rw[iq,Sr.stEp,ia];simp,mW kg,mm,by omega⟩,by simp only;omega,aS.mk' ph (by simp[ToL,lk];exact aI (by rw[lO g9,uS];simp)) (by simp[aC,lk]) (eQ rfl)⟩
   .have:i=s.g.edges.length:=by omega
    subst this;try (simp[lO g9,uS])
    repeat ((first|refine sR ?_|apply sC|apply sX);simp[lO g9,uS])
    apply sN;apply sE;refine⟨by simp,(Fin.gen (vs:=[]) (av:=.tup []) (tok':=io) (nt':=iz) (by simp[aP,bI]) ?_ lj (nr0 _) (fun t h=>⟨h,.inl rfl⟩) (eQ (by simp)) (by simp)).mono fun v m hq=>⟨hq.1,a2,b2,im,io,iz,?_,ie,lj⟩⟩
    .rw[<-uL g9,Hb]
    .rw[hq.2,iJ,ac hbig,jm];rfl
def Sr.stNp(s:Sr)(fm:Nat)(N:List Int)(r:Nat)(out:List Mo)(k:Nat):List Mo :=
 if s.okN N k=true then (if s.pos (N++[(k:Int)])=true then s.fnP fm r (N++[(k:Int)]) out else out) else out
def aL0(s:Sr)(nl:Bool)(fm:Nat)(N:List Int)(nb k:Nat)(box:Bxs)(x:aQn):AS :=
 ⟨tl [(63,I x.i),(62,I s.g.nodes.length),(61,.d (ints s.g.nodes)),(2,I N.length),(0,.ptr k 0 0)],lb nb (upd box k (some [s.rowF nl fm N x.a [] x.b x.out x.own])) [],x.tok,x.nt⟩
theorem aBc{t:Ty}{a:Nat}(h:a<t.nodes.length):(mL t)[a]'(by simp[mL];exact h)=eU t a:=by simp[mL]
set_option maxRecDepth 100000 in
theorem aKt(s:Sr)(h:s.Ok)(nl:Bool)(pq:s.Nl nl)(fm:Nat)(yc:fm<=1000000)(mtok:Tks)(nt0:Nat):∀(r:Nat) (N:List Int) (out:List Mo) (a b:Nat) (own:Own) (box:Bxs) (nb k:Nat) (tok:Tks) (nt:Nat),N.length+r=s.p.nodes.length->out.length<=fm ->
  box k=some [s.rowF nl fm N a [] b out own]->TK mtok nt0 tok nt [.tok a,.tok b,own]->aD prog 199 [.ptr k 0 0] ⟨box,nb,tok,nt⟩ (QFd s nl fm box nb k mtok nt0 nt N [] (s.fnP fm r N out)):=by
 have so:=h.p.n;have rd:=h.p.e;have rc:=h.g.n;have hge:=h.g.e;have qo:=h.t.n;intro r;induction r with
 | zero =>
  intro N out a b own box nb k tok nt hN ho hk htk;exact aKE s h nl pq fm yc N (by omega) mtok nt0 s.p.edges.length [] out a b own box nb k tok nt (by simp) ho hk htk
 | succ r ih =>
  intro N out a b own box nb k tok nt hN ho hk htk;have ix:box=upd box k (some [s.rowF nl fm N a [] b out own]):=(cM box k _ hk).symm
  have hlt:N.length<s.p.nodes.length:=by omega
  refine sI func199 ntmps199 fun Hb Ht=>?_
  have g9:=bC Hb hk;repeat first|simp[lO g9,hk]|refine sR ?_
  by_cases hbig:out.length=fm
  .have b1:((out.length:Int)==(fm:Int))=true:=by simp[hbig]
   try (simp[lO g9,hk,b1])
   repeat ((first|refine sR ?_|apply sC|apply sX);simp[lO g9,hk,b1])
   apply sN;apply sE;refine⟨by simp,(Fin.own (vs:=[]) (av:=.tup []) (by simp[aP,bI]) Hb rfl (nr0 _) (by simp)).mono fun v m hq=>⟨hq.1,a,b,own,tok,nt,?_,htk,nr0 _⟩⟩;rw[hq.2,Sr.fnP,zP,af hbig,<-ix]
  .have b1:((out.length:Int)==(fm:Int))=false:=by simp;omega
   try (simp[lO g9,hk,b1,hlt])
   repeat ((first|refine sR ?_|apply sC|apply sX);simp[lO g9,hk,b1,hlt])
   apply sN;have mh:∀loc,lb nb box loc=lb nb (upd box k (some [s.rowF nl fm N a [] b out own])) loc:=fun loc=>by rw[<-ix]
   rw[mh];refine sL (aL0 s nl fm N nb k box) (fun x=>x.i<=s.g.nodes.length/\x.out=(List.range x.i).foldl (s.stNp fm N r) out/\x.out.length<=fm/\TK mtok nt0 x.tok x.nt [.tok x.a,.tok x.b,x.own]/\nt<=x.nt) (fun x=>s.g.nodes.length-x.i)
    ⟨0,out,a,b,own,tok,nt⟩ ⟨ai _,rfl,ho,htk,nr0 _⟩ (aS.mk' (nr0 _) (by simp[ToL,lk];exact aI (by rw[lO g9,uS];simp)) (by simp[aC,lk]) (eQ rfl)) ?_
   rintro⟨i,ii,a2,b2,im,io,iz⟩ S ⟨hi,jm,kg,ie,lj⟩ hS;simp only[aL0] at hS hi jm kg ie lj;subst hS;have hw:IntKind.i64.wrap (↑i+1)=((i+1:Nat):Int):=by rw[aM (by omega) (by omega)];omega
   have iq:(List.range (i+1)).foldl (s.stNp fm N r) out=s.stNp fm N r ii i:=by
    rw[jm,cn,ek];rfl
   have ug:io a2=true:=ie.live
   have u9:io b2=true:=ie.swap.live
   by_cases iw:i<s.g.nodes.length
   .have jy:N.length<s.pt.nodes.length:=by rw[h.pn];exact hlt
    have m7:=aGf pq.n jy i;have C2:=aCw nl s.pt.nodes N.length jy (by rw[h.pn];omega);obtain⟨z1,z2⟩:=h.np _ (aa hlt);obtain⟨z3,z4⟩:=h.ng _ (aa iw);have l9:s.g.nodes.getD i 0=s.g.nodes[i]:=by simp[iw]
    have ub:s.p.nodes.getD N.length 0=s.p.nodes[N.length]:=by simp[hlt]
    obtain⟨q,hq⟩:=cm z1;obtain⟨u,hu⟩:=cm z3;have ou:q<s.t.nodes.length:=by omega
    have py:u<s.t.nodes.length:=by omega
    have ox:s.okN N i=if (if 0<=gvI nl s.pt.nodes N.length then decide (gvI nl s.pt.nodes N.length=(i:Int)) else true)=true then (if usB s.inj N i=true then false else isB s.t (u:Int) (q:Int)) else false:=by
     unfold Sr.okN;rw[m7,l9,ub,hq,hu]
    generalize gvI nl s.pt.nodes N.length=W at *;have hisD:D.sl 1 (List.map (fun r=>[blB r]) (mL s.t))=isD s.t:=rfl
    have lu:(mL s.t).length=s.t.nodes.length:=by simp[mL]
    have jj:(eU s.t q).length=s.t.nodes.length:=by simp[eU]
    have hrow:(mL s.t)[q]'(by rw[lu];exact ou)=eU s.t q:=aBc ou
    have hcol:(eU s.t q)[u]'(by rw[jj];exact py)=isB s.t (u:Int) (q:Int):=by simp[eU]
    try (simp[lO g9,uS,iw])
    repeat ((first|refine sR ?_|apply sC|apply sX);simp[lO g9,uS,iw])
    refine sD (C2 _ _) ?_;simp;by_cases p01:0<=W/\W≠(i:Int)
    .obtain⟨p0,p1⟩:=p01;have bw:(W != (i:Int))=true:=by simp[p1]
     have ia:s.okN N i=false:=by rw[ox,af p0];simp[p1]
     try (simp[lO g9,uS,p0,bw,hw])
     repeat ((first|refine sR ?_|apply sC|apply sX);simp[lO g9,uS,p0,bw,hw])
     apply sE;exact⟨⟨i+1,ii,a2,b2,im,io,iz⟩,⟨iw,by rw[iq,Sr.stNp,ia];simp,kg,ie,lj⟩,by simp only;omega,aS.mk' (by have:=ie.le;omega) (by simp[ToL,lk];exact aI (by rw[lO g9,uS];simp)) (by simp[aC,lk]) (eQ rfl)⟩
    .have hW:(if 0<=W then decide (W=(i:Int)) else true)=true:=by
      by_cases p0:0<=W
      .rw[af p0];by_cases p1:W=(i:Int)
       .simp[p1]
       .exact absurd ⟨p0,p1⟩ p01
      .rw[ac p0]
     rw[af hW] at ox;have jp:∀Q,(0<=W->(W != (i:Int))=false->Q)->(¬0<=W->Q)->Q:=by
      intro Q h1 h2;by_cases p0:0<=W
      .refine h1 p0 ?_;by_cases p1:W=(i:Int)
       .simp[p1]
       .exact absurd ⟨p0,p1⟩ p01
      .exact h2 p0
     have skip:∀Q:Prop,(s.inj=true->decide ((i:Int)∈N)=true->Q)->(s.inj=true->decide ((i:Int)∈N)=false->Q)->(s.inj=false->Q)->Q:=by
      intro Q h1 h2 h3;cases ei:s.inj
      .exact h3 ei
      .cases ed:decide ((i:Int)∈N)
       .exact h2 ei ed
       .exact h1 ei ed
     refine jp _ (fun p0 bw=>?_) (fun p0=>?_)
     .cases hB:isB s.t (u:Int) (q:Int)
      .have ia:s.okN N i=false:=by rw[ox,hB];simp
       try (simp[lO g9,uS,p0,bw,hw,hlt,hq,hu,ou,py,isD,lu,jj,hrow,hcol,hB])
       repeat ((first|refine sR ?_|apply sC|apply sX);simp[lO g9,uS,p0,bw,hw,hlt,hq,hu,ou,py,isD,lu,jj,hrow,hcol,hB])
       apply sE;exact⟨⟨i+1,ii,a2,b2,im,io,iz⟩,⟨iw,by rw[iq,Sr.stNp,ia];simp,kg,ie,lj⟩,by simp only;omega,aS.mk' (by have:=ie.le;omega) (by simp[ToL,lk];exact aI (by rw[lO g9,uS];simp)) (by simp[aC,lk]) (eQ rfl)⟩
      .rw[hB] at ox;refine skip _ (fun ei ed=>?_) (fun ei ed=>?_) (fun ei=>?_)
       .have ia:s.okN N i=false:=by rw[ox,usB,af ei,ed];rfl
        try (simp[lO g9,uS,p0,bw,hw,hlt,hq,hu,ou,py,isD,lu,jj,hrow,hcol,hB,ei])
        repeat ((first|refine sR ?_|apply sC|apply sX);simp[lO g9,uS,p0,bw,hw,hlt,hq,hu,ou,py,isD,lu,jj,hrow,hcol,hB,ei])
        refine aN.of_r (cW.lends rfl (fun tok=>bQ N i (by omega) tok iz) ⟨.stk ug,.same (by simp),trivial⟩) ?_;rw[ed];try (simp[hw])
        repeat ((first|refine sR ?_|apply sC|apply sX);simp[hw])
        apply sE;exact⟨⟨i+1,ii,a2,b2,im,io,iz⟩,⟨iw,by rw[iq,Sr.stNp,ia];simp,kg,ie,lj⟩,by simp only;omega,aS.mk' (by have:=ie.le;omega) (by simp[ToL,lk];exact aI (by rw[lO g9,uS];simp)) (by simp[aC,lk]) (eQ rfl)⟩
       .have ia:s.okN N i=true:=by rw[ox,usB,af ei,ed];rfl
        try (simp[lO g9,uS,p0,bw,hw,hlt,hq,hu,ou,py,isD,lu,jj,hrow,hcol,hB,ei])
        repeat ((first|refine sR ?_|apply sC|apply sX);simp[lO g9,uS,p0,bw,hw,hlt,hq,hu,ou,py,isD,lu,jj,hrow,hcol,hB,ei])
        refine aN.of_r (cW.lends rfl (fun tok=>bQ N i (by omega) tok iz) ⟨.stk ug,.same (by simp),trivial⟩) ?_;rw[ed];try (simp[lO g9,uS])
        repeat ((first|refine sR ?_|apply sC|apply sX);simp[lO g9,uS])
        refine⟨⟨by omega,ug⟩,?_⟩;have iy:=ie.app;simp only[uL g9,bD];have su:(upd (upd io a2 false) iz true) iz=true:=uS _ _ _
        have sx:(upd (upd io a2 false) iz true) b2=true:=iy.swap.live
        have li:=jT s h nl pq fm (N++[(i:Int)]) [] (by simp;omega) ii;try (simp[lO g9,uS])
        repeat ((first|refine sR ?_|apply sC|apply sX);simp[lO g9,uS])
        refine aN.of_r (cW.lends rfl (fun tok=>li tok (iz+1)) ⟨.ptr (row:=s.rowF nl fm (N++[(i:Int)]) iz [] b2 ii im) (by simp[lO g9,uS]) (Sr.row_cds (own:=im) su sx),trivial⟩) ?_;cases hP:s.pos (N++[(i:Int)])
        .try (simp[lO g9,uS,dI,hw])
         repeat ((first|refine sR ?_|apply sC|apply sX);simp[lO g9,uS,dI,hw])
         simp only[uL g9,bD];apply sE;exact⟨⟨i+1,ii,iz,b2,im,_,iz+1⟩,⟨iw,by rw[iq,Sr.stNp,ia,hP];simp,kg,iy,fp lj⟩,by simp only;omega,aS.mk' (fp lj) (by simp[ToL,lk];exact aI (by rw[lO g9,uS];simp)) (by simp[aC,lk]) (eQ (s:=s) (nl:=nl) (fm:=fm) (N:=N) (E:=[]) (a:=iz) (b:=b2) (out:=ii) (own:=im) rfl)⟩
        .try (simp[lO g9,uS])
         repeat ((first|refine sR ?_|apply sC|apply sX);simp[lO g9,uS])
         refine aN.of_a (ih (N++[(i:Int)]) ii iz b2 im _ _ k _ _ (by simp;omega) kg (by simp[lO g9,uS]) iy) ?_;rintro v m' ⟨rfl,a3,b3,ja,i6,jz,rfl,mm,m8⟩;have m8:iz+1<=jz:=m8
         have ph:nt<=jz:=by omega
         simp[uL g9,bD];try (simp[lO g9,uS,dI,hw])
         repeat ((first|refine sR ?_|apply sC|apply sX);simp[lO g9,uS,dI,hw])
         simp only[uL g9,bD];apply sE;exact⟨⟨i+1,s.fnP fm r (N++[(i:Int)]) ii,a3,b3,ja,i6,jz⟩,⟨iw,by rw[iq,Sr.stNp,ia,hP];simp,Sr.fnP_len h kg,mm,by omega⟩,by simp only;omega,aS.mk' ph (by simp[ToL,lk];exact aI (by rw[lO g9,uS];simp)) (by simp[aC,lk]) (eQ (s:=s) (nl:=nl) (fm:=fm) (N:=N) (E:=[]) (a:=a3) (b:=b3) (out:=s.fnP fm r (N++[(i:Int)]) ii) (own:=ja) rfl)⟩
       .have ia:s.okN N i=true:=by rw[ox,usB,ac (by simp[ei])]
        refine sR ?_;simp[lO g9,uS,p0,bw,hw,hlt,hq,hu,ou,py,isD,lu,jj,hrow,hcol,hB,ei];apply sC;simp;try (simp[lO g9,uS])
        repeat ((first|refine sR ?_|apply sC|apply sX);simp[lO g9,uS])
        refine⟨⟨by omega,ug⟩,?_⟩;have iy:=ie.app;simp only[uL g9,bD];have su:(upd (upd io a2 false) iz true) iz=true:=uS _ _ _
        have sx:(upd (upd io a2 false) iz true) b2=true:=iy.swap.live
        have li:=jT s h nl pq fm (N++[(i:Int)]) [] (by simp;omega) ii;try (simp[lO g9,uS])
        repeat ((first|refine sR ?_|apply sC|apply sX);simp[lO g9,uS])
        refine aN.of_r (cW.lends rfl (fun tok=>li tok (iz+1)) ⟨.ptr (row:=s.rowF nl fm (N++[(i:Int)]) iz [] b2 ii im) (by simp[lO g9,uS]) (Sr.row_cds (own:=im) su sx),trivial⟩) ?_;cases hP:s.pos (N++[(i:Int)])
        .try (simp[lO g9,uS,dI,hw])
         repeat ((first|refine sR ?_|apply sC|apply sX);simp[lO g9,uS,dI,hw])
         simp only[uL g9,bD];apply sE;exact⟨⟨i+1,ii,iz,b2,im,_,iz+1⟩,⟨iw,by rw[iq,Sr.stNp,ia,hP];simp,kg,iy,fp lj⟩,by simp only;omega,aS.mk' (fp lj) (by simp[ToL,lk];exact aI (by rw[lO g9,uS];simp)) (by simp[aC,lk]) (eQ (s:=s) (nl:=nl) (fm:=fm) (N:=N) (E:=[]) (a:=iz) (b:=b2) (out:=ii) (own:=im) rfl)⟩
        .try (simp[lO g9,uS])
         repeat ((first|refine sR ?_|apply sC|apply sX);simp[lO g9,uS])
         refine aN.of_a (ih (N++[(i:Int)]) ii iz b2 im _ _ k _ _ (by simp;omega) kg (by simp[lO g9,uS]) iy) ?_;rintro v m' ⟨rfl,a3,b3,ja,i6,jz,rfl,mm,m8⟩;have m8:iz+1<=jz:=m8
         have ph:nt<=jz:=by omega
         simp[uL g9,bD];try (simp[lO g9,uS,dI,hw])
         repeat ((first|refine sR ?_|apply sC|apply sX);simp[lO g9,uS,dI,hw])
         simp only[uL g9,bD];apply sE;exact⟨⟨i+1,s.fnP fm r (N++[(i:Int)]) ii,a3,b3,ja,i6,jz⟩,⟨iw,by rw[iq,Sr.stNp,ia,hP];simp,Sr.fnP_len h kg,mm,by omega⟩,by simp only;omega,aS.mk' ph (by simp[ToL,lk];exact aI (by rw[lO g9,uS];simp)) (by simp[aC,lk]) (eQ (s:=s) (nl:=nl) (fm:=fm) (N:=N) (E:=[]) (a:=a3) (b:=b3) (out:=s.fnP fm r (N++[(i:Int)]) ii) (own:=ja) rfl)⟩
     .cases hB:isB s.t (u:Int) (q:Int)
      .have ia:s.okN N i=false:=by rw[ox,hB];simp
       try (simp[lO g9,uS,p0,hw,hlt,hq,hu,ou,py,isD,lu,jj,hrow,hcol,hB])
       repeat ((first|refine sR ?_|apply sC|apply sX);simp[lO g9,uS,p0,hw,hlt,hq,hu,ou,py,isD,lu,jj,hrow,hcol,hB])
       apply sE;exact⟨⟨i+1,ii,a2,b2,im,io,iz⟩,⟨iw,by rw[iq,Sr.stNp,ia];simp,kg,ie,lj⟩,by simp only;omega,aS.mk' (by have:=ie.le;omega) (by simp[ToL,lk];exact aI (by rw[lO g9,uS];simp)) (by simp[aC,lk]) (eQ rfl)⟩
      .rw[hB] at ox;refine skip _ (fun ei ed=>?_) (fun ei ed=>?_) (fun ei=>?_)
       .have ia:s.okN N i=false:=by rw[ox,usB,af ei,ed];rfl
        try (simp[lO g9,uS,p0,hw,hlt,hq,hu,ou,py,isD,lu,jj,hrow,hcol,hB,ei])
        repeat ((first|refine sR ?_|apply sC|apply sX);simp[lO g9,uS,p0,hw,hlt,hq,hu,ou,py,isD,lu,jj,hrow,hcol,hB,ei])
        refine aN.of_r (cW.lends rfl (fun tok=>bQ N i (by omega) tok iz) ⟨.stk ug,.same (by simp),trivial⟩) ?_;rw[ed];try (simp[hw])
        repeat ((first|refine sR ?_|apply sC|apply sX);simp[hw])
        apply sE;exact⟨⟨i+1,ii,a2,b2,im,io,iz⟩,⟨iw,by rw[iq,Sr.stNp,ia];simp,kg,ie,lj⟩,by simp only;omega,aS.mk' (by have:=ie.le;omega) (by simp[ToL,lk];exact aI (by rw[lO g9,uS];simp)) (by simp[aC,lk]) (eQ rfl)⟩
       .have ia:s.okN N i=true:=by rw[ox,usB,af ei,ed];rfl
        try (simp[lO g9,uS,p0,hw,hlt,hq,hu,ou,py,isD,lu,jj,hrow,hcol,hB,ei])
        repeat ((first|refine sR ?_|apply sC|apply sX);simp[lO g9,uS,p0,hw,hlt,hq,hu,ou,py,isD,lu,jj,hrow,hcol,hB,ei])
        refine aN.of_r (cW.lends rfl (fun tok=>bQ N i (by omega) tok iz) ⟨.stk ug,.same (by simp),trivial⟩) ?_;rw[ed];try (simp[lO g9,uS])
        repeat ((first|refine sR ?_|apply sC|apply sX);simp[lO g9,uS])
        refine⟨⟨by omega,ug⟩,?_⟩;have iy:=ie.app;simp only[uL g9,bD];have su:(upd (upd io a2 false) iz true) iz=true:=uS _ _ _
        have sx:(upd (upd io a2 false) iz true) b2=true:=iy.swap.live
        have li:=jT s h nl pq fm (N++[(i:Int)]) [] (by simp;omega) ii;try (simp[lO g9,uS])
        repeat ((first|refine sR ?_|apply sC|apply sX);simp[lO g9,uS])
        refine aN.of_r (cW.lends rfl (fun tok=>li tok (iz+1)) ⟨.ptr (row:=s.rowF nl fm (N++[(i:Int)]) iz [] b2 ii im) (by simp[lO g9,uS]) (Sr.row_cds (own:=im) su sx),trivial⟩) ?_;cases hP:s.pos (N++[(i:Int)])
        .try (simp[lO g9,uS,dI,hw])
         repeat ((first|refine sR ?_|apply sC|apply sX);simp[lO g9,uS,dI,hw])
         simp only[uL g9,bD];apply sE;exact⟨⟨i+1,ii,iz,b2,im,_,iz+1⟩,⟨iw,by rw[iq,Sr.stNp,ia,hP];simp,kg,iy,fp lj⟩,by simp only;omega,aS.mk' (fp lj) (by simp[ToL,lk];exact aI (by rw[lO g9,uS];simp)) (by simp[aC,lk]) (eQ (s:=s) (nl:=nl) (fm:=fm) (N:=N) (E:=[]) (a:=iz) (b:=b2) (out:=ii) (own:=im) rfl)⟩
        .try (simp[lO g9,uS])
         repeat ((first|refine sR ?_|apply sC|apply sX);simp[lO g9,uS])
         refine aN.of_a (ih (N++[(i:Int)]) ii iz b2 im _ _ k _ _ (by simp;omega) kg (by simp[lO g9,uS]) iy) ?_;rintro v m' ⟨rfl,a3,b3,ja,i6,jz,rfl,mm,m8⟩;have m8:iz+1<=jz:=m8
         have ph:nt<=jz:=by omega
         simp[uL g9,bD];try (simp[lO g9,uS,dI,hw])
         repeat ((first|refine sR ?_|apply sC|apply sX);simp[lO g9,uS,dI,hw])
         simp only[uL g9,bD];apply sE;exact⟨⟨i+1,s.fnP fm r (N++[(i:Int)]) ii,a3,b3,ja,i6,jz⟩,⟨iw,by rw[iq,Sr.stNp,ia,hP];simp,Sr.fnP_len h kg,mm,by omega⟩,by simp only;omega,aS.mk' ph (by simp[ToL,lk];exact aI (by rw[lO g9,uS];simp)) (by simp[aC,lk]) (eQ (s:=s) (nl:=nl) (fm:=fm) (N:=N) (E:=[]) (a:=a3) (b:=b3) (out:=s.fnP fm r (N++[(i:Int)]) ii) (own:=ja) rfl)⟩
       .have ia:s.okN N i=true:=by rw[ox,usB,ac (by simp[ei])]
        refine sR ?_;simp[lO g9,uS,p0,hw,hlt,hq,hu,ou,py,isD,lu,jj,hrow,hcol,hB,ei];apply sC;simp;try (simp[lO g9,uS])
        repeat ((first|refine sR ?_|apply sC|apply sX);simp[lO g9,uS])
        refine⟨⟨by omega,ug⟩,?_⟩;have iy:=ie.app;simp only[uL g9,bD];have su:(upd (upd io a2 false) iz true) iz=true:=uS _ _ _
        have sx:(upd (upd io a2 false) iz true) b2=true:=iy.swap.live
        have li:=jT s h nl pq fm (N++[(i:Int)]) [] (by simp;omega) ii;try (simp[lO g9,uS])
        repeat ((first|refine sR ?_|apply sC|apply sX);simp[lO g9,uS])
        refine aN.of_r (cW.lends rfl (fun tok=>li tok (iz+1)) ⟨.ptr (row:=s.rowF nl fm (N++[(i:Int)]) iz [] b2 ii im) (by simp[lO g9,uS]) (Sr.row_cds (own:=im) su sx),trivial⟩) ?_;cases hP:s.pos (N++[(i:Int)])
        .try (simp[lO g9,uS,dI,hw])
         repeat ((first|refine sR ?_|apply sC|apply sX);simp[lO g9,uS,dI,hw])
         simp only[uL g9,bD];apply sE;exact⟨⟨i+1,ii,iz,b2,im,_,iz+1⟩,⟨iw,by rw[iq,Sr.stNp,ia,hP];simp,kg,iy,fp lj⟩,by simp only;omega,aS.mk' (fp lj) (by simp[ToL,lk];exact aI (by rw[lO g9,uS];simp)) (by simp[aC,lk]) (eQ (s:=s) (nl:=nl) (fm:=fm) (N:=N) (E:=[]) (a:=iz) (b:=b2) (out:=ii) (own:=im) rfl)⟩
        .try (simp[lO g9,uS])
         repeat ((first|refine sR ?_|apply sC|apply sX);simp[lO g9,uS])
         refine aN.of_a (ih (N++[(i:Int)]) ii iz b2 im _ _ k _ _ (by simp;omega) kg (by simp[lO g9,uS]) iy) ?_;rintro v m' ⟨rfl,a3,b3,ja,i6,jz,rfl,mm,m8⟩;have m8:iz+1<=jz:=m8
         have ph:nt<=jz:=by omega
         simp[uL g9,bD];try (simp[lO g9,uS,dI,hw])
         repeat ((first|refine sR ?_|apply sC|apply sX);simp[lO g9,uS,dI,hw])
         simp only[uL g9,bD];apply sE;exact⟨⟨i+1,s.fnP fm r (N++[(i:Int)]) ii,a3,b3,ja,i6,jz⟩,⟨iw,by rw[iq,Sr.stNp,ia,hP];simp,Sr.fnP_len h kg,mm,by omega⟩,by simp only;omega,aS.mk' ph (by simp[ToL,lk];exact aI (by rw[lO g9,uS];simp)) (by simp[aC,lk]) (eQ (s:=s) (nl:=nl) (fm:=fm) (N:=N) (E:=[]) (a:=a3) (b:=b3) (out:=s.fnP fm r (N++[(i:Int)]) ii) (own:=ja) rfl)⟩
   .have:i=s.g.nodes.length:=by omega
    subst this;try (simp[lO g9,uS])
    repeat ((first|refine sR ?_|apply sC|apply sX);simp[lO g9,uS])
    apply sN;apply sE;refine⟨by simp,(Fin.gen (vs:=[]) (av:=.tup []) (tok':=io) (nt':=iz) (by simp[aP,bI]) ?_ lj (nr0 _) (fun t h=>⟨h,.inl rfl⟩) (eQ (by simp)) (by simp)).mono fun v m hq=>⟨hq.1,a2,b2,im,io,iz,?_,ie,lj⟩⟩
    .rw[<-uL g9,Hb]
    .rw[hq.2,Sr.fnP,zP,ac hbig,jm];rfl
theorem aLd{p q:Nat->Prop}{k n:Nat}{L:List Bool}(h:L.length=n):To p q (some (k,1,L.map fun b=>[D.raw (.bool b)])) (.msl k 0 n 1) (.d (blB L)):=by
 have h2:=To.frz (p:=p) (q:=q) (fz:=some (k,1,L.map fun b=>[D.raw (.bool b)])) (k:=k) (sz:=1) (es:=L.map fun b=>[D.raw (.bool b)]) rfl;have:(L.map fun b=>[D.raw (.bool b)]).length=n:=by simp[h]
 rw[this] at h2;exact h2
def mkB(n:Nat)(l:List Int):List Bool:=(List.range n).map fun (b:Nat)=>decide ((b:Int)∈l)
theorem aK4(n:Nat)(l:List Int):(mkB n l).length=n:=by simp[mkB]
theorem aLD(n:Nat):List.replicate n [B false]=gI (mkB n []):=by
 refine f7 (by simp[mkB]) fun i h1 h2=>?_
 simp[gI,mkB]
theorem aLG{n:Nat}{l:List Int}{v:Int}(h0:0<=v):(mkB n l).set v.toNat true=mkB n (l++[v]):=by
 refine f7 (by simp[mkB]) fun i h1 h2=>?_
 rw[List.getElem_set];simp only[mkB,bl,gq,ap,a7];by_cases e:v.toNat=i
 .rw[af e];have:(i:Int)=v:=by omega
  simp[this]
 .rw[ac e];have:¬(i:Int)=v:=by omega
  simp[this]
theorem aLE(t:Ty)(a:Nat):mkB t.nodes.length (iB t (a:Int) t.nodes.length)=eU t a:=by
 refine f7 (by simp[mkB,eU]) fun i h1 h2=>?_
 simp only[mkB,eU,bl,gq];have hi:i<t.nodes.length:=by simpa[mkB] using h1
 unfold iB;by_cases h:isB t (i:Int) (a:Int)=true
 .rw[h,au];exact bc.2 ⟨i,ce.2 ⟨ay.2 hi,h⟩,rfl⟩
 .simp only[Bool.not_eq_true] at h;rw[h,bq];intro hm;obtain⟨x,hx,e⟩:=bc.1 hm;obtain⟨_,hx⟩:=ce.1 hx;have:x=i:=by omega
  subst this;rw[h] at hx;cases hx
theorem aGt{t:Ty}{i:Nat}(h:i<t.nodes.length):(mL t).take (i+1)=(mL t).take i++[eU t i]:=by
 have hl:i<(mL t).length:=by simp[mL];exact h
 rw[ah hl,aBc h]
def wZ(t:Ty)(i:Nat):List (List D):=((mL t).take i).map fun r=>[blB r]
theorem aGB{t:Ty}{i:Nat}(h:i<t.nodes.length):wZ t (i+1)=wZ t i++[[blB (eU t i)]]:=by
 unfold wZ;rw[aGt h,c7];rfl
theorem aIi(t:Ty)(i:Nat):(wZ t i).length<=i:=by unfold wZ;rw[br,cj];omega
def aPL(t:Ty)(nb:Nat)(box:Bxs)(x:Acc):AS :=
 ⟨tl [(13,I x.i),(12,I t.nodes.length),(11,.d (nts t.nodes)),(3,.osl 1 (wZ t x.i) x.own),(1,.ptr (nb+1) 0 0)],lb nb box [(1,[[.d (nts t.nodes),.d (ets t.edges)]])],x.tok,x.nt⟩
def aOy(t:Ty)(i:Nat)(L:List Int)(own:Own)(nb:Nat)(box:Bxs)(tok:Tks)(nt:Nat)(j:Nat):AS :=
 ⟨tl [(28,I j),(27,I L.length),(26,.d (ints L)),(5,.msl (nb+19) 0 t.nodes.length 1),(13,I i),(12,I t.nodes.length),(11,.d (nts t.nodes)),(3,.osl 1 (wZ t i) own),(1,.ptr (nb+1) 0 0)],
  lb nb box [(19,gI (mkB t.nodes.length (L.take j))),(1,[[.d (nts t.nodes),.d (ets t.edges)]])],tok,nt⟩
theorem aEa(t:Ty)(ht:t.Fit)(h0:tyE t=0):DC 198 [t.av] (.d (isD t)):=by
 intro tok nt box nb;have qo:=ht.n;have hb:=fun a=>aFW t ht a
 refine sI func198 ntmps198 fun Hb Ht=>?_
 repeat first|simp|refine sR ?_
 apply sN;refine sL (aPL t nb box) (fun x=>x.i<=t.nodes.length/\TK tok nt x.tok x.nt [x.own]) (fun x=>t.nodes.length-x.i) ⟨0,.full,tok,nt⟩ ⟨ai _,(TK.start Ht).full⟩ (wM (nr0 _) rfl (by simp[ToL,lk,wZ]) (by simp[aC,lk])) ?_;rintro⟨i,own,tok',nt'⟩ S ⟨hi,htk⟩ hS;simp only[aPL] at hS hi htk;subst hS;have hw:=sW (i:=i) (by omega);by_cases hlt:i<t.nodes.length
 .have hrow:=aLE t i;have hs:=aGB hlt;have BY:=aIi t i;have DY:zE t (i:Int)=(iB t (i:Int) t.nodes.length,0):=by
   unfold zE;rw[aAM h0 (by omega),ac (by omega)]
  have DZ:∀v∈iB t (i:Int) t.nodes.length,0<=v/\v<t.nodes.length:=by
   intro v hv;unfold iB at hv;simp only[bc,ce,ay] at hv;obtain⟨x,⟨hx,_⟩,rfl⟩:=hv;omega
  have hLl:=aC2 t (i:Int) t.nodes.length;have Dl:=hb (i:Int);rw[DY] at Dl;generalize iB t (i:Int) t.nodes.length=L at *;try (simp[hlt])
  repeat ((first|refine sR ?_|apply sC|apply sX);simp[hlt])
  refine⟨by omega,?_⟩;try (simp)
  repeat ((first|refine sR ?_|apply sC|apply sX);simp)
  refine sD (Dl _ _) ?_;simp;try (simp)
  repeat ((first|refine sR ?_|apply sC|apply sX);simp)
  apply sN;refine sL (aOy t i L own nb box tok' nt') (fun j=>j<=L.length) (fun j=>L.length-j) 0 (ai _) (wM htk.le rfl (by simp[ToL,lk]) (by simp[aC,lk,aLD])) ?_;rintro j S hj hS;simp only[aOy] at hS;subst hS;have v6:=sW (i:=j) (by omega);by_cases qz:j<L.length
  .obtain⟨v0,v1⟩:=DZ _ (aa qz);have tz:(mkB t.nodes.length (L.take j)).set L[j].toNat true=mkB t.nodes.length (L.take (j+1)):=by
    rw[aLG v0,<-List.take_succ_eq_append_getElem qz]
   have pz:=aK4 t.nodes.length (L.take j);have v2:L[j].toNat<t.nodes.length:=by omega
   try (simp[qz,v0,v1,v2,pz,v6])
   repeat ((first|refine sR ?_|apply sC|apply sX);simp[qz,v0,v1,v2,pz,v6])
   apply sE;exact⟨j+1,qz,by omega,wM htk.le rfl (by simp[ToL,lk]) (by simp[aC,lk,tz])⟩
  .have:j=L.length:=by omega
   subst this;rw[bh,hrow];refine sR ?_;simp;apply sC;simp;apply sX;simp only[AU,↓reduceIte];have n9:(eU t i).length=t.nodes.length:=by simp[eU]
   refine AL.weak (aS.frz (l':=[(5,.d (blB (eU t i))),(13,I i),(12,I t.nodes.length),(11,.d (nts t.nodes)),(3,.osl 1 (wZ t i) own),(1,.ptr (nb+1) 0 0)]) (loc':=[(1,[[.d (nts t.nodes),.d (ets t.edges)]])]) 19 1 ((eU t i).map fun b=>[D.raw (.bool b)]) htk.le rfl (by simp[lk,aD7]) (by simp[lk]) (fun e he=>by obtain⟨b,_,rfl⟩:=bc.1 he;rfl) (by simp[ToL,lk,aQ];exact aLd n9) (by simp[aC,lk])) ?_;try (simp)
   repeat ((first|refine sR ?_|apply sC|apply sX);simp)
   refine⟨⟨by omega,htk.live⟩,?_⟩;try (simp[hw])
   repeat ((first|refine sR ?_|apply sC|apply sX);simp[hw])
   apply sE;exact⟨⟨i+1,_,_,_⟩,⟨hlt,htk.app⟩,by simp only;omega,wM htk.app.le rfl (by simp[ToL,lk,hs]) (by simp[aC,lk])⟩
 .have:i=t.nodes.length:=by omega
  subst this;have Am:wZ t t.nodes.length=(mL t).map fun r=>[blB r]:=by unfold wZ;rw[ak (by simp[mL])]
  rw[Am];try (simp)
  repeat ((first|refine sR ?_|apply sC|apply sX);simp)
  apply sN;refine AL.ret ?_;try simp only[AU]
  exact⟨by simp,Fin.data (av:=.d (isD t)) (by simp[aP,bI];rfl) Hb rfl Ht htk.old htk.le (by simp[isD])⟩
theorem aHk(x:Int)(box:Bxs)(nb k:Nat)(tok:Tks)(nt:Nat)(t:Ty)(hk:box k=some [[.d (nts t.nodes),.d (ets t.edges)]]):
  aD prog 249 [I x,.ptr k 0 0] ⟨box,nb,tok,nt⟩ fun v m=>v=B (decide ((t.nodes.length:Int)<=x))/\m=⟨box,nb,tok,nt⟩:=by
 refine sI func249 ntmps249 fun Hb Ht=>?_
 have kn:=bC Hb hk;repeat first|simp[lO kn,hk]|refine sR ?_
 refine sT (sH ?_);simp
theorem aG2(x:E)(box:Bxs)(nb k:Nat)(tok:Tks)(nt:Nat)(t:Ty)(hk:box k=some [[.d (nts t.nodes),.d (ets t.edges)]]):
  aD prog 250 [.agg [I x.ty,I x.fr,I x.to],.ptr k 0 0] ⟨box,nb,tok,nt⟩ fun v m=>v=B (decide ((t.edges.length:Int)<=x.ty))/\m=⟨box,nb,tok,nt⟩:=by
 refine sI func250 ntmps250 fun Hb Ht=>?_
 have kn:=bC Hb hk;repeat first|simp[lO kn,hk]|refine sR ?_
 refine sT (sH ?_);simp
def wiN(t:Ty)(x:Int):Bool:=decide ((t.nodes.length:Int)<=x)
def wiX(t:Ty)(x:E):Bool:=decide ((t.edges.length:Int)<=x.ty)
theorem aLq{t:Ty}{g:Gr}(hv:vG g=0):pH t g=(!bB (wiN t) g.nodes&&!bB (wiX t) g.edges):=by
 obtain⟨_,h1,h2⟩:=bG hv;unfold pH bB;congr 1
 .rw[dp,aq,c9,d7];refine⟨fun h x hx=>?_,fun h x hx=>?_⟩
  .have:=h x hx
   simp[aDC,wiN] at this ⊢;omega
  .have a:=h x hx;have b:=h1 x hx;simp[aDC,wiN,bA] at a b ⊢;omega
 .rw[dp,aq,c9,d7];refine⟨fun h x hx=>?_,fun h x hx=>?_⟩
  .have:=h x hx
   simp[aEz,wiX] at this ⊢;omega
  .have a:=h x hx;have b:=h2 x hx;simp[aEz,wiX,dW,bA] at a b ⊢;omega
theorem aAU(t:Ty)(ht:t.Fit)(g:Gr)(hg:g.Fit)(hv:vG g=0):DC 192 [t.av,g.av] (B (pH t g)):=by
 intro tok nt box nb;have h1:=fun y box nb k tok nt oz=>aHk y box nb k tok nt t oz
 have h2:=fun y box nb k tok nt oz=>aG2 y box nb k tok nt t oz
 rw[aLq hv];obtain⟨p,hp⟩:∃p,wiN t=p:=⟨_,rfl⟩
 obtain⟨q,hq⟩:∃q,wiX t=q:=⟨_,rfl⟩
 have e1:∀y,decide ((t.nodes.length:Int)<=y)=p y:=fun y=>by rw[<-hp];rfl
 have e2:∀y:E,decide ((t.edges.length:Int)<=y.ty)=q y:=fun y=>by rw[<-hq];rfl
 simp only[e1] at h1;simp only[e2] at h2;rw[hp,hq];have rc:=hg.n;have hge:=hg.e;refine sI func192 ntmps192 fun Hb Ht=>?_
 repeat first|simp|refine sR ?_
 refine aN.of_b (iY g.nodes 249 [.ptr (nb+2) 0 0] p rc _ _ _ _ (fun c hc=>by rw[a7.1 hc];simp[aQ]) (fun y hy box' nb' he=>h1 y box' nb' _ _ _ (he _ _ (by simp[aQ])))) ?_;simp;cases c1:bB p g.nodes
 .repeat first|simp|refine sR ?_
  refine aN.of_b (eW g.edges 250 [.ptr (nb+2) 0 0] q hge _ _ _ _ (fun c hc=>by rw[a7.1 hc];simp[aQ]) (fun y hy box' nb' he=>h2 y box' nb' _ _ _ (he _ _ (by simp[aQ])))) ?_;repeat first|simp|refine sR ?_
  refine sT (sH ?_);simp
 .repeat first|simp|refine sR ?_
  refine sT (sH ?_);simp
def QFo(s:Sr)(fm:Nat)(box:Bxs)(nb:Nat)(tok:Tks)(nt:Nat)(v:AV)(m:bH):Prop :=
 ∃own' tok' nt',v=.osl 2 (aHp (s.fnP fm s.p.nodes.length [] [])) own'/\m=⟨box,nb,tok',nt'⟩/\TK tok nt tok' nt' [own']
set_option maxRecDepth 100000 in
theorem aJm(s:Sr)(h:s.Ok)(h0:tyE s.t=0)(nl:Bool)(pq:s.Nl nl)(fm:Nat)(yc:fm<=1000000)(box:Bxs)(nb:Nat)(tok:Tks)(nt:Nat):
  aD prog 133 [s.t.av,s.p.av,s.g.av,.agg [.d (ptD nl s.pt.nodes),.d (ptD nl s.pt.edges)],B s.inj,I fm] ⟨box,nb,tok,nt⟩ (QFo s fm box nb tok nt):=by
 have hb:=aEa s.t h.t h0;refine sI func133 ntmps133 fun Hb Ht=>?_
 repeat first|simp|refine sR ?_
 refine sD (hb _ _) ?_;simp;refine AL.weak (wM (l':=[(13,.ptr (nb+22) 0 0)]) (loc':=[(22,[[.d (ints s.p.nodes),.d (AM.edges s.p.edges),.d (ints s.g.nodes),.d (AM.edges s.g.edges),.d (isD s.t),.d (ptD nl s.pt.nodes),.d (ptD nl s.pt.edges),B s.inj,I fm,.osl 0 [] .full,.osl 0 [] .full,.osl 2 [] .full]])]) (nr0 _) rfl (by simp[ToL,lk]) (by simp[aC,lk])) ?_;refine AL.trans (iO.opn (l':=[(13,.ptr (nb+22) 0 0)]) (loc':=[(22,[[.d (ints s.p.nodes),.d (AM.edges s.p.edges),.d (ints s.g.nodes),.d (AM.edges s.g.edges),.d (isD s.t),.d (ptD nl s.pt.nodes),.d (ptD nl s.pt.edges),B s.inj,I fm,.stk nt 1 [],.osl 0 [] .full,.osl 2 [] .full]])]) 1 (by simp[CvL]) ⟨rfl,wU (aZ .same (aZ .same (aZ .same (aZ .same (aZ .same (aZ .same (aZ .same (aZ .same (aZ .same (aZ .nil (aZ .same (aZ .same aB2)))))))))))),trivial⟩) ?_;refine AL.trans (iO.opn (l':=[(13,.ptr (nb+22) 0 0)]) (loc':=[(22,[[.d (ints s.p.nodes),.d (AM.edges s.p.edges),.d (ints s.g.nodes),.d (AM.edges s.g.edges),.d (isD s.t),.d (ptD nl s.pt.nodes),.d (ptD nl s.pt.edges),B s.inj,I fm,.stk nt 1 [],.stk (nt+1) 1 [],.osl 2 [] .full]])]) 1 (by simp[CvL]) ⟨rfl,wU (aZ .same (aZ .same (aZ .same (aZ .same (aZ .same (aZ .same (aZ .same (aZ .same (aZ .same (aZ .same (aZ .nil (aZ .same aB2)))))))))))),trivial⟩) ?_;have si:=(TK.start Ht).full.full.full.app.swap.app.swap;repeat first|simp|refine sR ?_
 refine aN.of_a (aKt s h nl pq fm yc tok nt s.p.nodes.length [] [] nt (nt+1) .full _ _ (nb+22) _ _ (by simp) (by simp) (by simp[aQ]) si) ?_;rintro v m' ⟨rfl,a,b,own,io,iz,rfl,ie,iv⟩;try (simp)
 repeat ((first|refine sR ?_|apply sC|apply sX);simp)
 apply sN;refine AL.ret ?_;try simp only[AU]
 have iy:=ie.tail.tail;exact⟨by simp,(Fin.gen (av:=.osl 2 (aHp (s.fnP fm s.p.nodes.length [] [])) own) (tok':=io) (nt':=iz) (by simp[aP,bI];rfl) Hb iy.le (nr0 _) (fun t h=>⟨h,.inl rfl⟩) (fun k rows _ h=>.inl h) (by simp)).mono fun v m hq=>⟨own,io,iz,hq.1,hq.2,iy⟩⟩
def aOw(t:Ty)(p g:Gr)(nb:Nat)(box:Bxs)(tok:Tks)(nt:Nat)(i:Nat):AS :=
 ⟨tl [(24,I i),(23,I 2),(22,.d (.sl 2 [[ints p.nodes,AM.edges p.edges],[ints g.nodes,AM.edges g.edges]])),(5,.ptr (nb+5) 0 0),(4,.ptr (nb+4) 0 0),(3,.ptr (nb+3) 0 0)],lb nb box [(5,[[.d (ints g.nodes),.d (AM.edges g.edges)]]),(4,[[.d (ints p.nodes),.d (AM.edges p.edges)]]),(3,[[.d (nts t.nodes),.d (ets t.edges)]])],tok,nt⟩
theorem aCG(t:Ty)(ht:t.Fit)(p g:Gr)(hp:p.Fit)(hg:g.Fit):DC 124 [t.av,p.av,g.av] (I (gY t p g)):=by
 intro tok nt box nb;have hv:=nW t ht ht.hM;have h1:=bW p hp;have h2:=bW g hg;have h3:=aAU t ht p hp;have h4:=aAU t ht g hg;obtain⟨R,hR⟩:∃R,gY t p g=R:=⟨_,rfl⟩
 rw[hR];unfold gY at hR;generalize tyE t=E at *;generalize vG p=V at *;generalize vG g=W at *;refine sI func124 ntmps124 fun Hb Ht=>?_
 repeat first|simp|refine sR ?_
 refine sD (hv _ _) ?_;simp;by_cases e0:E=0
 .rw[ac (by simp[e0])] at hR;try (simp[e0])
  repeat ((first|refine sR ?_|apply sC|apply sX);simp[e0])
  refine⟨rfl,?_⟩;try (simp)
  repeat ((first|refine sR ?_|apply sC|apply sX);simp)
  apply sN;refine sL (aOw t p g nb box tok nt) (fun i=>i<=2/\(1<=i->V=0)/\(2<=i->W=0)) (fun i=>2-i) 0 ⟨by omega,by omega,by omega⟩ wkA ?_;rintro i S ⟨hi,g0,g1⟩ hS;simp only[aOw] at hS;subst hS;have zo:i=0∨i=1∨i=2:=by omega
  rcases zo with rfl|rfl|rfl
  .try (simp)
   repeat ((first|refine sR ?_|apply sC|apply sX);simp)
   refine sD (h1 _ _) ?_;simp;by_cases c:V=0
   .try (simp[c,show IntKind.i64.wrap 1=1 from rfl])
    repeat ((first|refine sR ?_|apply sC|apply sX);simp[c,show IntKind.i64.wrap 1=1 from rfl])
    apply sE;exact⟨1,⟨by omega,fun h=>by omega⟩,by decide,wkA⟩
   .have b:(V != 0)=true:=by simp[c]
    rw[af c] at hR;try (simp[b])
    repeat ((first|refine sR ?_|apply sC|apply sX);simp[b])
    refine sT (sH ?_);simp[hR]
  .try (simp)
   repeat ((first|refine sR ?_|apply sC|apply sX);simp)
   refine sD (h2 _ _) ?_;simp;by_cases c:W=0
   .try (simp[c,show IntKind.i64.wrap 2=2 from rfl])
    repeat ((first|refine sR ?_|apply sC|apply sX);simp[c,show IntKind.i64.wrap 2=2 from rfl])
    apply sE;exact⟨2,⟨by omega,fun _=>g0 (by omega)⟩,by decide,wkA⟩
   .have b:(W != 0)=true:=by simp[c]
    have g0:=g0 (by omega);rw[ac (by simp[g0]),af c] at hR;try (simp[b])
    repeat ((first|refine sR ?_|apply sC|apply sX);simp[b])
    refine sT (sH ?_);simp[hR]
  .have g0:=g0 (by omega);have g1:=g1 (by omega);rw[ac (by simp[g0]),ac (by simp[g1])] at hR;have h3:=h3 g0;have h4:=h4 g1;try (simp)
   repeat ((first|refine sR ?_|apply sC|apply sX);simp)
   refine sD (h3 _ _) ?_;simp;cases e3:pH t p
   .rw[e3,af rfl] at hR;try (simp)
    repeat ((first|refine sR ?_|apply sC|apply sX);simp)
    refine sT (sH ?_);simp[hR]
   .rw[e3,ac (by simp)] at hR;try (simp)
    repeat ((first|refine sR ?_|apply sC|apply sX);simp)
    refine sD (h4 _ _) ?_;simp;cases e4:pH t g
    .rw[e4,af rfl] at hR;try (simp)
     repeat ((first|refine sR ?_|apply sC|apply sX);simp)
     refine sT (sH ?_);simp[hR]
    .rw[e4,ac (by simp)] at hR;try (simp)
     repeat ((first|refine sR ?_|apply sC|apply sX);simp)
     refine sT (sH ?_);simp[hR]
 .rw[af e0] at hR;have b:(E != 0)=true:=by simp[e0]
  try (simp[b])
  repeat ((first|refine sR ?_|apply sC|apply sX);simp[b])
  refine sT (sH ?_);simp[hR]
def aPY(l r k:List Int)(nb:Nat)(box:Bxs)(tok:Tks)(nt:Nat)(i:Nat):AS :=
 ⟨tl [(11,I i),(10,I l.length),(9,.d (ints l)),(1,.d (ints r)),(2,.d (ints k))],lb nb box [],tok,nt⟩
theorem aFx(l r k:List Int)(hl:l.length<=1000000)(hr:r.length<=1000000)(hk:k.length<=1000000):DC 140 [.d (ints l),.d (ints r),.d (ints k)] (B (eA l r k)):=by
 intro tok nt box nb;have c1:=fun v=>bQ k v hk
 have c2:=fun v=>bQ r v hr
 obtain⟨N,hN⟩:∃N,eA l r k=N:=⟨_,rfl⟩
 rw[hN];refine sI func140 ntmps140 fun Hb Ht=>?_
 repeat first|simp|refine sR ?_
 apply sN;refine sL (aPY l r k nb box tok nt) (fun i=>i<=l.length/\∀j,j<i->qE l r k j=false) (fun i=>l.length-i) 0 ⟨ai _,fun j h=>absurd h (b8 _)⟩ wkA ?_;rintro i S' ⟨hi,ia⟩ hS;simp only[aPY] at hS;subst hS;have hw:=sW (i:=i) (by omega);repeat first|simp|refine sR ?_|apply sC
 refine⟨fun hlt=>?_,fun hge=>?_⟩
 .have hd:qE l r k i=if decide ((i:Int)∈k)=true then false else decide (l[i]∈r):=by simp[qE,hlt]
  have jt:qE l r k i=true->eA l r k=true:=fun h=>aAc hlt h
  have ju:qE l r k i=false->∀j,j<i+1->qE l r k j=false:=fun h j hj=>by
   rcases Nat.lt_succ_iff_lt_or_eq.1 hj with h1|h1
   .exact ia j h1
   .rw[h1];exact h
  repeat first|simp[hlt]|refine sR ?_
  refine sD (c1 _ _ _) ?_;simp;cases e1:decide ((i:Int)∈k)
  .rw[e1,ac (by simp)] at hd;have j9:¬(i:Int)∈k:=by simpa using e1
   repeat first|simp[hlt,j9]|refine sR ?_
   refine sD (c2 _ _ _) ?_;simp;cases e2:decide (l[i]∈r)
   .rw[e2] at hd;have j0:¬l[i]∈r:=by simpa using e2
    try (simp[hw,j0])
    repeat ((first|refine sR ?_|apply sC|apply sX);simp[hw,j0])
    apply sE;exact⟨i+1,⟨hlt,ju hd⟩,by omega,wkA⟩
   .rw[e2] at hd;have j0:l[i]∈r:=by simpa using e2
    rw[jt hd] at hN;try (simp[j0])
    repeat ((first|refine sR ?_|apply sC|apply sX);simp[j0])
    refine sT (sH ?_);simp[<-hN]
  .rw[e1,af rfl] at hd;have j9:(i:Int)∈k:=by simpa using e1
   try (simp[hw,j9])
   repeat ((first|refine sR ?_|apply sC|apply sX);simp[hw,j9])
   apply sE;exact⟨i+1,⟨hlt,ju hd⟩,by omega,wkA⟩
 .apply sX;simp only[AU,↓reduceIte];have:i=l.length:=by omega
  subst this;rw[aCy ia] at hN;repeat first|simp|refine sR ?_
  refine sT (sH ?_);simp[<-hN]
def aOL(l:List Int)(n:Int)(nb:Nat)(box:Bxs)(tok:Tks)(nt:Nat)(i:Nat):AS :=
 ⟨tl [(0,.d (ints l)),(1,I n),(5,I i)],lb nb box [],tok,nt⟩
theorem aFj(l:List Int)(n:Int)(hl:l.length<=1000000):DC 207 [.d (ints l),I n] (B (decide (n∈l))):=by
 intro tok nt box nb;obtain⟨N,hN⟩:∃N,decide (n∈l)=N:=⟨_,rfl⟩
 rw[hN];refine sI func207 ntmps207 fun Hb Ht=>?_
 repeat first|simp|refine sR ?_
 apply sN;refine sL (aOL l n nb box tok nt) (fun i=>i<=l.length/\n∉l.take i) (fun i=>l.length-i) 0 ⟨ai _,by simp⟩ wkA ?_;rintro i S' ⟨hi,ia⟩ hS;simp only[aOL] at hS;subst hS;have hw:=sW (i:=i) (by omega);repeat first|simp|refine sR ?_|apply sC
 refine⟨fun hlt=>?_,fun hge=>?_⟩
 .by_cases e:l[i]=n
  .have b:(l[i]==n)=true:=by simp[e]
   have hm:decide (n∈l)=true:=by rw[<-e];simp
   rw[hm] at hN;try (simp[hlt,b])
   repeat ((first|refine sR ?_|apply sC|apply sX);simp[hlt,b])
   refine sT (sH ?_);simp[<-hN]
  .have b:(l[i]==n)=false:=by simp[e]
   have ju:n∉l.take (i+1):=by
    rw[ah hlt];simp only[ap,a7,not_or];exact⟨ia,fun h=>e h.symm⟩
   try (simp[hlt,b,hw])
   repeat ((first|refine sR ?_|apply sC|apply sX);simp[hlt,b,hw])
   apply sE;exact⟨i+1,⟨hlt,ju⟩,by omega,wkA⟩
 .apply sX;simp only[AU,↓reduceIte];have:i=l.length:=by omega
  subst this;rw[bh] at ia;rw[bk ia] at hN;repeat first|simp|refine sR ?_
  refine sT (sH ?_);simp[<-hN]
def aMk(l r k:List Int)(nb:Nat)(box:Bxs)(tok:Tks)(nt:Nat)(i:Nat):AS :=
 ⟨tl [(0,.d (ints l)),(1,.d (ints r)),(2,.d (ints k)),(7,I i)],lb nb box [],tok,nt⟩
theorem yC(l r k:List Int)(hl:l.length<=1000000)(hr:r.length<=1000000)(hk:k.length<=1000000):DC 145 [.d (ints l),.d (ints r),.d (ints k)] (B (eA l r k)):=by
 intro tok nt box nb;have c1:=fun v=>aFj k v hk
 have c2:=fun v=>aFj r v hr
 obtain⟨N,hN⟩:∃N,eA l r k=N:=⟨_,rfl⟩
 rw[hN];refine sI func145 ntmps145 fun Hb Ht=>?_
 repeat first|simp|refine sR ?_
 apply sN;refine sL (aMk l r k nb box tok nt) (fun i=>i<=l.length/\∀j,j<i->qE l r k j=false) (fun i=>l.length-i) 0 ⟨ai _,fun j h=>absurd h (b8 _)⟩ wkA ?_;rintro i S' ⟨hi,ia⟩ hS;simp only[aMk] at hS;subst hS;have hw:=sW (i:=i) (by omega);repeat first|simp|refine sR ?_|apply sC
 refine⟨fun hlt=>?_,fun hge=>?_⟩
 .have hd:qE l r k i=if decide ((i:Int)∈k)=true then false else decide (l[i]∈r):=by simp[qE,hlt]
  have jt:qE l r k i=true->eA l r k=true:=fun h=>aAc hlt h
  have ju:qE l r k i=false->∀j,j<i+1->qE l r k j=false:=fun h j hj=>by
   rcases Nat.lt_succ_iff_lt_or_eq.1 hj with h1|h1
   .exact ia j h1
   .rw[h1];exact h
  repeat first|simp[hlt]|refine sR ?_
  refine sD (c1 _ _ _) ?_;simp;cases e1:decide ((i:Int)∈k)
  .rw[e1,ac (by simp)] at hd;have j9:¬(i:Int)∈k:=by simpa using e1
   repeat first|simp[hlt,j9]|refine sR ?_
   refine sD (c2 _ _ _) ?_;simp;cases e2:decide (l[i]∈r)
   .rw[e2] at hd;have j0:¬l[i]∈r:=by simpa using e2
    try (simp[hw,j0])
    repeat ((first|refine sR ?_|apply sC|apply sX);simp[hw,j0])
    apply sE;exact⟨i+1,⟨hlt,ju hd⟩,by omega,wkA⟩
   .rw[e2] at hd;have j0:l[i]∈r:=by simpa using e2
    rw[jt hd] at hN;try (simp[j0])
    repeat ((first|refine sR ?_|apply sC|apply sX);simp[j0])
    refine sT (sH ?_);simp[<-hN]
  .rw[e1,af rfl] at hd;have j9:(i:Int)∈k:=by simpa using e1
   try (simp[hw,j9])
   repeat ((first|refine sR ?_|apply sC|apply sX);simp[hw,j9])
   apply sE;exact⟨i+1,⟨hlt,ju hd⟩,by omega,wkA⟩
 .apply sX;simp only[AU,↓reduceIte];have:i=l.length:=by omega
  subst this;rw[aCy ia] at hN;repeat first|simp|refine sR ?_
  refine sT (sH ?_);simp[<-hN]
def Ru.rowK(r:Ru):List D:=[.raw (.string r.name),ints r.lg.nodes,AM.edges r.lg.edges,iE r.lsl,.raw (.int .i64 r.lv),iG r.lte,ints r.rg.nodes,AM.edges r.rg.edges,iE r.rsl,.raw (.int .i64 r.rv),iG r.rte,
 ints r.k.nodes,ints r.k.edges,ints r.i.nodes,ints r.i.edges,.raw (.bool r.inj),.raw (.int .i64 r.c.kind),zU r.c.kids,ints r.c.m.nodes,ints r.c.m.edges,ints r.c.g.nodes,AM.edges r.c.g.edges,iE r.c.sl,.raw (.int .i64 r.c.vars),iG r.c.te]
theorem aLv(r:Ru)(hr:r.Fit)(o:Ov)(ho:o.Fit):DC 139 [o.av,.cptr r.rowK 0] (B (!qW r o)):=by
 intro tok nt box nb;have c1:=aFx o.l.nodes o.r.nodes r.i.nodes ho.l.n ho.r.n hr.i.n;have c2:=aFx o.l.edges o.r.edges r.i.edges ho.l.e ho.r.e hr.i.e;obtain⟨N,hN⟩:∃N,qW r o=N:=⟨_,rfl⟩
 rw[hN];unfold qW at hN;refine sI func139 ntmps139 fun Hb Ht=>?_
 repeat first|simp[Ru.rowK]|refine sR ?_
 refine sD (c1 _ _) ?_;simp;cases e1:eA o.l.nodes o.r.nodes r.i.nodes
 .rw[e1,ac (by simp)] at hN;repeat first|simp[Ru.rowK]|refine sR ?_
  refine sD (c2 _ _) ?_;repeat first|simp|refine sR ?_
  refine sT (sH ?_);simp[<-hN]
 .rw[e1,af rfl] at hN;repeat first|simp|refine sR ?_
  refine sT (sH ?_);simp[<-hN]
structure aON where
 i:Nat
 out:List Ov
 own:Nat
 tok:Nat->Bool
 nt:Nat
abbrev iD(a b:Gr)(out:List Ov)(own:Nat):List AV:=[.d (ints a.nodes),.d (AM.edges a.edges),.d (ints b.nodes),.d (AM.edges b.edges),.stk own 6 (out.map Ov.cells)]
def aOX(a b:Gr)(box:Bxs)(nb k:Nat)(tok:Tks)(nt:Nat)(own:Nat)(out:List Ov)(v:AV)(m:bH):Prop :=
 v=.tup []/\∃own' tok' nt',m=⟨upd box k (some [iD a b out own']),nb,tok',nt'⟩/\Adv tok nt (.tok own) tok' nt' (.tok own')
def aMl(a b:Gr)(nodes es:List Int)(nb k:Nat)(box:Bxs)(x:aON):AS :=
 ⟨tl [(0,.ptr k 0 0),(1,.d (ints nodes)),(2,.d (ints es)),(7,.ptr (nb+7) 0 0),(78,.d (AM.edges a.edges)),(79,I a.edges.length),(80,I x.i)],
  lb nb (upd box k (some [iD a b x.out x.own])) [(7,[[I (lV b nodes es).ty,I (lV b nodes es).fr,I (lV b nodes es).to]])],x.tok,x.nt⟩
theorem iZ{a b:Gr}{out:List Ov}{own:Nat}{box:Bxs}{k base:Nat}{p q:Nat->Prop}(hq:q=fun _=>True):∀k' rows,k'<base->(upd box k (some [iD a b out own])) k'=some rows->box k'=some rows∨∀r∈rows,∀x∈r,bF p q x:=by
 subst hq;intro k' rows jv hr;by_cases e:k'=k
 .subst e;rw[uS] at hr;cases hr;exact .inr (by simp)
 .rw[uO _ _ e] at hr;exact .inl hr
theorem aIQ(a b:Gr)(nodes:List Int)(h:OvH a b nodes):∀(n:Nat) (es:List Int) (out:List Ov) (own:Nat) (box:Bxs) (nb k:Nat) (tok:Tks) (nt:Nat),es.length+n=b.edges.length ->
  box k=some [iD a b out own]->tok own=true->aD prog 263 [.ptr k 0 0,.d (ints nodes),.d (ints es)] ⟨box,nb,tok,nt⟩ (aOX a b box nb k tok nt own (ovE a b nodes n es out)):=by
 intro n;induction n with
 | zero =>
  intro es out own box nb k tok nt mf hk ip;have ix:box=upd box k (some [iD a b out own]):=(cM box k _ hk).symm
  refine sI func263 ntmps263 fun Hb Ht=>?_
  have g9:=bC Hb hk;refine sR ?_;simp[lO g9,hk];apply sC;simp;refine⟨fun hbig=>?_,fun pb=>?_⟩
  .apply sN;refine AL.ret ?_;try simp only[AU]
   refine⟨by simp,(Fin.own (vs:=[]) (av:=.tup []) (by simp[aP,bI]) Hb rfl (nr0 _) (by simp)).mono fun v m hq=>⟨hq.1,own,tok,nt,?_,Adv.refl ip Ht⟩⟩;have jr:2000<out.length:=by omega
   rw[hq.2,ovE,af jr,<-ix]
  .have kq:¬2000<out.length:=by omega
   have AB:es.length=b.edges.length:=by omega
   refine sR ?_;simp[lO g9,hk];apply sC;simp;refine⟨fun _=>?_,fun hne=>absurd (by omega) hne⟩;have u6:=h.fb.e;have tg:=h.fb.n;refine sR ?_;simp[lO g9,hk];refine sD (aKo a b nodes es h.fa h.va (by rw[h.n];exact nr0 _) (by omega) (by rw[h.n];omega) (by omega) (fun i _ h2 _=>h.x _ (aa h2)) _ _) ?_;simp[lO g9,hk,uL g9];refine⟨⟨by omega,ip⟩,?_⟩;apply sN;refine AL.ret ?_;try simp only[AU]
   refine⟨by simp,(Fin.gen (vs:=[]) (av:=.tup []) (tok':=upd (upd tok own false) nt true) (nt':=nt+1) (by simp[aP,bI]) ?_ (by omega) (nr0 _) (fun t h=>⟨h,.inl rfl⟩) ?_ (by simp)).mono fun v m hq=>⟨hq.1,nt,upd (upd tok own false) nt true,nt+1,?_,Adv.app ip Ht⟩⟩
   .rw[<-uL g9,Hb]
   .intro k' rows jv hr;by_cases e:k'=k
    .subst e;rw[uS] at hr;cases hr;exact .inr (by simp)
    .rw[uO _ _ e] at hr;exact .inl hr
   .rw[hq.2,ovE,ac kq];simp[iD]
 | succ n ih =>
  intro es out own box nb k tok nt mf hk ip;have ix:box=upd box k (some [iD a b out own]):=(cM box k _ hk).symm
  have x9:=h.fa.e;have u6:=h.fb.e;have tg:=h.fb.n;have hlt:es.length<b.edges.length:=by omega
  obtain⟨x1,x2,x3,x4⟩:=h.x b.edges[es.length] (aa hlt);have y1:b.edges[es.length].fr.toNat<nodes.length:=by omega
  have y2:b.edges[es.length].to.toNat<nodes.length:=by omega
  refine sI func263 ntmps263 fun Hb Ht=>?_
  have g9:=bC Hb hk;refine sR ?_;simp[lO g9,hk];apply sC;simp;refine⟨fun hbig=>?_,fun pb=>?_⟩
  .apply sN;refine AL.ret ?_;try simp only[AU]
   refine⟨by simp,(Fin.own (vs:=[]) (av:=.tup []) (by simp[aP,bI]) Hb rfl (nr0 _) (by simp)).mono fun v m hq=>⟨hq.1,own,tok,nt,?_,Adv.refl ip Ht⟩⟩;have jr:2000<out.length:=by omega
   rw[hq.2,ovE,af jr,<-ix]
  .have kq:¬2000<out.length:=by omega
   refine sR ?_;simp[lO g9,hk];apply sC;simp;refine⟨fun mt=>absurd mt (by omega),fun _=>?_⟩;refine sR ?_;simp[lO g9,hk,hlt];refine sR ?_;simp[lO g9,hk,x1,x2,x3,x4,y1,y2];refine sR ?_;simp[lO g9,hk];refine sD (gT es (by omega) _ _) ?_;simp;refine⟨⟨by omega,by simp[uS]⟩,?_⟩;refine aN.data ?_;simp only[List.map,AV.asD];rw[eY];have ko:=Adv.fresh (own:=.tok own) ip Ht;refine aN.of_a (ih (es++[-1]) out own _ _ k _ _ (by simp;omega) (by simp only[lO g9,hk]) ko.live) ?_;rintro v m' ⟨rfl,la,tok1,lc,rfl,i4⟩;simp[uL g9];have vo:Adv tok nt (.tok own) tok1 lc (.tok la):=ko.trans Ht i4
   clear i4 ko;refine sR ?_;simp[lO g9,uS];apply sN;have ra:lV b nodes es=⟨b.edges[es.length].ty,nodes[b.edges[es.length].fr.toNat],nodes[b.edges[es.length].to.toNat]⟩:=by simp[lV,hlt,y1,y2]
   refine sL (aMl a b nodes es nb k box) (fun x=>x.i<=a.edges.length/\x.out=(List.range x.i).foldl (jG a b nodes n es) (ovE a b nodes n (es++[-1]) out)/\Adv tok nt (.tok own) x.tok x.nt (.tok x.own)) (fun x=>a.edges.length-x.i)
    ⟨0,ovE a b nodes n (es++[-1]) out,la,tok1,lc⟩ ⟨ai _,rfl,vo⟩ (aS.mk' vo.le (by simp[ToL,lk,ra];exact aI (by rw[lO g9,uS];simp)) (by simp[aC,lk,ra]) (iZ rfl)) ?_
   rintro⟨i,ii,im,io,iz⟩ S ⟨hi,jm,ib⟩ hS;simp only[aMl] at hS hi jm ib;subst hS;have hw:=sW (i:=i) (by omega);refine sR ?_;simp;apply sC;simp;refine⟨fun iw=>?_,fun hge=>?_⟩
   .refine sR ?_;simp[iw];refine sR ?_;simp[lO g9,uS];have iq:(List.range (i+1)).foldl (jG a b nodes n es) (ovE a b nodes n (es++[-1]) out)=jG a b nodes n es ii i:=by
     rw[cn,ek,<-jm];rfl
    have l9:a.edges.getD i default=a.edges[i]:=by simp[iw]
    simp only[E.eq_and];first|refine Gd.dt (fun hE=>?_) (fun hE=>?_)|refine Gd.df (fun hE=>?_) (fun hE=>?_)|refine Gd.t (fun hE=>?_) (fun hE=>?_)|refine Gd.f (fun hE=>?_) (fun hE=>?_)
    .simp[hE];refine sD (bQ es i (by omega) _ _) ?_;simp[hE];apply sC;simp;refine⟨fun uw=>?_,fun jf=>?_⟩
     .refine sR ?_;simp[lO g9,uS];refine sD (gT es (by omega) _ _) ?_;simp;refine⟨⟨by omega,by simp[uS]⟩,?_⟩;refine aN.data ?_;simp only[List.map,AV.asD];rw[eY];have ko:=Adv.fresh ib.live ib.lt;refine aN.of_a (ih (es++[(i:Int)]) ii im _ _ k _ _ (by simp;omega) (by simp only[lO g9,uS]) ko.live) ?_;rintro v m' ⟨rfl,ja,i6,jz,rfl,i4⟩;simp[uL g9,bD];have kf:Adv tok nt (.tok own) i6 jz (.tok ja):=ib.trans Ht (ko.trans ib.lt i4)
      clear i4 ko;refine sR ?_;simp[hw];apply sE;refine⟨⟨i+1,ovE a b nodes n (es++[(i:Int)]) ii,ja,i6,jz⟩,⟨iw,?_,kf⟩,by simp;omega,aS.mk' kf.le (by simp[ToL,lk];exact aI (by rw[lO g9,uS];simp)) (by simp[aC,lk]) (iZ rfl)⟩;rw[iq,jG,af ⟨by rw[l9,hE],uw⟩]
     .refine sR ?_;simp[hw];apply sE;refine⟨⟨i+1,ii,im,io,iz⟩,⟨iw,?_,ib⟩,by simp;omega,aS.mk' ib.le (by simp[ToL,lk];exact aI (by rw[lO g9,uS];simp)) (by simp[aC,lk]) (iZ rfl)⟩;rw[iq,jG,ac (fun hh=>hh.2 jf)]
    .simp[hE];apply sC;simp;refine sR ?_;simp[hw];apply sE;refine⟨⟨i+1,ii,im,io,iz⟩,⟨iw,?_,ib⟩,by simp;omega,aS.mk' ib.le (by simp[ToL,lk];exact aI (by rw[lO g9,uS];simp)) (by simp[aC,lk]) (iZ rfl)⟩;rw[iq,jG,ac (fun hh=>hE (by rw[<-l9,hh.1]))]
   .apply sX;simp only[AU,↓reduceIte];have jf:i=a.edges.length:=by omega
    subst jf;apply sE;refine⟨by simp,(Fin.gen (vs:=[]) (av:=.tup []) (tok':=io) (nt':=iz) (by simp[aP,bI]) ?_ ib.le (nr0 _) (fun t h=>⟨h,.inl rfl⟩) (iZ (by simp)) (by simp)).mono fun v m hq=>⟨hq.1,im,io,iz,?_,ib⟩⟩
    .rw[<-uL g9,Hb]
    .rw[hq.2,ovE,ac kq,jm];rfl
def aMz(a b:Gr)(l:List Int)(nb k:Nat)(box:Bxs)(x:aON):AS :=
 ⟨tl [(0,.ptr k 0 0),(1,.d (ints l)),(34,.d (ints a.nodes)),(35,I a.nodes.length),(36,I x.i)],
  lb nb (upd box k (some [iD a b x.out x.own])) [],x.tok,x.nt⟩
theorem aJ7(a b:Gr)(h:NoH a b):∀(n:Nat) (l:List Int) (out:List Ov) (own:Nat) (box:Bxs) (nb k:Nat) (tok:Tks) (nt:Nat),l.length+n=b.nodes.length ->
  box k=some [iD a b out own]->tok own=true->aD prog 203 [.ptr k 0 0,.d (ints l)] ⟨box,nb,tok,nt⟩ (aOX a b box nb k tok nt own (ovN a b n l out)):=by
 intro n;induction n with
 | zero =>
  intro l out own box nb k tok nt hl hk ip;have ix:box=upd box k (some [iD a b out own]):=(cM box k _ hk).symm
  refine sI func203 ntmps203 fun Hb Ht=>?_
  have g9:=bC Hb hk;refine sR ?_;simp[lO g9,hk];apply sC;simp;refine⟨fun hbig=>?_,fun pb=>?_⟩
  .apply sN;refine AL.ret ?_;try simp only[AU]
   refine⟨by simp,(Fin.own (vs:=[]) (av:=.tup []) (by simp[aP,bI]) Hb rfl (nr0 _) (by simp)).mono fun v m hq=>⟨hq.1,own,tok,nt,?_,Adv.refl ip Ht⟩⟩;have jr:2000<out.length:=by omega
   rw[hq.2,ovN,af jr,<-ix]
  .have kq:¬2000<out.length:=by omega
   have lh:l.length=b.nodes.length:=by omega
   refine sR ?_;simp[lO g9,hk];apply sC;simp;refine⟨fun _=>?_,fun hne=>absurd (by omega) hne⟩;have u6:=h.fb.e;have tg:=h.fb.n;refine sR ?_;simp[lO g9,hk];refine aN.sub (args':=[.ptr k 0 0,.d (ints l),.d (ints [])]) ⟨Sub.refl _,Sub.refl _,Sub.nil _ _ _,trivial⟩ ?_;refine aN.of_a (aIQ a b l ⟨h.fa,h.va,h.fb,lh,by rw[lh];exact h.x⟩ b.edges.length [] out own _ _ k _ _ (by simp) (by simp only[lO g9,hk]) ip) ?_;rintro v m' ⟨rfl,la,tok1,lc,rfl,i4⟩;simp[uL g9];apply sN;refine AL.ret ?_;try simp only[AU]
   refine⟨by simp,(Fin.gen (vs:=[]) (av:=.tup []) (tok':=tok1) (nt':=lc) (by simp[aP,bI]) ?_ i4.le (nr0 _) (fun t h=>⟨h,.inl rfl⟩) (iZ (by simp)) (by simp)).mono fun v m hq=>⟨hq.1,la,tok1,lc,?_,i4⟩⟩
   .rw[<-uL g9,Hb]
   .rw[hq.2,ovN,ac kq]
 | succ n ih =>
  intro l out own box nb k tok nt hl hk ip;have ix:box=upd box k (some [iD a b out own]):=(cM box k _ hk).symm
  have x8:=h.fa.n;have tg:=h.fb.n;have hlt:l.length<b.nodes.length:=by omega
  refine sI func203 ntmps203 fun Hb Ht=>?_
  have g9:=bC Hb hk;refine sR ?_;simp[lO g9,hk];apply sC;simp;refine⟨fun hbig=>?_,fun pb=>?_⟩
  .apply sN;refine AL.ret ?_;try simp only[AU]
   refine⟨by simp,(Fin.own (vs:=[]) (av:=.tup []) (by simp[aP,bI]) Hb rfl (nr0 _) (by simp)).mono fun v m hq=>⟨hq.1,own,tok,nt,?_,Adv.refl ip Ht⟩⟩;have jr:2000<out.length:=by omega
   rw[hq.2,ovN,af jr,<-ix]
  .have kq:¬2000<out.length:=by omega
   refine sR ?_;simp[lO g9,hk];apply sC;simp;refine⟨fun mt=>absurd mt (by omega),fun _=>?_⟩;refine sR ?_;simp[lO g9,hk];refine sD (gT l (by omega) _ _) ?_;simp;refine⟨⟨by omega,by simp[uS]⟩,?_⟩;refine aN.data ?_;simp only[List.map,AV.asD];rw[eY];have ko:=Adv.fresh (own:=.tok own) ip Ht;refine aN.of_a (ih (l++[-1]) out own _ _ k _ _ (by simp;omega) (by simp only[lO g9,hk]) ko.live) ?_;rintro v m' ⟨rfl,la,tok1,lc,rfl,i4⟩;simp[uL g9];have vo:Adv tok nt (.tok own) tok1 lc (.tok la):=ko.trans Ht i4
   clear i4 ko;refine sR ?_;simp[lO g9,uS];apply sN;refine sL (aMz a b l nb k box) (fun x=>x.i<=a.nodes.length/\x.out=(List.range x.i).foldl (dB a b (ovN a b n) l) (ovN a b n (l++[-1]) out)/\Adv tok nt (.tok own) x.tok x.nt (.tok x.own)) (fun x=>a.nodes.length-x.i)
    ⟨0,ovN a b n (l++[-1]) out,la,tok1,lc⟩ ⟨ai _,rfl,vo⟩ (aS.mk' vo.le (by simp[ToL,lk];exact aI (by rw[lO g9,uS];simp)) (by simp[aC,lk]) (iZ rfl)) ?_
   rintro⟨i,ii,im,io,iz⟩ S ⟨hi,jm,ib⟩ hS;simp only[aMz] at hS hi jm ib;subst hS;have hw:=sW (i:=i) (by omega);refine sR ?_;simp;apply sC;simp;refine⟨fun iw=>?_,fun hge=>?_⟩
   .refine sR ?_;simp[iw];refine sR ?_;simp[lO g9,uS,hlt];have iq:(List.range (i+1)).foldl (dB a b (ovN a b n) l) (ovN a b n (l++[-1]) out)=dB a b (ovN a b n) l ii i:=by
     rw[cn,ek,<-jm];rfl
    have l9:a.nodes.getD i 0=a.nodes[i]:=by simp[iw]
    have hgl:b.nodes.getD l.length 0=b.nodes[l.length]:=by simp[hlt]
    simp only[aOC];first|refine Gd.dt (fun hE=>?_) (fun hE=>?_)|refine Gd.df (fun hE=>?_) (fun hE=>?_)|refine Gd.t (fun hE=>?_) (fun hE=>?_)|refine Gd.f (fun hE=>?_) (fun hE=>?_)
    .simp[hE];refine sD (bQ l i (by omega) _ _) ?_;simp[hE];apply sC;simp;refine⟨fun uw=>?_,fun jf=>?_⟩
     .refine sR ?_;simp[lO g9,uS];refine sD (gT l (by omega) _ _) ?_;simp;refine⟨⟨by omega,by simp[uS]⟩,?_⟩;refine aN.data ?_;simp only[List.map,AV.asD];rw[eY];have ko:=Adv.fresh ib.live ib.lt;refine aN.of_a (ih (l++[(i:Int)]) ii im _ _ k _ _ (by simp;omega) (by simp only[lO g9,uS]) ko.live) ?_;rintro v m' ⟨rfl,ja,i6,jz,rfl,i4⟩;simp[uL g9,bD];have kf:Adv tok nt (.tok own) i6 jz (.tok ja):=ib.trans Ht (ko.trans ib.lt i4)
      clear i4 ko;refine sR ?_;simp[hw];apply sE;refine⟨⟨i+1,ovN a b n (l++[(i:Int)]) ii,ja,i6,jz⟩,⟨iw,?_,kf⟩,by simp;omega,aS.mk' kf.le (by simp[ToL,lk];exact aI (by rw[lO g9,uS];simp)) (by simp[aC,lk]) (iZ rfl)⟩;rw[iq,dB,af ⟨by rw[l9,hgl,hE],uw⟩]
     .refine sR ?_;simp[hw];apply sE;refine⟨⟨i+1,ii,im,io,iz⟩,⟨iw,?_,ib⟩,by simp;omega,aS.mk' ib.le (by simp[ToL,lk];exact aI (by rw[lO g9,uS];simp)) (by simp[aC,lk]) (iZ rfl)⟩;rw[iq,dB,ac (fun hh=>hh.2 jf)]
    .simp[hE];apply sC;simp;refine sR ?_;simp[hw];apply sE;refine⟨⟨i+1,ii,im,io,iz⟩,⟨iw,?_,ib⟩,by simp;omega,aS.mk' ib.le (by simp[ToL,lk];exact aI (by rw[lO g9,uS];simp)) (by simp[aC,lk]) (iZ rfl)⟩;rw[iq,dB,ac (fun hh=>hE (by rw[<-l9,hh.1,hgl]))]
   .apply sX;simp only[AU,↓reduceIte];have jf:i=a.nodes.length:=by omega
    subst jf;apply sE;refine⟨by simp,(Fin.gen (vs:=[]) (av:=.tup []) (tok':=io) (nt':=iz) (by simp[aP,bI]) ?_ ib.le (nr0 _) (fun t h=>⟨h,.inl rfl⟩) (iZ (by simp)) (by simp)).mono fun v m hq=>⟨hq.1,im,io,iz,?_,ib⟩⟩
    .rw[<-uL g9,Hb]
    .rw[hq.2,ovN,ac kq,jm]
def QOl(a b:Gr)(box:Bxs)(nb:Nat)(tok:Tks)(nt:Nat)(v:AV)(m:bH):Prop :=
 ((oR a b).2≠0/\v=.tup [.osl 0 [] .full,I (oR a b).2]/\m=⟨box,nb,tok,nt⟩) ∨
 ((oR a b).2=0/\∃t tok' nt',v=.tup [.stk t 6 ((oR a b).1.map Ov.cells),I 0]/\m=⟨box,nb,tok',nt'⟩/\(∀s,tok s=true->tok' s=true/\s≠t)/\nt<=nt'/\tok' t=true/\∀s,tok' s=true->s<nt')
theorem aC6(a b:Gr)(ha:a.Fit)(hb:b.Fit)(box:Bxs)(nb:Nat)(tok:Tks)(nt:Nat):aD prog 137 [a.av,b.av] ⟨box,nb,tok,nt⟩ (QOl a b box nb tok nt):=by
 have x8:=ha.n;have x9:=ha.e;have tg:=hb.n;have u6:=hb.e;refine sI func137 ntmps137 fun Hb Ht=>?_
 refine sR ?_;simp;refine sR ?_;simp;refine⟨rfl,?_⟩;apply sN;refine sL (aPC a b nb box tok nt) (aOl a b) aSK 0 ⟨by omega,by omega,by omega⟩ wkA ?_;rintro i S ⟨hi,h0,h1⟩ hS;simp only[aPC] at hS;subst hS;refine sR ?_;simp;apply sC;simp;have zo:i=0∨i=1∨i=2:=by omega
 rcases zo with rfl|rfl|rfl
 .simp;refine sR ?_;simp;refine sR ?_;simp;refine sD (bW a ha _ _) ?_;simp;by_cases hv:vG a=0
  .refine sR ?_;simp[hv];apply sC;simp;refine sR ?_;simp[show IntKind.i64.wrap 1=1 from rfl];apply sE;refine⟨1,⟨by omega,fun _=>hv,by omega⟩,by decide,wkA⟩
  .refine sR ?_;simp;apply sC;simp[hv];refine sR ?_;simp;have hR:oR a b=([],vG a):=by simp[oR,hv]
   apply sN;refine AL.ret ?_;try simp only[AU]
   refine⟨by simp,(Fin.data (av:=.tup [.osl 0 [] .full,I (vG a)]) (by simp[aP,bI];rfl) Hb rfl Ht (fun _ h=>h) (nr0 _) (by simp)).mono fun v m hq=>.inl ⟨by rw[hR];first|assumption|decide,by rw[hR,hq.1],hq.2⟩⟩
 .simp;have h0:vG a=0:=h0 (by omega)
  refine sR ?_;simp;refine sR ?_;simp;refine sD (bW b hb _ _) ?_;simp;by_cases hv:vG b=0
  .refine sR ?_;simp[hv];apply sC;simp;refine sR ?_;simp[show IntKind.i64.wrap 2=2 from rfl];apply sE;refine⟨2,⟨by omega,fun _=>h0,fun _=>hv⟩,by decide,wkA⟩
  .refine sR ?_;simp;apply sC;simp[hv];refine sR ?_;simp;have hR:oR a b=([],vG b):=by simp[oR,hv,h0]
   apply sN;refine AL.ret ?_;try simp only[AU]
   refine⟨by simp,(Fin.data (av:=.tup [.osl 0 [] .full,I (vG b)]) (by simp[aP,bI];rfl) Hb rfl Ht (fun _ h=>h) (nr0 _) (by simp)).mono fun v m hq=>.inl ⟨by rw[hR];first|assumption|decide,by rw[hR,hq.1],hq.2⟩⟩
 .simp;apply sX;simp only[AU,↓reduceIte];have kp:vG a=0:=h0 (by omega)
  have lz:vG b=0:=h1 (by omega)
  have hw1:IntKind.i64.wrap (↑a.nodes.length+↑b.nodes.length)=(a.nodes.length:Int)+b.nodes.length:=aM (by omega) (by omega)
  have y9:IntKind.i64.wrap (↑a.edges.length+↑b.edges.length)=(a.edges.length:Int)+b.edges.length:=aM (by omega) (by omega)
  have big:(40<a.nodes.length+b.nodes.length∨80<a.edges.length+b.edges.length)->∀{l loc},Fin prog ⟨nb,nb+58,58,box⟩ nt [ResultVar.tmp 4,ResultVar.tmp 5] (QOl a b box nb tok nt)
    ⟨tl ((5,I 3)::(4,.osl 0 [] .full)::l),lb nb box loc,tok,nt⟩:=fun hbig {l loc}=>by
   have hR:oR a b=([],3):=by simp[oR,kp,lz,hbig]
   exact(Fin.data (av:=.tup [.osl 0 [] .full,I 3]) (by simp[aP,bI];rfl) Hb rfl Ht (fun _ h=>h) (nr0 _) (by simp)).mono fun v m hq=>.inl ⟨by rw[hR];first|assumption|decide,by rw[hR,hq.1],hq.2⟩
  refine sR ?_;simp[hw1,y9];first|refine Gd.dt (fun n6=>?_) (fun n6=>?_)|refine Gd.df (fun n6=>?_) (fun n6=>?_)|refine Gd.t (fun n6=>?_) (fun n6=>?_)|refine Gd.f (fun n6=>?_) (fun n6=>?_)
  .simp[n6,hw1,y9];apply sC;simp;refine sR ?_;simp;apply sN;refine AL.ret ?_;try simp only[AU]
   exact⟨by simp,big (by omega)⟩
  .simp[n6,hw1,y9];apply sC;simp;refine⟨fun yx=>?_,fun yx=>?_⟩
   .refine sR ?_;simp;apply sN;refine AL.ret ?_;try simp only[AU]
    exact⟨by simp,big (by omega)⟩
   .have pb:¬(40<a.nodes.length+b.nodes.length∨80<a.edges.length+b.edges.length):=by omega
    refine sR ?_;simp;refine AL.weak (wM (l':=[(9,.ptr (nb+45) 0 0)]) (loc':=[(45,[jF a b [] .full])]) (nr0 _) rfl (by simp[ToL,lk]) (by simp[aC,lk])) ?_;refine AL.trans (iO.opn (l':=[(9,.ptr (nb+45) 0 0)]) (loc':=[(45,[iD a b [] nt])]) 6 (by simp[CvL]) ⟨rfl,wU (aZ .same (aZ .same (aZ .same (aZ .same (aZ .nil aB2))))),trivial⟩) ?_;refine sR ?_;simp;refine aN.sub (args':=[.ptr (nb+45) 0 0,.d (ints [])]) ⟨Sub.refl _,Sub.nil _ _ _,trivial⟩ ?_;refine aN.of_a (aJ7 a b ⟨ha,kp,hb,aE lz⟩ b.nodes.length [] [] nt _ _ (nb+45) _ _ (by simp) (by simp) (uS _ _ _)) ?_;rintro v m' ⟨rfl,la,tok1,lc,rfl,i4⟩;have i4:Adv (upd tok nt true) (nt+1) (.tok nt) tok1 lc (.tok la):=i4
    simp;refine sR ?_;simp;apply sC;simp;have jk:∀t,tok t=true->tok1 t=true:=fun t ht=>by
     have h1:=Ht t ht;exact i4.keep t (by rw[uO _ _ (by omega)];exact ht) (by intro e;cases e;omega)
    have hne:∀t,tok t=true->t≠la:=fun t ht e=>by
     have h1:=Ht t ht;rcases i4.new with e2|⟨s,e2,hs⟩
     .cases e2;omega
     .cases e2;omega
    have iv:=i4.le;have Ac:tok1 la=true:=i4.live
    have hlt:=i4.lt;refine⟨fun AC=>?_,fun wy=>?_⟩
    .have hR:oR a b=([],3):=by
      have:2000<(ovN a b b.nodes.length [] []).length:=by omega
      simp[oR,kp,lz,pb,this]
     refine sR ?_;simp;apply sN;refine AL.ret ?_;try simp only[AU]
     exact⟨by simp,(Fin.data (av:=.tup [.osl 0 [] .full,I 3]) (by simp[aP,bI];rfl) Hb rfl Ht jk (by omega) (by simp)).mono fun v m hq=>.inl ⟨by rw[hR];first|assumption|decide,by rw[hR,hq.1],hq.2⟩⟩
    .have hR:oR a b=(ovN a b b.nodes.length [] [],0):=by
      have:¬2000<(ovN a b b.nodes.length [] []).length:=by omega
      simp[oR,kp,lz,pb,this]
     refine sR ?_;simp;apply sN;refine AL.ret ?_;try simp only[AU]
     exact⟨by simp,(Fin.gen (av:=.tup [.stk la 6 ((ovN a b b.nodes.length [] []).map Ov.cells),I 0]) (tok':=tok1) (nt':=lc) (by simp[aP,bI];rfl) Hb (by omega) (nr0 _) (fun t h=>⟨h,.inl rfl⟩) (fun k rows _ h=>.inl h) (by simp)).mono fun v m hq=>.inr ⟨by rw[hR],la,tok1,lc,by rw[hR,hq.1],hq.2,fun s hs=>⟨jk s hs,hne s hs⟩,by omega,Ac,hlt⟩⟩
def fX(ys:List Ov):List (List AV):=cI (ys.map Ov.cells)
theorem aAZ{ys:List Ov}{i:Nat}(h:i<ys.length)(R:List (List AV)):(fX ys++R)[i]?=some [.d (ints ys[i].g.nodes),.d (AM.edges ys[i].g.edges),.d (ints ys[i].l.nodes),.d (ints ys[i].l.edges),.d (ints ys[i].r.nodes),.d (ints ys[i].r.edges)]:=by
 rw[bi (by simp[fX,cI];exact h)];simp[fX,cI,h]
theorem aGw(ys:List Ov)(i:Nat)(h:i<ys.length)(o:Ov)(R:List (List AV)):(fX ys++R).set i [.d (ints o.g.nodes),.d (AM.edges o.g.edges),.d (ints o.l.nodes),.d (ints o.l.edges),.d (ints o.r.nodes),.d (ints o.r.edges)]=fX (ys.set i o)++R:=by
 rw[List.set_append_left _ _ (by simp[fX,cI];exact h)];simp[fX,cI,List.map_set]
theorem aAT(ys:List Ov):(fX ys).length=ys.length:=by simp[fX]
structure aNc where
 j:Nat
 i:Nat
 ys:List Ov
structure jR (xs:List Ov) (p:Ov->Bool) (x:aNc):Prop where
 ij:x.i<x.j
 jn:x.j<=xs.length
 len:x.ys.length=xs.length
 tk:x.ys.take x.i=(xs.take x.j).filter fun o=>!p o
 dr:x.ys.drop x.j=xs.drop x.j
theorem jR.at{xs:List Ov}{p:Ov->Bool}{x:aNc}(h:jR xs p x)(hj:x.j<xs.length):x.ys[x.j]'(by rw[h.len];exact hj)=xs[x.j]:=by
 have h1:x.ys[x.j]'(by rw[h.len];exact hj)=(x.ys.drop x.j)[0]'(by simp[h.len];omega):=by simp
 have h2:xs[x.j]=(xs.drop x.j)[0]'(by simp;omega):=by simp
 rw[h1,h2];simp only[h.dr]
theorem jR.skip{xs:List Ov}{p:Ov->Bool}{j i:Nat}{ys:List Ov}(h:jR xs p ⟨j,i,ys⟩)(hj:j<xs.length)(hp:p xs[j]=true):jR xs p ⟨j+1,i,ys⟩:=by
 obtain⟨h1,h2,h3,h4,h5⟩:=h;simp only at h1 h2 h3 h4 h5;refine⟨by simp only;omega,hj,h3,?_,?_⟩
 .simp only;rw[h4,<-List.take_append_getElem hj,dm];simp[hp]
 .simp only;rw[<-List.drop_drop,<-List.drop_drop,h5]
theorem jR.put{xs:List Ov}{p:Ov->Bool}{j i:Nat}{ys:List Ov}(h:jR xs p ⟨j,i,ys⟩)(hj:j<xs.length)(hp:p xs[j]=false):jR xs p ⟨j+1,i+1,ys.set i xs[j]⟩:=by
 obtain⟨h1,h2,h3,h4,h5⟩:=h;simp only at h1 h2 h3 h4 h5;refine⟨by simp only;omega,hj,by simp[h3],?_,?_⟩
 .simp only;have hi:i<(ys.set i xs[j]).length:=by simp;omega
  rw[<-List.take_append_getElem hi,<-List.take_append_getElem hj,dm,<-h4];simp[hp,List.take_set_of_le]
 .simp only;rw[List.drop_set_of_lt (by omega),<-List.drop_drop,<-List.drop_drop,h5]
theorem jR.end{xs:List Ov}{p:Ov->Bool}{i:Nat}{ys:List Ov}(h:jR xs p ⟨xs.length,i,ys⟩):ys.take i=xs.filter fun o=>!p o:=by
 have:=h.tk
 simpa using this
theorem jR.start{xs:List Ov}{p:Ov->Bool}(h:xs.any p=true):jR xs p ⟨xs.findIdx p+1,xs.findIdx p,xs⟩:=by
 have hlt:xs.findIdx p<xs.length:=by
  rw[List.findIdx_lt_length];simpa using h
 refine⟨ef _,hlt,rfl,?_,rfl⟩;simp only;rw[<-List.take_append_getElem hlt,dm];have h1:p xs[xs.findIdx p]=true:=List.findIdx_getElem (w:=hlt)
 have h2:(xs.take (xs.findIdx p)).filter (fun o=>!p o)=xs.take (xs.findIdx p):=by
  refine ez.2 fun a ha=>?_
  obtain⟨q,hq,rfl⟩:=bf ha;rw[fj];have:=List.not_of_lt_findIdx (p:=p) (xs:=xs) (i:=q) (by simp at hq;omega)
  simpa using this
 rw[h2];simp[h1]
def aOr(n k:Nat)(f:FuncId)(nb:Nat)(box:Bxs)(tok:Tks)(nt:Nat)(R:List (List AV))(x:aNc):AS :=
 ⟨tl [(0,.msl (nb+8) 0 n 6),(1,.fn (.func f) [.ptr k 0 0]),(5,I x.i),(6,I x.j)],lb nb box [(8,fX x.ys++R)],tok,nt⟩
theorem zA(xs:List Ov)(f:FuncId)(p:Ov->Bool)(hx:xs.length<=1000000)(row:List AV)(ds:List D)(k t:Nat)(box:Bxs)(nb:Nat)(tok:Tks)(nt:Nat)(hk:box k=some [row])(Ab:∀tok,mQ tok row ds)(ht:tok t=true)(hf:∀x∈xs,∀tok nt,cZ prog f [x.av,.cptr ds 0] tok nt (B (p x)) tok nt):
  aD prog 138 [.stk t 6 (xs.map Ov.cells),.fn (.func f) [.ptr k 0 0]] ⟨box,nb,tok,nt⟩ fun v m=>v=.d (ovs (xs.filter fun x=>!p x))/\m=⟨box,nb,upd tok t false,nt⟩:=by
 have Bj:∀tok,cZ prog 204 [.d (ovs xs),.fn (.func f) [.cptr ds 0]] tok nt (I (fQ p xs)) tok nt:=fun tok box nb =>
  aCf xs f [.cptr ds 0] p hx box nb tok nt (fun c hc=>by rw[a7.1 hc];exact .cptr) (fun x hx box' nb' _=>hf x hx tok nt box' nb')
 refine sI func138 ntmps138 fun Hb Ht=>?_
 have kn:=bC Hb hk;repeat first|simp|refine sR ?_
 refine aN.of_r (cW.lends rfl Bj ⟨.stk ht,.fn1 (.ptr (by simp[lO kn,hk]) (Ab _)),trivial⟩) ?_;repeat first|simp|refine sR ?_
 by_cases hn:fQ p xs = -1
 .have hb:(fQ p xs == -1)=true:=by simp[hn]
  refine AL.stkD t ht ?_;simp only[di,d6,AV.sdT,↓reduceIte];apply sC;simp[hb];have pu:(xs.filter fun x=>!p x)=xs:=by
   refine ez.2 fun x qs=>?_
   by_cases j7:xs.any p=true
   .simp only[fQ,j7,↓reduceIte] at hn;omega
   .have:=d7.1 (by simpa using j7) x qs
    simpa using this
  repeat first|simp|refine sR ?_
  refine sT ?_;try simp only[AU]
  refine⟨by simp,(Fin.gen (av:=.d (ovs xs)) (tok':=upd tok t false) (nt':=nt) (by simp[aP,bI,lk];rfl) Hb (nr0 _) (nr0 _) (fun t ht=>⟨ht,.inl rfl⟩) (fun k rows _ h=>.inl h) (by simp)).mono fun v m hq=>?_⟩;rw[pu];exact hq
 .have j7:xs.any p=true:=by
   by_cases h:xs.any p=true
   .exact h
   .exact absurd (by simp[fQ,h]) hn
  have hne:xs.map Ov.cells≠[]:=by
   intro h;have:xs=[]:=by simpa using h
   rw[this] at j7;cases j7
  have hb:(fQ p xs == -1)=false:=by simp[hn]
  have p9:fQ p xs=(xs.findIdx p:Nat):=by simp[fQ,j7]
  apply sC;simp[hb];refine AL.thawS (l':=[(12,.bot),(11,.bot),(5,I (fQ p xs)),(10,.bot),(9,.bot),(8,.bot),(4,.bot),(0,.msl (nb+8) 0 xs.length 6),(1,.fn (.func f) [.ptr k 0 0])]) (loc':=[]) t 8 6 (xs.map Ov.cells) 0 rfl (show (8:Nat)<42 by decide) rfl ht hne rfl ?_ trivial ?_
  .simp[CvL]
  intro m;have jp:=jR.start j7;rw[p9];generalize xs.findIdx p=i0 at *;generalize Dm:List.replicate m (List.replicate 6 AV.bot)=R;have hbt:∀t',upd tok t false t'=true->upd tok t false t'=true:=fun _ h=>h
  have qc:IntKind.i64.wrap (↑i0+1)=((i0+1:Nat):Int):=by rw[aM (by omega) (by have:=jp.jn;simp only at this;omega)];rfl
  have ue:∀(loc:List (Nat × List (List AV))) (fz:Option (Nat × Nat × List (List D))),To (fun k=>lb nb box loc k≠none) (fun _=>True) fz (.fn (.func f) [.ptr k 0 0]) (.fn (.func f) [.ptr k 0 0]):=fun loc fz=>.same (lI (fun c hc=>by rw[a7.1 hc];simp[hk]) Hb loc rfl rfl _)
  have hro:∀(ys:List Ov) (p q:Nat->Prop) (fz:Option (Nat × Nat × List (List D))),gN p q fz (fX ys++R) (fX ys++R):=fun ys p q fz=>mZ fun r hr x hx=>by
   rcases ap.1 hr with hr|hr
   .obtain⟨e,_,rfl⟩:=bc.1 hr;obtain⟨d,_,rfl⟩:=bc.1 hx;exact .d
   .rw[<-Dm] at hr;rw[co hr] at hx;rw[co hx];exact .bot
  repeat first|simp[qc]|refine sR ?_
  apply sN;refine sL (aOr xs.length k f nb box (upd tok t false) nt R) (jR xs p) (fun x=>xs.length-x.j) ⟨i0+1,i0,xs⟩ jp (wM (nr0 _) rfl (by simp[ToL,lk,aQ];exact ue _ _) (by simp only[aC,cC,↓reduceIte,and_true];exact⟨_,rfl,hro _ _ _ _⟩)) ?_;rintro⟨j,i,ys⟩ S ia hS;simp only[aOr] at hS;subst hS;have h1:=ia.ij;have h2:=ia.jn;have h3:=ia.len;simp only at h1 h2 h3;have v6:=sW (i:=j) (by omega);have oj:=sW (i:=i) (by omega);repeat first|simp|refine sR ?_|apply sC
  refine⟨fun hlt=>?_,fun hge=>?_⟩
  .have j6:=ia.at hlt;simp only at j6;have xc:j<ys.length:=by omega
   have Dn:i<ys.length:=by omega
   have ig:=aAZ xc R;have l9:=aAZ Dn R;have tz:=aGw ys i Dn xs[j] R;have uc:=fun h=>ia.skip hlt h
   have Bk:=fun h=>ia.put hlt h
   have C3:=hf xs[j] (aa hlt);rw[j6] at ig;generalize xs[j]=x at *;repeat first|simp[hlt,ig]|refine sR ?_
   refine aN.of_r (cW.lends rfl (fun tok=>C3 tok nt) ⟨.same (by simp),.ptr (by simp[lO kn,hk]) (Ab _),trivial⟩) ?_;simp;cases hp:p x
   .repeat first|simp[l9,tz,oj,v6]|refine sR ?_|apply sC
    refine⟨by omega,?_⟩;repeat first|simp[oj,v6]|refine sR ?_
    apply sE;exact⟨⟨j+1,i+1,ys.set i x⟩,Bk hp,by simp only;omega,wM (nr0 _) rfl (by simp[ToL,lk,aQ];exact ue _ _) (by simp only[aC,cC,↓reduceIte,and_true];exact⟨_,rfl,hro _ _ _ _⟩)⟩
   .repeat first|simp[v6]|refine sR ?_|apply sC
    apply sE;exact⟨⟨j+1,i,ys⟩,uc hp,by simp only;omega,wM (nr0 _) rfl (by simp[ToL,lk,aQ];exact ue _ _) (by simp only[aC,cC];simp;exact hro _ _ _ _)⟩
  .apply sX;simp only[AU,↓reduceIte];have hj:j=xs.length:=by omega
   subst hj;have C4:=ia.end;have Do:i<xs.length:=by omega
   repeat first|simp[Do]|refine sR ?_
   refine⟨by omega,by rw[aAT];omega,?_⟩;have C5:List.take i (fX ys++R)=fX (ys.take i):=by
    rw[c8 (by rw[aAT];omega)];simp[fX,cI,List.map_take]
   rw[C5];obtain⟨rest,qy⟩:∃rest,(List.replicate (xs.length-i) [AV.osl 0 [] .full,AV.osl 0 [] .full,AV.osl 0 [] .full,AV.osl 0 [] .full,AV.osl 0 [] .full,AV.osl 0 [] .full]++List.drop (i+(xs.length-i)) (fX ys++R))=rest:=⟨_,rfl⟩
   rw[qy];have Ea:∀(p:Nat->Prop) (fz:Option (Nat × Nat × List (List D))),gN p (fun _=>True) fz (fX (ys.take i)++rest) (fX (ys.take i)++rest):=fun p fz=>mZ fun r hr x hx=>by
    rcases ap.1 hr with hr|hr
    .obtain⟨e,_,rfl⟩:=bc.1 hr;obtain⟨d,_,rfl⟩:=bc.1 hx;exact .d
    .rw[<-qy] at hr;rcases ap.1 hr with hr|hr
     .rw[co hr] at hx;simp at hx;rw[hx];exact .osl fun _ _=>trivial
     .rcases ap.1 (cu hr) with hr|hr
      .obtain⟨e,_,rfl⟩:=bc.1 hr;obtain⟨d,_,rfl⟩:=bc.1 hx;exact .d
      .rw[<-Dm] at hr;rw[co hr] at hx;rw[co hx];exact .bot
   have mf:((ys.take i).map Ov.cells).length=i:=by simp;omega
   repeat first|simp[Do]|refine sR ?_
   try refine⟨by omega,?_⟩
   refine AL.weak (wM (l':=[(4,.msl (nb+8) 0 i 6)]) (loc':=[(8,fX (ys.take i)++rest)]) (nr0 _) rfl (by simp[ToL,lk,aQ]) (by simp only[aC,cC,↓reduceIte,and_true];exact⟨_,rfl,Ea _ _⟩)) ?_;refine AL.trans (iO.sealD (l':=[(4,.d (.sl 6 ((ys.take i).map Ov.cells)))]) (loc:=[]) (loc':=[]) 8 6 ((ys.take i).map Ov.cells) rest 4 rfl (fun e he=>by obtain⟨o,_,rfl⟩:=bc.1 he;rfl) (by rw[mf];rfl) rfl ⟨rfl,by have:=@uY.msl (nb+8) 6 ((ys.take i).map Ov.cells);rw[mf] at this;exact this,trivial⟩ trivial) ?_;rw[C4];refine sT ?_;try simp only[AU]
   refine⟨by simp,(Fin.gen (av:=.d (ovs (xs.filter fun x=>!p x))) (tok':=upd tok t false) (nt':=nt) (by simp[aP,bI,lk];rfl) Hb (nr0 _) (nr0 _) (fun t ht=>⟨ht,.inl rfl⟩) (fun k rows _ h=>.inl h) (by simp))⟩
theorem aNT(r:Ru)(tok:Tks):mQ tok r.row r.rowK:=⟨.d,.d,.d,.d,.d,.d,.d,.d,.d,.d,.d,.d,.d,.d,.d,.d,.d,.d,.d,.d,.d,.d,.d,.d,.d,trivial⟩
structure aNW (t:Ty) (r:Ru) (c:Co):Prop where
 n:(cH t r c).1.length<=1000000
 fit:∀o∈(cH t r c).1,o.Fit
theorem aBQ{t:Ty}{r:Ru}{c:Co}(h:rC t r c=0):tyE t=0/\cQ r=0/\lL c=0:=by
 unfold rC at h;split at h
 .contradiction
 rename_i h1;split at h
 .contradiction
 rename_i h2;split at h
 .split at h
  .unfold cnE at h;split at h
   .contradiction
   split at h
   .contradiction
   rename_i h3;exact⟨by simpa using h1,by simpa using h2,by simpa using h3⟩
  .cases h
 .cases h
theorem aBg{t:Ty}{r:Ru}{c:Co}(hr:r.Fit)(hc:c.Fit):aNW t r c:=by
 obtain⟨W,hW⟩:∃W,cH t r c=W:=⟨_,rfl⟩
 suffices h:W.1.length<=1000000/\∀o∈W.1,o.Fit by
  constructor
  .rw[hW];exact h.1
  .rw[hW];exact h.2
 unfold cH at hW;split at hW
 .subst hW;simp
 .rename_i hg;have hg:=aBQ (dq.1 hg);split at hW
  .split at hW
   .subst hW;simp
   .have hv:=(gQ hg.2.1).2.2;obtain⟨ia,ji⟩:=aFg hr.rg hv hc.g rfl;have wy:=aCd (p:=c.g) hv rfl;subst hW;refine⟨cb (dl _ _) (by omega),fun o ho=>ji o ((ce.1 ho).1)⟩
  .subst hW;simp
set_option maxRecDepth 100000 in
theorem aFY(t:Ty)(ht:t.Fit)(r:Ru)(hr:r.Fit)(c:Co)(hc:c.Fit):DC 88 [t.av,r.av,c.av] (.tup [.d (ovs (cH t r c).1),I (cH t r c).2]):=by
 intro tok nt box nb;have h1:=aIB t ht r hr c hc;have hg:=@aBQ t r c;have h2:=aC6 r.rg c.g hr.rg hc.g;obtain⟨N,hN⟩:∃N,cH t r c=N:=⟨_,rfl⟩
 rw[hN];unfold cH at hN;generalize rC t r c=E at *;refine sI func88 ntmps88 fun Hb Ht=>?_
 repeat first|simp|refine sR ?_
 refine sD (h1 _ _) ?_;repeat first|simp|refine sR ?_
 by_cases e1:E=0
 .rw[ac (by simp[e1])] at hN;apply sC;simp[e1];repeat first|simp|refine sR ?_
  by_cases e2:c.kind=1
  .rw[af e2] at hN;have hv:=(gQ (hg e1).2.1).2.2;obtain⟨_,ji⟩:=aFg hr.rg hv hc.g rfl;have wy:=aCd (p:=c.g) hv rfl;try (simp[e2])
   repeat ((first|refine sR ?_|apply sC|apply sX);simp[e2])
   refine aN.of_a (h2 _ _ _ _) ?_;unfold QOl;generalize oR r.rg c.g=R at *;rintro v m' (⟨e3,rfl,rfl⟩|⟨e3,t',tok',nt',rfl,rfl,C6,iv,Ac,hlt⟩)
   .rw[af e3] at hN;have b3:(R.2 != 0)=true:=by simp[e3]
    try (simp[b3])
    repeat ((first|refine sR ?_|apply sC|apply sX);simp[b3])
    refine sT (sH ?_);simp[<-hN,ovs]
   .rw[ac (by simp[e3])] at hN;repeat first|simp|refine sR ?_
    apply sC;repeat first|simp|refine sR ?_
    refine aN.of_b (zA R.1 139 (fun o=>!qW r o) (by omega) r.row r.rowK (nb+4) t' _ _ _ _ (by simp[aQ]) (aNT r) Ac (fun o ho tok nt=>aLv r hr o (ji o ho) tok nt)) ?_;simp only[Bool.not_not];repeat first|simp|refine sR ?_
    refine sT ?_;try simp only[AU]
    refine⟨by simp,sF Hb Ht (fun s hs=>by rw[uO _ _ (C6 s hs).2];exact(C6 s hs).1) iv ?_⟩;simp[<-hN,ovs]
  .rw[ac e2] at hN;have b2:(c.kind != 1)=true:=by simp[e2]
   try (simp[b2])
   repeat ((first|refine sR ?_|apply sC|apply sX);simp[b2])
   refine sT (sH ?_);simp[<-hN,ovs]
 .rw[af e1] at hN;have b1:(E != 0)=true:=by simp[e1]
  apply sC;simp[b1];repeat first|simp|refine sR ?_
  refine sT (sH ?_);simp[<-hN,ovs]
structure Sd where
 k:Int
 o:Bool
 near:Int
 far:Int
 low:Int
 high:Int
abbrev Sd.cells(s:Sd):List D:=[.raw (.int .i64 s.k),.raw (.bool s.o),.raw (.int .i64 s.near),.raw (.int .i64 s.far),.raw (.int .i64 s.low),.raw (.int .i64 s.high)]
abbrev Sd.av(s:Sd):AV:=.agg [I s.k,B s.o,I s.near,I s.far,I s.low,I s.high]
structure Ar where
 to:Gr
 m:Mo
abbrev Ar.av(x:Ar):AV:=.agg [.d (ints x.to.nodes),.d (AM.edges x.to.edges),.d (ints x.m.nodes),.d (ints x.m.edges)]
structure Ar.Big (x:Ar):Prop where
 n:x.m.nodes.length<=dP
 e:x.m.edges.length<=dP
structure Ch where
 a:Dr
 b:List Int
 g:List Int
 c:List Int
structure Ch.U8 (x:Ch):Prop where
 a:x.a.U8
 b:U8s x.b
 g:U8s x.g
 c:U8s x.c
abbrev Ch.av(x:Ch):AV:=.agg [.d (.sl 1 (x.a.nodes.map fun n=>[u8 n])),.d (.sl 3 (x.a.edges.map fun e=>[u8 e.1,u8 e.2.1,u8 e.2.2])),.d (bytes x.b),.d (bytes x.g),.d (bytes x.c)]
def Ch.ok(x:Ch):Bool:=decide (x.a.nodes.length<=1/\x.a.edges.length<=1/\x.c.length<=12/\x.b.length<=10/\x.g.length<=10)
def Ch.A(x:Ch):Gr:=iW x.a
def Ch.B(x:Ch):Gr:=aO0 x.A x.b 2
theorem Pre.le{a b:Gr}(h:Pre a b):a.nodes.length<=b.nodes.length/\a.edges.length<=b.edges.length:=by
 obtain⟨t,ht⟩:=h.n;obtain⟨u,hu⟩:=h.e;rw[ht,hu];simp
end Go.AM
