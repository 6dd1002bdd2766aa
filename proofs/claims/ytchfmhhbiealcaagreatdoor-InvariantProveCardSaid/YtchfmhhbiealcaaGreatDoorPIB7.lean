import Derived.Test.YtchfmhhbiealcaaGreatDoorPIB6
import Derived.Shelf.Sort.Plain
import Derived.Ground.Names2Prog
import Derived.Shelf.Slices.Clone
import Derived.Shelf.Slices.CompactI
import Derived.Shelf.Slices.In.SortNone
import Derived.Test.YtchfmhhbiealcaaGreatDoorProg
import Derived.Test.YtchfmhhbiealcaaGreatDoorChecked
import Derived.WalkKit
import Derived.Deep.LoopGhost
import Derived.Sort.OwnSortedInts
import Derived.Lib.OwnBridge
import Derived.RangeFuncBox
import Derived.RangeFuncLeaves
import Derived.Shelf.Abstract
import Derived.OwnWalkIn
import Derived.TacticsInMore
import Derived.LoopNIn
import Derived.LoopIn
import Derived.Maps.AppendAt
set_option linter.unusedSimpArgs false
set_option linter.unusedVariables false
namespace Go.AM
theorem ek.{u,v}:type_of% @List.foldl_append.{u,v}:=@List.foldl_append
theorem gu.{u,v}:type_of% @List.flatMap_cons.{u,v}:=@List.flatMap_cons
theorem gm.{u,v}:type_of% @List.mem_flatMap.{u,v}:=@List.mem_flatMap
theorem bq:type_of% @decide_eq_false_iff_not:=@decide_eq_false_iff_not
theorem c7.{u,v}:type_of% @List.map_append.{u,v}:=@List.map_append
theorem fw.{u}:type_of% @List.all_append.{u}:=@List.all_append
theorem b8:type_of% @Nat.not_lt_zero:=@Nat.not_lt_zero
theorem dq:type_of% @Decidable.not_not:=@Decidable.not_not
theorem dh.{u}:type_of% @List.pairwise_iff_getElem.{u}:=@List.pairwise_iff_getElem
open Go Go.Proofs
open Go.Proofs.Tryz
def aMQ(a b:Gr)(l k:List Int)(nb:Nat)(box:Bxs)(x:aOs):AS :=
 ⟨tl [(2,.d (ints l)),(3,.d (ints k)),(5,.ptr (nb+5) 0 0),(8,.ptr (nb+8) 0 0),(9,.ptr (nb+9) 0 0),(10,I x.i)],
  lb nb box [(5,[[.d (ints b.nodes),.d (AM.edges b.edges)]]),(8,[[.bot,.bot,.bot,.bot,.bot,.bot]]),
   (9,[[.osl 1 (rI (bZ a.nodes b.nodes l x.i).1) x.o1,.osl 3 (rE a.edges) x.o2,.d (ints (idM a).nodes),.d (ints (idM a).edges),.osl 1 (rI (bZ a.nodes b.nodes l x.i).2) x.o3,.osl 1 [] x.o4]])],x.tok,x.nt⟩
def aL2(a b:Gr)(l k:List Int)(nb:Nat)(box:Bxs)(x:aQm):AS :=
 ⟨tl [(3,.d (ints k)),(5,.ptr (nb+5) 0 0),(8,.ptr (nb+8) 0 0),(9,.ptr (nb+9) 0 0),(12,I x.i)],
  lb nb box [(5,[[.d (ints b.nodes),.d (AM.edges b.edges)]]),(8,[[.bot,.bot,.bot,.bot,.bot,.bot]]),
   (9,[[.d (ints (bZ a.nodes b.nodes l l.length).1),.osl 3 (rE (dV a.edges b.edges (bZ a.nodes b.nodes l l.length).2 k x.i).1) x.o1,.d (ints (idM a).nodes),.d (ints (idM a).edges),.d (ints (bZ a.nodes b.nodes l l.length).2),.osl 1 (rI (dV a.edges b.edges (bZ a.nodes b.nodes l l.length).2 k x.i).2) x.o2]])],x.tok,x.nt⟩
theorem aGU(a b:Gr)(l k:List Int)(ha:a.Fit)(hl:l.length<=b.nodes.length)(hk:k.length<=b.edges.length)(mh:l.length<=1000000)(jb:k.length<=1000000)(hx:∀i (h:i<k.length) (h2:i<b.edges.length),k[i]<0->0<=b.edges[i].fr/\b.edges[i].fr<l.length/\0<=b.edges[i].to/\b.edges[i].to<l.length):DC 304 [a.av,b.av,.d (ints l),.d (ints k)] (bV a b l k).av:=by
 intro tok nt box nb;have x8:=ha.n;have x9:=ha.e;refine sI func304 ntmps304 fun Hb Ht=>?_
 refine sR ?_;simp;refine sR ?_;simp;refine sD (aJq a ha _ _) ?_;simp;refine sD (aSy a ha _ _) ?_;simp;refine sR ?_;simp;apply sN;have si:TK tok nt (upd (upd tok nt true) (nt+1) true) (nt+2) [.tok nt,.tok (nt+1),.full,.full]:=((TK.start Ht).full.app.full.app.swap.full.full).perm (List.perm_append_comm (l₁:=[Own.full,Own.full]) (l₂:=[Own.tok nt,Own.tok (nt+1)]))
 refine sL (aMQ a b l k nb box) (fun x=>x.i<=l.length/\TK tok nt x.tok x.nt [x.o1,x.o2,x.o3,x.o4]) (fun x=>l.length-x.i) ⟨0,.tok nt,.tok (nt+1),.full,.full,_,_⟩ ⟨ai _,si⟩ (wM si.le rfl (by simp[ToL,lk]) (by simp[aC,lk,bZ,idM])) ?_;rintro⟨i,o1,o2,o3,o4,tok',nt'⟩ S ⟨hi,htk⟩ hS;simp only[aMQ] at hS hi htk;subst hS;have hw:=sW (i:=i) (by omega);have lw:=kO a.nodes b.nodes l i;refine sR ?_;simp;apply sC;simp;refine⟨fun hlt=>?_,fun hge=>?_⟩
 .have mh:i<b.nodes.length:=by omega
  refine sR ?_;simp[hlt];refine sR ?_;simp;apply sC;simp;refine⟨fun iu=>?_,fun li=>?_⟩
  .refine sR ?_;simp;refine sR ?_;simp[mh];refine⟨⟨by omega,htk.live⟩,?_⟩;have jw:=htk.app;refine sR ?_;simp;refine⟨⟨by omega,by simpa using jw.pick3.live⟩,?_⟩;have ie:=jw.pick3.app.put3;refine sR ?_;simp[hw];apply sE;have hg:l.getD i 0=l[i]:=by simp[hlt]
   have mj:b.nodes.getD i 0=b.nodes[i]:=by simp[mh]
   refine⟨⟨i+1,_,_,_,_,_,_⟩,⟨hlt,ie⟩,by simp;omega,wM ie.le rfl (by simp[ToL,lk]) (by simp[aC,lk,bZ,hlt,mh,iu])⟩
  .refine sR ?_;simp;refine⟨⟨by omega,htk.pick3.live⟩,?_⟩;have ie:=htk.pick3.app.put3;refine sR ?_;simp[hw];apply sE;refine⟨⟨i+1,_,_,_,_,_,_⟩,⟨hlt,ie⟩,by simp;omega,wM ie.le rfl (by simp[ToL,lk]) (by simp[aC,lk,bZ,hlt,mh,show ¬l[i]<0 by omega])⟩
 .apply sX;simp only[AU,↓reduceIte];have:i=l.length:=by omega
  subst this;refine sR ?_;simp;apply sN;have ie:=htk.tail.swap.tail;refine sL (aL2 a b l k nb box) (fun x=>x.i<=k.length/\TK tok nt x.tok x.nt [x.o1,x.o2]) (fun x=>k.length-x.i) ⟨0,o2,o4,tok',nt'⟩ ⟨ai _,ie⟩ (wM ie.le rfl (by simp[ToL,lk]) (by simp[aC,lk,dV])) ?_;rintro⟨i,o1,o2,tok',nt'⟩ S ⟨hi,htk⟩ hS;simp only[aL2] at hS hi htk;subst hS;have hw:=sW (i:=i) (by omega);generalize ww:(bZ a.nodes b.nodes l l.length).2=rn at *;have n9:rn.length=l.length:=lw.2
  have iv:=kN a.edges b.edges rn k i;refine sR ?_;simp;apply sC;simp;refine⟨fun hlt=>?_,fun hge=>?_⟩
  .have mh:i<b.edges.length:=by omega
   refine sR ?_;simp[hlt];refine sR ?_;simp;apply sC;simp;refine⟨fun iu=>?_,fun li=>?_⟩
   .obtain⟨x1,x2,x3,x4⟩:=hx i hlt mh iu;have y1:b.edges[i].fr.toNat<rn.length:=by omega
    have y2:b.edges[i].to.toNat<rn.length:=by omega
    refine sR ?_;simp[mh];refine sR ?_;simp;refine sR ?_;simp[x1,x2,x3,x4,y1,y2,n9];refine⟨⟨by omega,htk.live⟩,?_⟩;have jw:=htk.app;refine sR ?_;simp;refine⟨⟨by omega,by simpa using jw.swap.live⟩,?_⟩;have ie:=jw.swap.app.swap;refine sR ?_;simp[hw];apply sE;have AA:b.edges.getD i default=b.edges[i]:=by simp[mh]
    refine⟨⟨i+1,_,_,_,_⟩,⟨hlt,ie⟩,by simp;omega,wM ie.le rfl (by simp[ToL,lk]) (by simp[aC,lk,dV,ww,hlt,mh,iu,y1,y2])⟩
   .refine sR ?_;simp;refine⟨⟨by omega,htk.swap.live⟩,?_⟩;have ie:=htk.swap.app.swap;refine sR ?_;simp[hw];apply sE;refine⟨⟨i+1,_,_,_,_⟩,⟨hlt,ie⟩,by simp;omega,wM ie.le rfl (by simp[ToL,lk]) (by simp[aC,lk,dV,ww,hlt,mh,show ¬k[i]<0 by omega])⟩
  .apply sX;simp only[AU,↓reduceIte];have:i=k.length:=by omega
   subst this;refine sR ?_;simp;refine sT (sG Hb Ht htk.old htk.le ?_);simp[bV,ww]
variable {P:Program}
def AV.asD1:AV->AV
 | .osl sz es _=>.d (.sl sz es)
 | x=>x
def AV.asD:AV->AV
 | .osl sz es _=>.d (.sl sz es)
 | .agg cs=>.agg (cs.map AV.asD1)
 | x=>x
theorem RV.asD1{G:Gh}{w:World}{x:AV}{v:Value}(h:RV G w x v):RV G w x.asD1 v:=by
 cases h with
 | osl h1 h2=>exact .d h1
 | bot=>exact .bot
 | d h1=>exact .d h1
 | ptr h1=>exact .ptr h1
 | here h1 h2=>exact .here h1 h2
 | buf h1 h2 h3 h4=>exact .buf h1 h2 h3 h4
 | cptr a u hc hr=>exact .cptr a u hc hr
 | msl h1 h2 h3=>exact .msl h1 h2 h3
 | fn hl h=>exact .fn hl h
 | agg hl h h1=>exact .agg hl h h1
 | tup hl h=>exact .tup hl h
 | ex h=>exact .ex h
 | stk h=>exact .stk h
 | que h1 h2=>exact .que h1 h2
 | mp h=>exact .mp h
 | mpd h=>exact .mpd h
theorem RV.asD{G:Gh}{w:World}{x:AV}{v:Value}(h:RV G w x v):RV G w x.asD v:=by
 cases h with
 | osl h1 h2=>exact .d h1
 | bot=>exact .bot
 | d h1=>exact .d h1
 | ptr h1=>exact .ptr h1
 | here h1 h2=>exact .here h1 h2
 | buf h1 h2 h3 h4=>exact .buf h1 h2 h3 h4
 | cptr a u hc hr=>exact .cptr a u hc hr
 | msl h1 h2 h3=>exact .msl h1 h2 h3
 | fn hl h=>exact .fn hl h
 | agg hl h h1=>exact .agg (by simp[hl]) (fun i g1 g2=>by simp only[bl];exact(h i (by simpa using g1) g2).asD1) h1
 | tup hl h=>exact .tup hl h
 | ex h=>exact .ex h
 | stk h=>exact .stk h
 | que h1 h2=>exact .que h1 h2
 | mp h=>exact .mp h
 | mpd h=>exact .mpd h
theorem RVs.asD{G:Gh}{w:World}{xs:List AV}{vs:List Value}(h:RVs G w xs vs):RVs G w (xs.map AV.asD) vs :=
 ⟨by simp[h.1],fun i g1 g2=>by simp only[bl];exact(h.2 i (by simpa using g1) g2).asD⟩
theorem aD.asD{f:FuncId}{args:List AV}{m:bH}{Q:AV->bH->Prop}(h:aD P f (args.map AV.asD) m Q):aD P f args m Q :=
 ⟨h.1,fun G w vals hm hr=>h.2 G w vals hm hr.asD⟩
theorem aN.data{cx:Cx}{dr:Bool}{fid:FuncId}{args:List AV}{S:AS}{dst:Option Tmp}{K:AS->Prop}(h:aN P cx dr fid (args.map AV.asD) S dst K):aN P cx dr fid args S dst K:=by
 cases dr with
 | true =>
  obtain⟨v,tok',nt',h1,h2⟩:=h;exact⟨v,tok',nt',fun box nb he=>(h1 box nb he).asD,h2⟩
 | false=>exact aD.asD h
def Sub(x y:AV):Prop:=∀G w v,RV G w x v->RV G w y v
theorem Sub.refl(x:AV):Sub x x:=fun _ _ _ h=>h
theorem Sub.data(sz:Nat)(es:List (List D))(o:Own):Sub (.osl sz es o) (.d (.sl sz es)):=fun _ _ _ h=>h.asD
abbrev aLK:Value:=.slice none 0 0
theorem Sub.nilv:Sub (.osl 0 [] .full) (.d (.raw aLK)):=fun G w v h=>by
 cases h with
 | osl h ho =>
  obtain⟨A,rfl,hA⟩:=ho;rw[hA rfl];exact .d (.raw rfl)
theorem Sub.nil(sz sz':Nat)(o:Own):Sub (.osl sz [] o) (.d (.sl sz' [])):=fun G w v h=>by
 cases h with
 | osl h ho =>
  cases h with
  | sl u i8 i9 hsz hA hc hr=>exact .d (.sl (es:=[]) (fun _ _=>default) i8 i9 (by simp) (by simp) (fun a _ i j hi _=>by simp at hi) (fun i j hi _=>by simp at hi))
def aEP:List AV->List AV->Prop
 | [],[]=>True
 | x::xs,y::ys=>Sub x y/\aEP xs ys
 | _,_=>False
theorem aEP.rvs{G:Gh}{w:World}:∀{xs ys:List AV} {vs:List Value},aEP xs ys->RVs G w xs vs->RVs G w ys vs
 | [],[],vs,_,h=>h
 | x::xs,y::ys,[],_,h=>by have:=h.1;simp at this
 | x::xs,y::ys,v::vs,hs,h=>RVs.cons (hs.1 _ _ _ (h.2 0 (by simp) (by simp))) (hs.2.rvs ⟨by simpa using h.1,fun i h1 h2=>h.2 (i+1) (by simpa using h1) (by simpa using h2)⟩)
theorem aD.sub{f:FuncId}{args args':List AV}{m:bH}{Q:AV->bH->Prop}(hs:aEP args args')(h:aD P f args' m Q):aD P f args m Q :=
 ⟨h.1,fun G w vals hm hr=>h.2 G w vals hm (hs.rvs hr)⟩
theorem aN.sub{cx:Cx}{dr:Bool}{fid:FuncId}{args args':List AV}{S:AS}{dst:Option Tmp}{K:AS->Prop}(hs:aEP args args')(h:aN P cx dr fid args' S dst K):aN P cx dr fid args S dst K:=by
 cases dr with
 | true =>
  obtain⟨v,tok',nt',h1,h2⟩:=h;exact⟨v,tok',nt',fun box nb he=>(h1 box nb he).sub hs,h2⟩
 | false=>exact aD.sub hs h
theorem aN.of_a{cx:Cx}{fid:FuncId}{args:List AV}{S:AS}{dst:Option Tmp}{K:AS->Prop}{Q:AV->bH->Prop}(h:aD P fid args ⟨S.box,cx.nb,S.tok,S.nt⟩ Q)(hk:∀v m',Q v m'->K ⟨bX S.tmps dst v,m'.box,m'.tok,m'.nt⟩):aN P cx false fid args S dst K:=h.mono hk
theorem eY(es:List Int)(v:Int):rI es++[[D.raw (.int .i64 v)]]=rI (es++[v]):=by simp[rI]
structure Adv (tok:Tks) (nt:Nat) (own:Own) (tok':Nat->Bool) (nt':Nat) (own':Own):Prop where
 keep:∀t,tok t=true->own≠.tok t->tok' t=true
 le:nt<=nt'
 live:own'.liveP tok'
 new:own'=own∨∃t,own'=.tok t/\nt<=t
 lt:∀t,tok' t=true->t<nt'
theorem Adv.refl{tok:Nat->Bool}{nt:Nat}{own:Own}(h:own.liveP tok)(hl:∀t,tok t=true->t<nt):Adv tok nt own tok nt own:=⟨fun _ h _=>h,nr0 _,h,.inl rfl,hl⟩
theorem Adv.trans{t1 t2 t3:Nat->Bool}{n1 n2 n3:Nat}{o1 o2 o3:Own}(hl:∀t,t1 t=true->t<n1)(h:Adv t1 n1 o1 t2 n2 o2)(k:Adv t2 n2 o2 t3 n3 o3):Adv t1 n1 o1 t3 n3 o3:=by
 refine⟨fun t ht ho=>k.keep t (h.keep t ht ho) (fun e=>?_),cb h.le k.le,k.live,?_,k.lt⟩
 .rcases h.new with e2|⟨s,e2,hs⟩
  .exact ho (e2 ▸ e)
  .rw[e2] at e;cases e;have:=hl _ ht
   omega
 .rcases k.new with e2|⟨s,e2,hs⟩
  .rw[e2];exact h.new
  .exact .inr ⟨s,e2,cb h.le hs⟩
theorem Adv.fresh{tok:Nat->Bool}{nt:Nat}{own:Own}(h:own.liveP tok)(hl:∀t,tok t=true->t<nt):Adv tok nt own (upd (upd (upd tok nt true) nt false) (nt+1) true) (nt+2) own:=by
 have key:∀t,t<nt->(upd (upd (upd tok nt true) nt false) (nt+1) true) t=tok t:=fun t ht=>by
  rw[uO _ _ (by omega),uO _ _ (by omega),uO _ _ (by omega)]
 refine⟨fun t ht _=>by rw[key t (hl t ht)];exact ht,by omega,?_,.inl rfl,fun t ht=>?_⟩
 .cases own with
  | full=>trivial
  | tok t=>simp only[aCL] at h ⊢;rw[key t (hl t h)];exact h
 .by_cases e:t=nt+1
  .omega
  .rw[uO _ _ e] at ht;by_cases e2:t=nt
   .omega
   .rw[uO _ _ e2,uO _ _ e2] at ht;have:=hl t ht
    omega
theorem Adv.app{tok:Nat->Bool}{nt:Nat}{own:Own}(h:own.liveP tok)(hl:∀t,tok t=true->t<nt):Adv tok nt own (upd (own.kill tok) nt true) (nt+1) (.tok nt):=by
 refine⟨fun t ht ho=>?_,by omega,by simp[uS],.inr ⟨nt,rfl,nr0 _⟩,fun t ht=>?_⟩
 .have:=hl t ht
  rw[uO _ _ (by omega)];cases own with
  | full=>exact ht
  | tok s=>simp only[aDT];rw[uO _ _ (fun e=>ho (by rw[e]))];exact ht
 .by_cases e:t=nt
  .omega
  .rw[uO _ _ e] at ht;cases own with
   | full=>have:=hl t ht;omega
   | tok s =>
    simp only[aDT] at ht;by_cases e2:t=s
    .subst e2;rw[uS] at ht;cases ht
    .rw[uO _ _ e2] at ht;have:=hl t ht
     omega
theorem bD{α:Type}(f:Nat->α)(k:Nat)(x y:α):upd (upd f k x) k y=upd f k y:=by
 funext j
 simp only[upd];split<;>rfl
theorem E.eq_and(x y:E):(decide (x.ty=y.ty)&&(decide (x.fr=y.fr)&&decide (x.to=y.to)))=decide (x=y):=by
 cases x;cases y;simp
def lV(b:Gr)(nodes es:List Int):E :=
 let x:=b.edges.getD es.length default
 ⟨x.ty,nodes.getD x.fr.toNat 0,nodes.getD x.to.toNat 0⟩
def ovE(a b:Gr)(nodes:List Int):Nat->List Int->List Ov->List Ov
 | 0,es,out=>if 2000<out.length then out else out++[bV a b nodes es]
 | n+1,es,out=>if 2000<out.length then out else
   (List.range a.edges.length).foldl (fun (out:List Ov) (k:Nat)=>if a.edges.getD k default=lV b nodes es/\(k:Int)∉es then ovE a b nodes n (es++[(k:Int)]) out else out) (ovE a b nodes n (es++[-1]) out)
structure OvH (a b:Gr) (nodes:List Int):Prop where
 fa:a.Fit
 va:vG a=0
 fb:b.Fit
 n:nodes.length=b.nodes.length
 x:∀e∈b.edges,0<=e.fr/\e.fr<nodes.length/\0<=e.to/\e.to<nodes.length
abbrev jF(a b:Gr)(out:List Ov)(own:Own):List AV:=[.d (ints a.nodes),.d (AM.edges a.edges),.d (ints b.nodes),.d (AM.edges b.edges),.osl 6 (out.map Ov.cells) own]
def QOv(a b:Gr)(box:Bxs)(nb k:Nat)(tok:Tks)(nt:Nat)(own:Own)(out:List Ov)(v:AV)(m:bH):Prop :=
 v=.tup []/\∃own' tok' nt',m=⟨upd box k (some [jF a b out own']),nb,tok',nt'⟩/\Adv tok nt own tok' nt' own'
def jG(a b:Gr)(nodes:List Int)(n:Nat)(es:List Int)(out:List Ov)(k:Nat):List Ov:=if a.edges.getD k default=lV b nodes es/\(k:Int)∉es then ovE a b nodes n (es++[(k:Int)]) out else out
theorem kJ{a b:Gr}{out:List Ov}{own:Own}{box:Bxs}{k base:Nat}{p q:Nat->Prop}(hq:q=fun _=>True):∀k' rows,k'<base->(upd box k (some [jF a b out own])) k'=some rows->box k'=some rows∨∀r∈rows,∀x∈r,bF p q x:=by
 subst hq;intro k' rows jv hr;by_cases e:k'=k
 .subst e;rw[uS] at hr;cases hr;exact .inr (by simp)
 .rw[uO _ _ e] at hr;exact .inl hr
theorem aOC(x y:Int):(x==y)=decide (x=y):=by by_cases h:x=y<;>simp[h]
def dB(a b:Gr)(rec:List Int->List Ov->List Ov)(l:List Int)(out:List Ov)(k:Nat):List Ov:=if a.nodes.getD k 0=b.nodes.getD l.length 0/\(k:Int)∉l then rec (l++[(k:Int)]) out else out
def ovN(a b:Gr):Nat->List Int->List Ov->List Ov
 | 0,l,out=>if 2000<out.length then out else ovE a b l b.edges.length [] out
 | n+1,l,out=>if 2000<out.length then out else (List.range a.nodes.length).foldl (dB a b (ovN a b n) l) (ovN a b n (l++[-1]) out)
structure NoH (a b:Gr):Prop where
 fa:a.Fit
 va:vG a=0
 fb:b.Fit
 x:∀e∈b.edges,0<=e.fr/\e.fr<b.nodes.length/\0<=e.to/\e.to<b.nodes.length
theorem E.eq_and3(x:E)(p q r:Int):(decide (x.ty=p)&&(decide (x.fr=q)&&decide (x.to=r)))=decide (x=⟨p,q,r⟩):=E.eq_and x ⟨p,q,r⟩
def aKu(a b:Gr)(nodes:List Int)(n:Nat)(es:List Int)(out:List Ov):Nat->List Ov
 | 0=>out
 | i+1=>(List.range i).foldl (jG a b nodes n es) (ovE a b nodes n (es++[-1]) out)
structure aQg where
 i:Nat
 out:List Ov
 own:Own
 tok:Nat->Bool
 nt:Nat
def aPj(a b:Gr)(nodes es:List Int)(nb k:Nat)(box:Bxs)(x:aQg):AS :=
 ⟨tl [(0,.ptr k 0 0),(1,.d (ints nodes)),(2,.d (ints es)),(7,.ptr (nb+7) 0 0),(8,I (x.i-1))],
  lb nb (upd box k (some [jF a b x.out x.own])) [(7,[[I (b.edges.getD es.length default).ty,I (b.edges.getD es.length default).fr,I (b.edges.getD es.length default).to]])],x.tok,x.nt⟩
theorem aHz(a b:Gr)(nodes:List Int)(h:OvH a b nodes):∀(n:Nat) (es:List Int) (out:List Ov) (own:Own) (box:Bxs) (nb k:Nat) (tok:Tks) (nt:Nat),es.length+n=b.edges.length ->
  box k=some [jF a b out own]->own.liveP tok->aD prog 266 [.ptr k 0 0,.d (ints nodes),.d (ints es)] ⟨box,nb,tok,nt⟩ (QOv a b box nb k tok nt own (ovE a b nodes n es out)):=by
 intro n;induction n with
 | zero =>
  intro es out own box nb k tok nt mf hk ip;have ix:box=upd box k (some [jF a b out own]):=(cM box k _ hk).symm
  refine sI func266 ntmps266 fun Hb Ht=>?_
  have g9:=bC Hb hk;refine sR ?_;simp[lO g9,hk];apply sC;simp;refine⟨fun hbig=>?_,fun pb=>?_⟩
  .apply sN;refine AL.ret ?_;try simp only[AU]
   refine⟨by simp,(Fin.own (vs:=[]) (av:=.tup []) (by simp[aP,bI]) Hb rfl (nr0 _) (by simp)).mono fun v m hq=>⟨hq.1,own,tok,nt,?_,Adv.refl ip Ht⟩⟩;have jr:2000<out.length:=by omega
   rw[hq.2,ovE,af jr,<-ix]
  .have kq:¬2000<out.length:=by omega
   have AB:es.length=b.edges.length:=by omega
   refine sR ?_;simp[lO g9,hk];refine sR ?_;simp[lO g9,hk];apply sC;simp;refine⟨fun _=>?_,fun hne=>absurd (by omega) hne⟩;have u6:=h.fb.e;have tg:=h.fb.n;refine sR ?_;simp[lO g9,hk];refine sD (aGU a b nodes es h.fa (by rw[h.n];exact nr0 _) (by omega) (by rw[h.n];omega) (by omega) (fun i _ h2 _=>h.x _ (aa h2)) _ _) ?_;simp[lO g9,hk,uL g9];refine⟨⟨by omega,ip⟩,?_⟩;apply sN;refine AL.ret ?_;try simp only[AU]
   refine⟨by simp,(Fin.gen (vs:=[]) (av:=.tup []) (tok':=upd (own.kill tok) nt true) (nt':=nt+1) (by simp[aP,bI]) ?_ (by omega) (nr0 _) (fun t h=>⟨h,.inl rfl⟩) ?_ (by simp)).mono fun v m hq=>⟨hq.1,.tok nt,upd (own.kill tok) nt true,nt+1,?_,Adv.app ip Ht⟩⟩
   .rw[<-uL g9,Hb]
   .intro k' rows jv hr;by_cases e:k'=k
    .subst e;rw[uS] at hr;cases hr;exact .inr (by simp)
    .rw[uO _ _ e] at hr;exact .inl hr
   .rw[hq.2,ovE,ac kq];simp[jF]
 | succ n ih =>
  intro es out own box nb k tok nt mf hk ip;have ix:box=upd box k (some [jF a b out own]):=(cM box k _ hk).symm
  have x9:=h.fa.e;have u6:=h.fb.e;have tg:=h.fb.n;have hlt:es.length<b.edges.length:=by omega
  obtain⟨x1,x2,x3,x4⟩:=h.x b.edges[es.length] (aa hlt);have y1:b.edges[es.length].fr.toNat<nodes.length:=by omega
  have y2:b.edges[es.length].to.toNat<nodes.length:=by omega
  refine sI func266 ntmps266 fun Hb Ht=>?_
  have g9:=bC Hb hk;refine sR ?_;simp[lO g9,hk];apply sC;simp;refine⟨fun hbig=>?_,fun pb=>?_⟩
  .apply sN;refine AL.ret ?_;try simp only[AU]
   refine⟨by simp,(Fin.own (vs:=[]) (av:=.tup []) (by simp[aP,bI]) Hb rfl (nr0 _) (by simp)).mono fun v m hq=>⟨hq.1,own,tok,nt,?_,Adv.refl ip Ht⟩⟩;have jr:2000<out.length:=by omega
   rw[hq.2,ovE,af jr,<-ix]
  .have kq:¬2000<out.length:=by omega
   refine sR ?_;simp[lO g9,hk];refine sR ?_;simp[lO g9,hk];apply sC;simp;refine⟨fun mt=>absurd mt (by omega),fun _=>?_⟩;refine sR ?_;simp[lO g9,hk,hlt];refine sR ?_;simp[lO g9,hk];apply sN;have mh:∀loc,lb nb box loc=lb nb (upd box k (some [jF a b out own])) loc:=fun loc=>by rw[<-ix]
   rw[mh];have ra:lV b nodes es=⟨b.edges[es.length].ty,nodes[b.edges[es.length].fr.toNat],nodes[b.edges[es.length].to.toNat]⟩:=by simp[lV,hlt,y1,y2]
   refine sL (aPj a b nodes es nb k box) (fun x=>x.i<=a.edges.length+1/\x.out=aKu a b nodes n es out x.i/\Adv tok nt own x.tok x.nt x.own) (fun x=>a.edges.length+1-x.i)
    ⟨0,out,own,tok,nt⟩ ⟨ai _,rfl,Adv.refl ip Ht⟩ (aS.mk' (nr0 _) (by simp[ToL,lk,hlt];exact aI (by rw[lO g9,uS];simp)) (by simp[aC,lk,hlt]) (kJ rfl)) ?_
   rintro⟨i,ii,im,io,iz⟩ S ⟨hi,jm,ib⟩ hS;simp only[aPj] at hS hi jm ib;subst hS;have hw:IntKind.i64.wrap (↑i-1+1)=((i+1:Nat):Int)-1:=by rw[aM (by omega) (by omega)];omega
   refine sR ?_;simp[lO g9,uS];apply sC;simp;refine⟨fun iw=>?_,fun hge=>?_⟩
   .cases i with
    | zero =>
     refine sR ?_;simp[lO g9,uS];apply sC;simp;refine sR ?_;simp[lO g9,uS];refine⟨by omega,by omega,?_⟩;refine aN.data ?_;simp only[List.map,AV.asD];rw[eY];have ko:=Adv.fresh ib.live ib.lt;refine aN.of_a (ih (es++[-1]) ii im _ _ k _ _ (by simp;omega) (by simp only[lO g9,uS]) ko.live) ?_;rintro v m' ⟨rfl,ja,i6,jz,rfl,i4⟩;simp[uL g9,bD];have kf:Adv tok nt own i6 jz ja:=ib.trans Ht (ko.trans ib.lt i4)
     clear i4 ko;refine sR ?_;simp[show IntKind.i64.wrap 0=0 from rfl];apply sE;refine⟨⟨1,ovE a b nodes n (es++[-1]) ii,ja,i6,jz⟩,⟨by simp,?_,kf⟩,by simp,aS.mk' kf.le (by simp[ToL,lk];exact aI (by rw[lO g9,uS];simp)) (by simp[aC,lk,hlt]) (kJ rfl)⟩;rw[jm];rfl
    | succ i =>
     have u7:i<a.edges.length:=by omega
     have iu:¬(i:Int)<0:=by omega
     have rz:IntKind.i64.wrap (↑i+1)=(i:Int)+1:=by rw[aM (by omega) (by omega)]
     have iq:aKu a b nodes n es out (i+1+1)=jG a b nodes n es ii i:=by
      rw[jm,aKu,aKu,cn,ek];rfl
     have l9:a.edges.getD i default=a.edges[i]:=by simp[u7]
     refine sR ?_;simp[lO g9,uS,iu];refine sD (aPn es i (by omega) _ _) ?_;simp[lO g9,uS,iu];by_cases jf:(i:Int)∈es
     .simp[jf];apply sC;simp;refine sR ?_;simp[rz];apply sE;refine⟨⟨i+1+1,ii,im,io,iz⟩,⟨by simp;omega,?_,ib⟩,by simp;omega,aS.mk' ib.le (by simp[ToL,lk];exact aI (by rw[lO g9,uS];simp)) (by simp[aC,lk,hlt]) (kJ rfl)⟩;rw[iq,jG,ac (fun hh=>hh.2 jf)]
     .simp[jf,lO g9,uS,u7,hlt,x1,x2,x3,x4,y1,y2];simp only[E.eq_and3];apply sC;simp;refine⟨fun hE=>?_,fun hE=>?_⟩
      .refine sR ?_;simp[lO g9,uS];refine⟨by omega,by omega,?_⟩;refine aN.data ?_;simp only[List.map,AV.asD];rw[eY];have ko:=Adv.fresh ib.live ib.lt;refine aN.of_a (ih (es++[(i:Int)]) ii im _ _ k _ _ (by simp;omega) (by simp only[lO g9,uS]) ko.live) ?_;rintro v m' ⟨rfl,ja,i6,jz,rfl,i4⟩;simp[uL g9,bD];have kf:Adv tok nt own i6 jz ja:=ib.trans Ht (ko.trans ib.lt i4)
       clear i4 ko;refine sR ?_;simp[rz];apply sE;refine⟨⟨i+1+1,ovE a b nodes n (es++[(i:Int)]) ii,ja,i6,jz⟩,⟨by simp;omega,?_,kf⟩,by simp;omega,aS.mk' kf.le (by simp[ToL,lk];exact aI (by rw[lO g9,uS];simp)) (by simp[aC,lk,hlt]) (kJ rfl)⟩;rw[iq,jG,af ⟨by rw[l9,ra,hE],jf⟩]
      .refine sR ?_;simp[rz];apply sE;refine⟨⟨i+1+1,ii,im,io,iz⟩,⟨by simp;omega,?_,ib⟩,by simp;omega,aS.mk' ib.le (by simp[ToL,lk];exact aI (by rw[lO g9,uS];simp)) (by simp[aC,lk,hlt]) (kJ rfl)⟩;rw[iq,jG,ac (fun hh=>hE (by rw[<-l9,hh.1,ra]))]
   .apply sX;simp only[AU,↓reduceIte];have jf:i=a.edges.length+1:=by omega
    subst jf;apply sE;refine⟨by simp,(Fin.gen (vs:=[]) (av:=.tup []) (tok':=io) (nt':=iz) (by simp[aP,bI]) ?_ ib.le (nr0 _) (fun t h=>⟨h,.inl rfl⟩) (kJ (by simp)) (by simp)).mono fun v m hq=>⟨hq.1,im,io,iz,?_,ib⟩⟩
    .rw[<-uL g9,Hb]
    .rw[hq.2,ovE,ac kq,jm];rfl
def aLr(a b:Gr)(n:Nat)(l:List Int)(out:List Ov):Nat->List Ov
 | 0=>out
 | i+1=>(List.range i).foldl (dB a b (ovN a b n) l) (ovN a b n (l++[-1]) out)
def aOD(a b:Gr)(l:List Int)(nb k:Nat)(box:Bxs)(x:aQg):AS :=
 ⟨tl [(0,.ptr k 0 0),(1,.d (ints l)),(4,I l.length),(5,I (x.i-1))],
  lb nb (upd box k (some [jF a b x.out x.own])) [],x.tok,x.nt⟩
theorem aHx(a b:Gr)(h:NoH a b):∀(n:Nat) (l:List Int) (out:List Ov) (own:Own) (box:Bxs) (nb k:Nat) (tok:Tks) (nt:Nat),l.length+n=b.nodes.length ->
  box k=some [jF a b out own]->own.liveP tok->aD prog 206 [.ptr k 0 0,.d (ints l)] ⟨box,nb,tok,nt⟩ (QOv a b box nb k tok nt own (ovN a b n l out)):=by
 intro n;induction n with
 | zero =>
  intro l out own box nb k tok nt hl hk ip;have ix:box=upd box k (some [jF a b out own]):=(cM box k _ hk).symm
  refine sI func206 ntmps206 fun Hb Ht=>?_
  have g9:=bC Hb hk;refine sR ?_;simp[lO g9,hk];apply sC;simp;refine⟨fun hbig=>?_,fun pb=>?_⟩
  .apply sN;refine AL.ret ?_;try simp only[AU]
   refine⟨by simp,(Fin.own (vs:=[]) (av:=.tup []) (by simp[aP,bI]) Hb rfl (nr0 _) (by simp)).mono fun v m hq=>⟨hq.1,own,tok,nt,?_,Adv.refl ip Ht⟩⟩;have jr:2000<out.length:=by omega
   rw[hq.2,ovN,af jr,<-ix]
  .have kq:¬2000<out.length:=by omega
   have lh:l.length=b.nodes.length:=by omega
   refine sR ?_;simp[lO g9,hk];refine sR ?_;simp[lO g9,hk];apply sC;simp;refine⟨fun _=>?_,fun hne=>absurd (by omega) hne⟩;have u6:=h.fb.e;have tg:=h.fb.n;refine sR ?_;simp[lO g9,hk];refine aN.sub (args':=[.ptr k 0 0,.d (ints l),.d (ints [])]) ⟨Sub.refl _,Sub.refl _,Sub.nil _ _ _,trivial⟩ ?_;refine aN.of_a (aHz a b l ⟨h.fa,h.va,h.fb,lh,by rw[lh];exact h.x⟩ b.edges.length [] out own _ _ k _ _ (by simp) (by simp only[lO g9,hk]) ip) ?_;rintro v m' ⟨rfl,la,tok1,lc,rfl,i4⟩;simp[uL g9];apply sN;refine AL.ret ?_;try simp only[AU]
   refine⟨by simp,(Fin.gen (vs:=[]) (av:=.tup []) (tok':=tok1) (nt':=lc) (by simp[aP,bI]) ?_ i4.le (nr0 _) (fun t h=>⟨h,.inl rfl⟩) (kJ (by simp)) (by simp)).mono fun v m hq=>⟨hq.1,la,tok1,lc,?_,i4⟩⟩
   .rw[<-uL g9,Hb]
   .rw[hq.2,ovN,ac kq]
 | succ n ih =>
  intro l out own box nb k tok nt hl hk ip;have ix:box=upd box k (some [jF a b out own]):=(cM box k _ hk).symm
  have x8:=h.fa.n;have tg:=h.fb.n;have hlt:l.length<b.nodes.length:=by omega
  refine sI func206 ntmps206 fun Hb Ht=>?_
  have g9:=bC Hb hk;refine sR ?_;simp[lO g9,hk];apply sC;simp;refine⟨fun hbig=>?_,fun pb=>?_⟩
  .apply sN;refine AL.ret ?_;try simp only[AU]
   refine⟨by simp,(Fin.own (vs:=[]) (av:=.tup []) (by simp[aP,bI]) Hb rfl (nr0 _) (by simp)).mono fun v m hq=>⟨hq.1,own,tok,nt,?_,Adv.refl ip Ht⟩⟩;have jr:2000<out.length:=by omega
   rw[hq.2,ovN,af jr,<-ix]
  .have kq:¬2000<out.length:=by omega
   refine sR ?_;simp[lO g9,hk];refine sR ?_;simp[lO g9,hk];apply sC;simp;refine⟨fun mt=>absurd mt (by omega),fun _=>?_⟩;refine sR ?_;simp;apply sN;have mh:∀loc,lb nb box loc=lb nb (upd box k (some [jF a b out own])) loc:=fun loc=>by rw[<-ix]
   rw[mh];refine sL (aOD a b l nb k box) (fun x=>x.i<=a.nodes.length+1/\x.out=aLr a b n l out x.i/\Adv tok nt own x.tok x.nt x.own) (fun x=>a.nodes.length+1-x.i)
    ⟨0,out,own,tok,nt⟩ ⟨ai _,rfl,Adv.refl ip Ht⟩ (aS.mk' (nr0 _) (by simp[ToL,lk];exact aI (by rw[lO g9,uS];simp)) (by simp[aC,lk]) (kJ rfl)) ?_
   rintro⟨i,ii,im,io,iz⟩ S ⟨hi,jm,ib⟩ hS;simp only[aOD] at hS hi jm ib;subst hS;refine sR ?_;simp[lO g9,uS];apply sC;simp;refine⟨fun iw=>?_,fun hge=>?_⟩
   .cases i with
    | zero =>
     refine sR ?_;simp[lO g9,uS];apply sC;simp;refine sR ?_;simp[lO g9,uS];refine⟨by omega,by omega,?_⟩;refine aN.data ?_;simp only[List.map,AV.asD];rw[eY];have ko:=Adv.fresh ib.live ib.lt;refine aN.of_a (ih (l++[-1]) ii im _ _ k _ _ (by simp;omega) (by simp only[lO g9,uS]) ko.live) ?_;rintro v m' ⟨rfl,ja,i6,jz,rfl,i4⟩;simp[uL g9,bD];have kf:Adv tok nt own i6 jz ja:=ib.trans Ht (ko.trans ib.lt i4)
     clear i4 ko;refine sR ?_;simp[show IntKind.i64.wrap 0=0 from rfl];apply sE;refine⟨⟨1,ovN a b n (l++[-1]) ii,ja,i6,jz⟩,⟨by simp,?_,kf⟩,by simp,aS.mk' kf.le (by simp[ToL,lk];exact aI (by rw[lO g9,uS];simp)) (by simp[aC,lk]) (kJ rfl)⟩;rw[jm];rfl
    | succ i =>
     have u7:i<a.nodes.length:=by omega
     have iu:¬(i:Int)<0:=by omega
     have rz:IntKind.i64.wrap (↑i+1)=(i:Int)+1:=by rw[aM (by omega) (by omega)]
     have iq:aLr a b n l out (i+1+1)=dB a b (ovN a b n) l ii i:=by
      rw[jm,aLr,aLr,cn,ek];rfl
     have l9:a.nodes.getD i 0=a.nodes[i]:=by simp[u7]
     have hgl:b.nodes.getD l.length 0=b.nodes[l.length]:=by simp[hlt]
     refine sR ?_;simp[lO g9,uS,iu];refine sD (aPn l i (by omega) _ _) ?_;simp[lO g9,uS,iu];by_cases jf:(i:Int)∈l
     .simp[jf];apply sC;simp;refine sR ?_;simp[rz];apply sE;refine⟨⟨i+1+1,ii,im,io,iz⟩,⟨by simp;omega,?_,ib⟩,by simp;omega,aS.mk' ib.le (by simp[ToL,lk];exact aI (by rw[lO g9,uS];simp)) (by simp[aC,lk]) (kJ rfl)⟩;rw[iq,dB,ac (fun hh=>hh.2 jf)]
     .simp[jf,lO g9,uS,u7,hlt];apply sC;simp;refine⟨fun hE=>?_,fun hE=>?_⟩
      .refine sR ?_;simp[lO g9,uS];refine⟨by omega,by omega,?_⟩;refine aN.data ?_;simp only[List.map,AV.asD];rw[eY];have ko:=Adv.fresh ib.live ib.lt;refine aN.of_a (ih (l++[(i:Int)]) ii im _ _ k _ _ (by simp;omega) (by simp only[lO g9,uS]) ko.live) ?_;rintro v m' ⟨rfl,ja,i6,jz,rfl,i4⟩;simp[uL g9,bD];have kf:Adv tok nt own i6 jz ja:=ib.trans Ht (ko.trans ib.lt i4)
       clear i4 ko;refine sR ?_;simp[rz];apply sE;refine⟨⟨i+1+1,ovN a b n (l++[(i:Int)]) ii,ja,i6,jz⟩,⟨by simp;omega,?_,kf⟩,by simp;omega,aS.mk' kf.le (by simp[ToL,lk];exact aI (by rw[lO g9,uS];simp)) (by simp[aC,lk]) (kJ rfl)⟩;rw[iq,dB,af ⟨by rw[l9,hgl,hE],jf⟩]
      .refine sR ?_;simp[rz];apply sE;refine⟨⟨i+1+1,ii,im,io,iz⟩,⟨by simp;omega,?_,ib⟩,by simp;omega,aS.mk' ib.le (by simp[ToL,lk];exact aI (by rw[lO g9,uS];simp)) (by simp[aC,lk]) (kJ rfl)⟩;rw[iq,dB,ac (fun hh=>hE (by rw[<-l9,hh.1,hgl]))]
   .apply sX;simp only[AU,↓reduceIte];have jf:i=a.nodes.length+1:=by omega
    subst jf;apply sE;refine⟨by simp,(Fin.gen (vs:=[]) (av:=.tup []) (tok':=io) (nt':=iz) (by simp[aP,bI]) ?_ ib.le (nr0 _) (fun t h=>⟨h,.inl rfl⟩) (kJ (by simp)) (by simp)).mono fun v m hq=>⟨hq.1,im,io,iz,?_,ib⟩⟩
    .rw[<-uL g9,Hb]
    .rw[hq.2,ovN,ac kq,jm];rfl
theorem Conv.sub{v v':AV}{m:bH}(h:Sub v v'):Conv v m v' m:=⟨rfl,rfl,fun G w u h1 h2=>⟨G,h1,h _ _ _ h2,Le.refl G w,fun _ h=>h⟩⟩
theorem Sub.tup{xs ys:List AV}(h:aEP xs ys):Sub (.tup xs) (.tup ys):=fun G w v r=>by
 cases r with
 | tup hl hh=>have:=h.rvs ⟨hl,hh⟩;exact .tup this.1 this.2
def oR(a b:Gr):List Ov × Int :=
 if vG a≠0 then ([],vG a) else if vG b≠0 then ([],vG b) else if 40<a.nodes.length+b.nodes.length∨80<a.edges.length+b.edges.length then ([],3)
 else if 2000<(ovN a b b.nodes.length [] []).length then ([],3) else (ovN a b b.nodes.length [] [],0)
theorem aE{g:Gr}(h:vG g=0):∀e∈g.edges,0<=e.fr/\e.fr<g.nodes.length/\0<=e.to/\e.to<g.nodes.length:=by
 intro e he;unfold vG at h;split at h
 .cases h
 .split at h
  .cases h
  .split at h
   .cases h
   .rename_i h3;have:=d7.1 (Bool.not_eq_true _ ▸ h3) e he
    simp[dW,bA] at this;omega
theorem aCk(a b:Gr)(ha:a.Fit)(hb:b.Fit):DC 144 [a.av,b.av] (.tup [.d (ovs (oR a b).1),I (oR a b).2]):=by
 intro tok nt box nb;have x8:=ha.n;have x9:=ha.e;have tg:=hb.n;have u6:=hb.e;have main:aD prog 144 [a.av,b.av] ⟨box,nb,tok,nt⟩ fun v m=>(v=.tup [.d (ovs (oR a b).1),I (oR a b).2]∨(oR a b).1=[]/\v=.tup [.osl 0 [] .full,I (oR a b).2])/\m=⟨box,nb,tok,nt⟩:=by
  refine sI func144 ntmps144 fun Hb Ht=>?_
  refine sR ?_;simp;refine sR ?_;simp;refine sD (dU a ha _ _) ?_;simp;by_cases kp:vG a=0
  .refine sR ?_;simp[kp];apply sC;simp;refine sR ?_;simp;refine sD (dU b hb _ _) ?_;simp;by_cases lz:vG b=0
   .refine sR ?_;simp[lz];apply sC;simp;have hw1:IntKind.i64.wrap (↑a.nodes.length+↑b.nodes.length)=(a.nodes.length:Int)+b.nodes.length:=aM (by omega) (by omega)
    have y9:IntKind.i64.wrap (↑a.edges.length+↑b.edges.length)=(a.edges.length:Int)+b.edges.length:=aM (by omega) (by omega)
    have big:(40<a.nodes.length+b.nodes.length∨80<a.edges.length+b.edges.length)->∀{l loc},Fin prog ⟨nb,nb+53,53,box⟩ nt [ResultVar.tmp 4,ResultVar.tmp 5] (fun v m=>(v=.tup [.d (ovs (oR a b).1),I (oR a b).2]∨(oR a b).1=[]/\v=.tup [.osl 0 [] .full,I (oR a b).2])/\m=⟨box,nb,tok,nt⟩)
      ⟨tl ((5,I 3)::(4,.osl 0 [] .full)::l),lb nb box loc,tok,nt⟩:=fun hbig {l loc}=>by
     have hR:oR a b=([],3):=by simp[oR,kp,lz,hbig]
     exact(Fin.data (av:=.tup [.osl 0 [] .full,I 3]) (by simp[aP,bI];rfl) Hb rfl Ht (fun _ h=>h) (nr0 _) (by simp)).mono fun v m hq=>⟨.inr ⟨by rw[hR],by rw[hR,hq.1]⟩,hq.2⟩
    refine sR ?_;simp[hw1,y9];first|refine Gd.dt (fun n6=>?_) (fun n6=>?_)|refine Gd.df (fun n6=>?_) (fun n6=>?_)|refine Gd.t (fun n6=>?_) (fun n6=>?_)|refine Gd.f (fun n6=>?_) (fun n6=>?_)
    .simp[n6,hw1,y9];apply sC;simp;refine sR ?_;simp;apply sN;refine AL.ret ?_;try simp only[AU]
     exact⟨by simp,big (by omega)⟩
    .simp[n6,hw1,y9];apply sC;simp;refine⟨fun yx=>?_,fun yx=>?_⟩
     .refine sR ?_;simp;apply sN;refine AL.ret ?_;try simp only[AU]
      exact⟨by simp,big (by omega)⟩
     .have pb:¬(40<a.nodes.length+b.nodes.length∨80<a.edges.length+b.edges.length):=by omega
      refine sR ?_;simp;refine AL.weak (wM (l':=[(8,.ptr (nb+40) 0 0)]) (loc':=[(40,[jF a b [] .full])]) (nr0 _) rfl (by simp[ToL,lk]) (by simp[aC,lk])) ?_;refine sR ?_;simp;refine aN.sub (args':=[.ptr (nb+40) 0 0,.d (ints [])]) ⟨Sub.refl _,Sub.nil _ _ _,trivial⟩ ?_;refine aN.of_a (aHx a b ⟨ha,kp,hb,aE lz⟩ b.nodes.length [] [] .full _ _ (nb+40) _ _ (by simp) (by simp) trivial) ?_;rintro v m' ⟨rfl,la,tok1,lc,rfl,i4⟩;simp;refine sR ?_;simp;apply sC;simp;have jk:∀t,tok t=true->tok1 t=true:=fun t ht=>i4.keep t ht (by simp)
      refine⟨fun AC=>?_,fun wy=>?_⟩
      .have hR:oR a b=([],3):=by
        have:2000<(ovN a b b.nodes.length [] []).length:=by omega
        simp[oR,kp,lz,pb,this]
       refine sR ?_;simp;apply sN;refine AL.ret ?_;try simp only[AU]
       exact⟨by simp,(Fin.data (av:=.tup [.osl 0 [] .full,I 3]) (by simp[aP,bI];rfl) Hb rfl Ht jk i4.le (by simp)).mono fun v m hq=>⟨.inr ⟨by rw[hR],by rw[hR,hq.1]⟩,hq.2⟩⟩
      .have hR:oR a b=(ovN a b b.nodes.length [] [],0):=by
        have:¬2000<(ovN a b b.nodes.length [] []).length:=by omega
        simp[oR,kp,lz,pb,this]
       refine sR ?_;simp;apply sN;refine AL.ret ?_;try simp only[AU]
       exact⟨by simp,(Fin.data (av:=.tup [.d (ovs (ovN a b b.nodes.length [] [])),I 0]) (by simp[aP,bI];rfl) Hb rfl Ht jk i4.le (by simp)).mono fun v m hq=>⟨.inl (by rw[hR,hq.1]),hq.2⟩⟩
   .refine sR ?_;simp;apply sC;simp[lz];refine sR ?_;simp;have hR:oR a b=([],vG b):=by simp[oR,kp,lz]
    apply sN;refine AL.ret ?_;try simp only[AU]
    refine⟨by simp,(Fin.data (av:=.tup [.osl 0 [] .full,I (vG b)]) (by simp[aP,bI];rfl) Hb rfl Ht (fun _ h=>h) (nr0 _) (by simp)).mono fun v m hq=>⟨.inr ⟨by rw[hR],by rw[hR,hq.1]⟩,hq.2⟩⟩
  .refine sR ?_;simp;apply sC;simp[kp];refine sR ?_;simp;have hR:oR a b=([],vG a):=by simp[oR,kp]
   apply sN;refine AL.ret ?_;try simp only[AU]
   refine⟨by simp,(Fin.data (av:=.tup [.osl 0 [] .full,I (vG a)]) (by simp[aP,bI];rfl) Hb rfl Ht (fun _ h=>h) (nr0 _) (by simp)).mono fun v m hq=>⟨.inr ⟨by rw[hR],by rw[hR,hq.1]⟩,hq.2⟩⟩
 refine main.conv fun v m h=>?_
 obtain⟨rfl|⟨h1,rfl⟩,rfl⟩:=h
 .exact⟨_,_,Conv.refl _ _,rfl,rfl⟩
 .refine⟨_,_,Conv.sub (v':=.tup [.d (ovs (oR a b).1),I (oR a b).2]) (Sub.tup ⟨?_,Sub.refl _,trivial⟩),rfl,rfl⟩;rw[h1];exact Sub.nil _ _ _
def aPC(a b:Gr)(nb:Nat)(box:Bxs)(tok:Tks)(nt:Nat)(i:Nat):AS :=
 ⟨tl [(2,.ptr (nb+2) 0 0),(3,.ptr (nb+3) 0 0),(12,.osl 2 [[ints a.nodes,AM.edges a.edges],[ints b.nodes,AM.edges b.edges]] .full),(13,I 2),(14,I i)],
  lb nb box [(2,[[.d (ints a.nodes),.d (AM.edges a.edges)]]),(3,[[.d (ints b.nodes),.d (AM.edges b.edges)]])],tok,nt⟩
def aOl(a b:Gr)(i:Nat):Prop:=i<=2/\(0<i->vG a=0)/\(1<i->vG b=0)
def aSK(i:Nat):Nat:=2-i
def lim{α:Type}(out L:List α):List α:=out++L.take (2001-out.length)
theorem aKg{α:Type}(out:List α):lim out []=out:=by simp[lim]
theorem qI{α:Type}(out A B:List α):lim (lim out A) B=lim out (A++B):=by
 unfold lim;rw[List.take_append,cw];congr 2
 simp only[am,cj];congr 1
 omega
theorem rT{α:Type}(out L:List α)(h:2000<out.length):lim out L=out:=by
 unfold lim;have:2001-out.length=0:=by omega
 simp[this]
theorem aKn{α:Type}(out:List α)(x:α)(h:¬2000<out.length):lim out [x]=out++[x]:=by
 unfold lim;have:2001-out.length=(2001-out.length-1)+1:=by omega
 rw[this];simp
theorem aAX{α:Type}(c:Nat->Bool)(f:Nat->List α->List α)(g:Nat->List α):∀(ks:List Nat) (out:List α),(∀k∈ks,∀out,f k out=lim out (g k)) ->
  ks.foldl (fun out k=>if c k=true then f k out else out) out=lim out ((ks.filter c).flatMap g)
 | [],out,_=>by simp[aKg]
 | k::ks,out,h=>by
  rw[List.foldl_cons,aAX c f g ks _ (fun k hk=>h k (by simp[hk]))];by_cases hk:c k=true
  .rw[List.filter_cons_of_pos hk,gu,af hk,h k (by simp),qI]
  .rw[List.filter_cons_of_neg hk,ac hk]
section
variable {α:Type}
end
theorem Sub.agg{xs ys:List AV}(h:aEP xs ys):Sub (.agg xs) (.agg ys):=fun G w v r=>by
 cases r with
 | agg hl hh h1=>have:=h.rvs ⟨hl,hh⟩;exact .agg this.1 this.2 h1
theorem sP{α β:Type}{P:α->Prop}(f:List α->β->List α):∀(l:List β) (out:List α),(∀out b,b∈l->(∀o∈out,P o)->∀o∈f out b,P o)->(∀o∈out,P o)->∀o∈l.foldl f out,P o
 | [],out,_,h=>h
 | b::l,out,hf,h=>sP f l _ (fun out b hb=>hf out b (by simp[hb])) (hf out b (by simp) h)
theorem aBM{P:Ov->Prop}(a b:Gr)(nodes:List Int):∀(n:Nat) (es:List Int) (out:List Ov),(∀o∈out,P o)->(∀es',es'.length=es.length+n->P (bV a b nodes es'))->∀o∈ovE a b nodes n es out,P o
 | 0,es,out,h,hg=>by
  unfold ovE;split
  .exact h
  .intro o ho;rcases ap.1 ho with ho|ho
   .exact h o ho
   .simp at ho;subst ho;exact hg es (by simp)
 | n+1,es,out,h,hg=>by
  unfold ovE;split
  .exact h
  .refine sP _ _ _ (fun out k _ ho=>?_) (aBM a b nodes n _ _ h fun es' he=>hg es' (by simp at he;omega));split
   .exact aBM a b nodes n _ _ ho fun es' he=>hg es' (by simp at he;omega)
   .exact ho
theorem aBP{P:Ov->Prop}(a b:Gr):∀(n:Nat) (l:List Int) (out:List Ov),(∀o∈out,P o)->(∀l' es',l'.length=l.length+n->es'.length=b.edges.length->P (bV a b l' es'))->∀o∈ovN a b n l out,P o
 | 0,l,out,h,hg=>by
  unfold ovN;split
  .exact h
  .exact aBM a b l _ _ _ h fun es' he=>hg l es' (by simp) (by simpa using he)
 | n+1,l,out,h,hg=>by
  unfold ovN;split
  .exact h
  .refine sP _ _ _ (fun out k _ ho=>?_) (aBP a b n _ _ h fun l' es' hl he=>hg l' es' (by simp at hl;omega) he);unfold dB;split
   .exact aBP a b n _ _ ho fun l' es' hl he=>hg l' es' (by simp at hl;omega) he
   .exact ho
theorem aH5(a b:Gr)(l k:List Int)(ha:a.nodes.length<=90/\a.edges.length<=90)(hl:l.length<=90)(hk:k.length<=90):(bV a b l k).Fit:=by
 have h1:=kO a.nodes b.nodes l l.length;have h2:=kN a.edges b.edges (bZ a.nodes b.nodes l l.length).2 k k.length;exact⟨⟨by simp only[bV];omega,by simp only[bV];omega⟩,⟨by simp[bV,idM];omega,by simp[bV,idM];omega⟩,⟨by simp only[bV];omega,by simp only[bV];omega⟩⟩
theorem pM(a b:Gr)(ha:a.nodes.length<=90/\a.edges.length<=90)(hb:b.nodes.length<=90/\b.edges.length<=90):(oR a b).1.length<=1000000/\∀o∈(oR a b).1,o.Fit:=by
 have key:∀o∈ovN a b b.nodes.length [] [],o.Fit:=aBP a b _ _ _ (by simp) fun l' es' h1 h2=>aH5 a b l' es' ha (by simp at h1;omega) (by omega)
 unfold oR;split
 .simp
 .split
  .simp
  .split
   .simp
   .split
    .simp
    .exact⟨by simp only;omega,key⟩
def aA(f:Nat->Int):Nat->Int
 | 0=>0
 | n+1=>if aA f n=0 then f n else aA f n
theorem aL{f:Nat->Int}{i:Nat}(h0:aA f i=0)(h:f i≠0):∀n,i<n->aA f n=f i
 | 0,hn=>by omega
 | n+1,hn=>by
  simp only[aA];by_cases e:i=n
  .subst e;rw[af h0]
  .rw[aL h0 h n (by omega),ac h]
def cE(a b:Gr)(m:Mo)(i:Nat):Int :=
 if m.nodes.getD i 0<0∨(b.nodes.length:Int)<=m.nodes.getD i 0 then 6 else if b.nodes.getD (m.nodes.getD i 0).toNat 0=a.nodes.getD i 0 then 0 else 13
def bU(a b:Gr)(m:Mo)(i:Nat):Int :=
 if m.edges.getD i 0<0∨(b.edges.length:Int)<=m.edges.getD i 0 then 6 else
  let x:=a.edges.getD i default
  let y:=b.edges.getD (m.edges.getD i 0).toNat default
  if x.ty≠y.ty then 13 else if m.nodes.getD x.fr.toNat 0≠y.fr∨m.nodes.getD x.to.toNat 0≠y.to then 11 else 0
def aG(a b:Gr)(m:Mo):Int :=
 if vG a≠0 then vG a else if vG b≠0 then vG b else if m.nodes.length≠a.nodes.length∨m.edges.length≠a.edges.length then 20
 else if aA (cE a b m) a.nodes.length≠0 then aA (cE a b m) a.nodes.length else aA (bU a b m) a.edges.length
def aME(a b:Gr)(m:Mo)(nb:Nat)(box:Bxs)(tok:Tks)(nt:Nat)(i:Nat):AS :=
 ⟨tl [(3,.ptr (nb+3) 0 0),(4,.ptr (nb+4) 0 0),(5,.ptr (nb+5) 0 0),(42,.d (ints m.nodes)),(43,I m.nodes.length),(44,I i)],
  lb nb box [(3,[[.d (ints a.nodes),.d (AM.edges a.edges)]]),(4,[[.d (ints b.nodes),.d (AM.edges b.edges)]]),(5,[[.d (ints m.nodes),.d (ints m.edges)]])],tok,nt⟩
def aMq(a b:Gr)(m:Mo)(nb:Nat)(box:Bxs)(tok:Tks)(nt:Nat)(i:Nat):AS :=
 ⟨tl [(3,.ptr (nb+3) 0 0),(4,.ptr (nb+4) 0 0),(5,.ptr (nb+5) 0 0),(71,.d (ints m.edges)),(72,I m.edges.length),(73,I i)],
  lb nb box [(3,[[.d (ints a.nodes),.d (AM.edges a.edges)]]),(4,[[.d (ints b.nodes),.d (AM.edges b.edges)]]),(5,[[.d (ints m.nodes),.d (ints m.edges)]])],tok,nt⟩
theorem lC(a b:Gr)(m:Mo)(ha:a.Fit)(hb:b.Fit):DC 170 [a.av,b.av,m.av] (I (aG a b m)):=by
 intro tok nt box nb;have x8:=ha.n;have x9:=ha.e;have tg:=hb.n;have u6:=hb.e;refine sI func170 ntmps170 fun Hb Ht=>?_
 refine sR ?_;simp;refine sR ?_;simp;refine sD (bW a ha _ _) ?_;simp;by_cases kp:vG a=0
 .refine sR ?_;simp[kp];apply sC;simp;refine sR ?_;simp;refine sD (bW b hb _ _) ?_;simp;by_cases lz:vG b=0
  .refine sR ?_;simp[lz];apply sC;simp;have Cc:=aE kp;have DJ:=aE lz;refine sR ?_;simp;by_cases mo:m.nodes.length=a.nodes.length
   .simp[mo];apply sC;simp;refine⟨fun hl2=>?_,fun hl2=>?_⟩
    .refine sR ?_;simp;have hR:aG a b m=20:=by
      have:¬m.edges.length=a.edges.length:=by omega
      simp[aG,kp,lz,this]
     refine sT (sH ?_);simp[hR]
    .refine sR ?_;simp;apply sN;have sj:m.edges.length=a.edges.length:=by omega
     have sk:∀i,i<a.nodes.length->aA (cE a b m) i=0->cE a b m i≠0->aG a b m=cE a b m i:=fun i hi h0 hne=>by
      have:=aL h0 hne a.nodes.length hi
      simp[aG,kp,lz,mo,sj,this,hne]
     refine sL (aME a b m nb box tok nt) (fun i=>i<=m.nodes.length/\aA (cE a b m) i=0) (fun i=>m.nodes.length-i) 0 ⟨ai _,rfl⟩ wkA ?_;rintro i S ⟨hi,ia⟩ hS;simp only[aME] at hS;subst hS;have hw:=sW (i:=i) (by omega);refine sR ?_;simp;apply sC;simp;refine⟨fun hlt=>?_,fun hge=>?_⟩
     .have kk:i<a.nodes.length:=by omega
      have ku:m.nodes.getD i 0=m.nodes[i]:=by simp[hlt]
      have mz:a.nodes.getD i 0=a.nodes[i]:=by simp[kk]
      refine sR ?_;simp[hlt];by_cases iu:m.nodes[i]<0
      .refine sR ?_;simp[iu];apply sC;simp;refine sR ?_;simp;have hN:cE a b m i=6:=by simp only[cE,ku];rw[af (.inl iu)]
       have hR:=sk i kk ia (by rw[hN];decide);refine sT (sH ?_);simp[hR,hN]
      .refine sR ?_;simp[iu];apply sC;simp;refine⟨fun hbig=>?_,fun pb=>?_⟩
       .refine sR ?_;simp;have hN:cE a b m i=6:=by simp only[cE,ku];rw[af (.inr (by omega))]
        have hR:=sk i kk ia (by rw[hN];decide);refine sT (sH ?_);simp[hR,hN]
       .have jb:m.nodes[i].toNat<b.nodes.length:=by omega
        have h0:0<=m.nodes[i]:=by omega
        have mj:b.nodes.getD m.nodes[i].toNat 0=b.nodes[m.nodes[i].toNat]:=by simp[jb]
        have j8:¬(b.nodes.length:Int)<=m.nodes[i]:=by omega
        refine sR ?_;simp[jb,h0,pb,kk];apply sC;simp;refine⟨fun hne=>?_,fun mt=>?_⟩
        .refine sR ?_;simp;have hN:cE a b m i=13:=by simp only[cE,ku,mz,mj];rw[ac (by omega),ac hne]
         have hR:=sk i kk ia (by rw[hN];decide);refine sT (sH ?_);simp[hR,hN]
        .refine sR ?_;simp[hw];apply sE;refine⟨i+1,⟨hlt,?_⟩,by omega,wkA⟩;have hN:cE a b m i=0:=by simp only[cE,ku,mz,mj];rw[ac (by omega),af mt]
         simp only[aA,ia,hN,↓reduceIte]
     .apply sX;simp only[AU,↓reduceIte];have jf:i=a.nodes.length:=by omega
      subst jf;refine sR ?_;simp;apply sN;have pc:∀i,i<a.edges.length->aA (bU a b m) i=0->bU a b m i≠0->aG a b m=bU a b m i:=fun i hi h0 hne=>by
       have:=aL h0 hne a.edges.length hi
       simp[aG,kp,lz,mo,sj,ia,this]
      refine sL (aMq a b m nb box tok nt) (fun i=>i<=m.edges.length/\aA (bU a b m) i=0) (fun i=>m.edges.length-i) 0 ⟨ai _,rfl⟩ wkA ?_;rintro i S ⟨hi,jh⟩ hS;simp only[aMq] at hS;subst hS;have hw:=sW (i:=i) (by omega);refine sR ?_;simp;apply sC;simp;refine⟨fun hlt=>?_,fun hge=>?_⟩
      .have kk:i<a.edges.length:=by omega
       have ku:m.edges.getD i 0=m.edges[i]:=by simp[hlt]
       have mz:a.edges.getD i default=a.edges[i]:=by simp[kk]
       obtain⟨x1,x2,x3,x4⟩:=Cc _ (aa kk);rw[<-mo] at x2 x4;have y1:a.edges[i].fr.toNat<m.nodes.length:=by omega
       have y2:a.edges[i].to.toNat<m.nodes.length:=by omega
       have mc:m.nodes.getD a.edges[i].fr.toNat 0=m.nodes[a.edges[i].fr.toNat]:=by simp[y1]
       have nf:m.nodes.getD a.edges[i].to.toNat 0=m.nodes[a.edges[i].to.toNat]:=by simp[y2]
       refine sR ?_;simp[hlt];by_cases iu:m.edges[i]<0
       .refine sR ?_;simp[iu];apply sC;simp;refine sR ?_;simp;have hN:bU a b m i=6:=by simp only[bU,ku];rw[af (.inl iu)]
        have hR:=pc i kk jh (by rw[hN];decide);refine sT (sH ?_);simp[hR,hN]
       .refine sR ?_;simp[iu];apply sC;simp;refine⟨fun hbig=>?_,fun pb=>?_⟩
        .refine sR ?_;simp;have hN:bU a b m i=6:=by simp only[bU,ku];rw[af (.inr (by omega))]
         have hR:=pc i kk jh (by rw[hN];decide);refine sT (sH ?_);simp[hR,hN]
        .have jb:m.edges[i].toNat<b.edges.length:=by omega
         have h0:0<=m.edges[i]:=by omega
         have mj:b.edges.getD m.edges[i].toNat default=b.edges[m.edges[i].toNat]:=by simp[jb]
         have hnn:¬(m.edges[i]<0∨(b.edges.length:Int)<=m.edges[i]):=by omega
         apply sN;refine AL.region2 bS (nr0 _) (by kernel_rfl) (mH.of (by simp)) ?_;simp[jb,h0,pb,kk];generalize hy:b.edges[m.edges[i].toNat]=y at *;refine sR ?_;simp;apply sC;simp;refine⟨fun pf=>?_,fun pf=>?_⟩
         .refine sR ?_;simp;have hN:bU a b m i=13:=by simp only[bU,ku,mz,mj];rw[ac hnn,af pf]
          have hR:=pc i kk jh (by rw[hN];decide);refine sT (sH ?_);simp[hR,hN]
         .refine sR ?_;simp[x1,x2,x3,x4,y1,y2];by_cases lp:m.nodes[a.edges[i].fr.toNat]=y.fr
          .have ki:(m.nodes[a.edges[i].fr.toNat] != y.fr)=false:=by simp[lp]
           simp only[ki];simp[x1,x2,x3,x4,y1,y2];apply sC;simp;refine⟨fun hto=>?_,fun hto=>?_⟩
           .refine sR ?_;simp;have hN:bU a b m i=11:=by simp only[bU,ku,mz,mj,mc,nf];rw[ac hnn,ac (by simp[pf]),af (.inr hto)]
            have hR:=pc i kk jh (by rw[hN];decide);refine sT (sH ?_);simp[hR,hN]
           .refine sR ?_;simp[hw];apply sE;refine⟨i+1,⟨hlt,?_⟩,by omega,wkA⟩;have hN:bU a b m i=0:=by simp only[bU,ku,mz,mj,mc,nf];rw[ac hnn,ac (by simp[pf]),ac (by simp[lp,hto])]
            simp only[aA,jh,hN,↓reduceIte]
          .have ki:(m.nodes[a.edges[i].fr.toNat] != y.fr)=true:=by simp[lp]
           simp only[ki];simp;apply sC;simp;refine sR ?_;simp;have hN:bU a b m i=11:=by simp only[bU,ku,mz,mj,mc,nf];rw[ac hnn,ac (by simp[pf]),af (.inl lp)]
           have hR:=pc i kk jh (by rw[hN];decide);refine sT (sH ?_);simp[hR,hN]
      .apply sX;simp only[AU,↓reduceIte];have jf:i=a.edges.length:=by omega
       subst jf;refine sR ?_;simp;have hR:aG a b m=0:=by simp[aG,kp,lz,mo,sj,ia,jh]
       refine sT (sH ?_);simp[hR]
   .have ki:((m.nodes.length:Int) != (a.nodes.length:Int))=true:=by simp;omega
    simp only[ki];simp;apply sC;simp;refine sR ?_;simp;have hR:aG a b m=20:=by simp[aG,kp,lz,mo]
    refine sT (sH ?_);simp[hR]
  .refine sR ?_;simp;apply sC;simp[lz];refine sR ?_;simp;refine sT (sH ?_);simp[aG,kp,lz]
 .refine sR ?_;simp;apply sC;simp[kp];refine sR ?_;simp;refine sT (sH ?_);simp[aG,kp]
def aMj(a b:Gr)(m:Mo)(nb:Nat)(box:Bxs)(tok:Tks)(nt:Nat)(i:Nat):AS :=
 ⟨tl [(3,.ptr (nb+3) 0 0),(4,.ptr (nb+4) 0 0),(5,.ptr (nb+5) 0 0),(9,I i)],
  lb nb box [(3,[[.d (ints a.nodes),.d (AM.edges a.edges)]]),(4,[[.d (ints b.nodes),.d (AM.edges b.edges)]]),(5,[[.d (ints m.nodes),.d (ints m.edges)]])],tok,nt⟩
def aL8(a b:Gr)(m:Mo)(nb:Nat)(box:Bxs)(tok:Tks)(nt:Nat)(i:Nat):AS :=
 ⟨tl [(3,.ptr (nb+3) 0 0),(4,.ptr (nb+4) 0 0),(5,.ptr (nb+5) 0 0),(10,I i)],
  lb nb box [(3,[[.d (ints a.nodes),.d (AM.edges a.edges)]]),(4,[[.d (ints b.nodes),.d (AM.edges b.edges)]]),(5,[[.d (ints m.nodes),.d (ints m.edges)]])],tok,nt⟩
theorem kK(a b:Gr)(m:Mo)(ha:a.Fit)(hb:b.Fit):DC 105 [a.av,b.av,m.av] (I (aG a b m)):=by
 intro tok nt box nb;have x8:=ha.n;have x9:=ha.e;have tg:=hb.n;have u6:=hb.e;refine sI func105 ntmps105 fun Hb Ht=>?_
 refine sR ?_;simp;refine sR ?_;simp;refine sD (dU a ha _ _) ?_;simp;by_cases kp:vG a=0
 .refine sR ?_;simp[kp];apply sC;simp;refine sR ?_;simp;refine sD (dU b hb _ _) ?_;simp;by_cases lz:vG b=0
  .refine sR ?_;simp[lz];apply sC;simp;have Cc:=aE kp;have DJ:=aE lz;refine sR ?_;simp;by_cases mo:m.nodes.length=a.nodes.length
   .simp[mo];apply sC;simp;refine⟨fun hl2=>?_,fun hl2=>?_⟩
    .refine sR ?_;simp;have hR:aG a b m=20:=by
      have:¬m.edges.length=a.edges.length:=by omega
      simp[aG,kp,lz,this]
     refine sT (sH ?_);simp[hR]
    .refine sR ?_;simp;apply sN;have sj:m.edges.length=a.edges.length:=by omega
     have sk:∀i,i<a.nodes.length->aA (cE a b m) i=0->cE a b m i≠0->aG a b m=cE a b m i:=fun i hi h0 hne=>by
      have:=aL h0 hne a.nodes.length hi
      simp[aG,kp,lz,mo,sj,this,hne]
     refine sL (aMj a b m nb box tok nt) (fun i=>i<=a.nodes.length/\aA (cE a b m) i=0) (fun i=>a.nodes.length-i) 0 ⟨ai _,rfl⟩ wkA ?_;rintro i S ⟨hi,ia⟩ hS;simp only[aMj] at hS;subst hS;have hw:=sW (i:=i) (by omega);refine sR ?_;simp;apply sC;simp;refine⟨fun hlt=>?_,fun hge=>?_⟩
     .have kk:i<a.nodes.length:=by omega
      have hlt:i<m.nodes.length:=by omega
      have ku:m.nodes.getD i 0=m.nodes[i]:=by simp[hlt]
      have mz:a.nodes.getD i 0=a.nodes[i]:=by simp[kk]
      refine sR ?_;simp[hlt];by_cases iu:m.nodes[i]<0
      .simp[iu,hlt];apply sC;simp;refine sR ?_;simp;have hN:cE a b m i=6:=by simp only[cE,ku];rw[af (.inl iu)]
       have hR:=sk i kk ia (by rw[hN];decide);refine sT (sH ?_);simp[hR,hN]
      .simp[iu,hlt];apply sC;simp;refine⟨fun hbig=>?_,fun pb=>?_⟩
       .refine sR ?_;simp;have hN:cE a b m i=6:=by simp only[cE,ku];rw[af (.inr (by omega))]
        have hR:=sk i kk ia (by rw[hN];decide);refine sT (sH ?_);simp[hR,hN]
       .have jb:m.nodes[i].toNat<b.nodes.length:=by omega
        have h0:0<=m.nodes[i]:=by omega
        have mj:b.nodes.getD m.nodes[i].toNat 0=b.nodes[m.nodes[i].toNat]:=by simp[jb]
        have j8:¬(b.nodes.length:Int)<=m.nodes[i]:=by omega
        refine sR ?_;simp[jb,h0,pb,kk,hlt];apply sC;simp;refine⟨fun hne=>?_,fun mt=>?_⟩
        .refine sR ?_;simp;have hN:cE a b m i=13:=by simp only[cE,ku,mz,mj];rw[ac (by omega),ac hne]
         have hR:=sk i kk ia (by rw[hN];decide);refine sT (sH ?_);simp[hR,hN]
        .refine sR ?_;simp[hw];apply sE;refine⟨i+1,⟨kk,?_⟩,by omega,wkA⟩;have hN:cE a b m i=0:=by simp only[cE,ku,mz,mj];rw[ac (by omega),af mt]
         simp only[aA,ia,hN,↓reduceIte]
     .apply sX;simp only[AU,↓reduceIte];have jf:i=a.nodes.length:=by omega
      subst jf;refine sR ?_;simp;apply sN;have pc:∀i,i<a.edges.length->aA (bU a b m) i=0->bU a b m i≠0->aG a b m=bU a b m i:=fun i hi h0 hne=>by
       have:=aL h0 hne a.edges.length hi
       simp[aG,kp,lz,mo,sj,ia,this]
      refine sL (aL8 a b m nb box tok nt) (fun i=>i<=a.edges.length/\aA (bU a b m) i=0) (fun i=>a.edges.length-i) 0 ⟨ai _,rfl⟩ wkA ?_;rintro i S ⟨hi,jh⟩ hS;simp only[aL8] at hS;subst hS;have hw:=sW (i:=i) (by omega);refine sR ?_;simp;apply sC;simp;refine⟨fun hlt=>?_,fun hge=>?_⟩
      .have kk:i<a.edges.length:=by omega
       have hlt:i<m.edges.length:=by omega
       have ku:m.edges.getD i 0=m.edges[i]:=by simp[hlt]
       have mz:a.edges.getD i default=a.edges[i]:=by simp[kk]
       obtain⟨x1,x2,x3,x4⟩:=Cc _ (aa kk);rw[<-mo] at x2 x4;have y1:a.edges[i].fr.toNat<m.nodes.length:=by omega
       have y2:a.edges[i].to.toNat<m.nodes.length:=by omega
       have mc:m.nodes.getD a.edges[i].fr.toNat 0=m.nodes[a.edges[i].fr.toNat]:=by simp[y1]
       have nf:m.nodes.getD a.edges[i].to.toNat 0=m.nodes[a.edges[i].to.toNat]:=by simp[y2]
       refine sR ?_;simp[hlt];by_cases iu:m.edges[i]<0
       .simp[iu,hlt];apply sC;simp;refine sR ?_;simp;have hN:bU a b m i=6:=by simp only[bU,ku];rw[af (.inl iu)]
        have hR:=pc i kk jh (by rw[hN];decide);refine sT (sH ?_);simp[hR,hN]
       .simp[iu,hlt];apply sC;simp;refine⟨fun hbig=>?_,fun pb=>?_⟩
        .refine sR ?_;simp;have hN:bU a b m i=6:=by simp only[bU,ku];rw[af (.inr (by omega))]
         have hR:=pc i kk jh (by rw[hN];decide);refine sT (sH ?_);simp[hR,hN]
        .have jb:m.edges[i].toNat<b.edges.length:=by omega
         have h0:0<=m.edges[i]:=by omega
         have mj:b.edges.getD m.edges[i].toNat default=b.edges[m.edges[i].toNat]:=by simp[jb]
         have hnn:¬(m.edges[i]<0∨(b.edges.length:Int)<=m.edges[i]):=by omega
         apply sN;refine AL.region2 bS (nr0 _) (by kernel_rfl) (mH.of (by simp)) ?_;simp[jb,h0,pb,kk,hlt];generalize hy:b.edges[m.edges[i].toNat]=y at *;refine sR ?_;simp;apply sC;simp;refine⟨fun pf=>?_,fun pf=>?_⟩
         .refine sR ?_;simp;have hN:bU a b m i=13:=by simp only[bU,ku,mz,mj];rw[ac hnn,af pf]
          have hR:=pc i kk jh (by rw[hN];decide);refine sT (sH ?_);simp[hR,hN]
         .refine sR ?_;simp[x1,x2,x3,x4,y1,y2];by_cases lp:m.nodes[a.edges[i].fr.toNat]=y.fr
          .have ki:(m.nodes[a.edges[i].fr.toNat] != y.fr)=false:=by simp[lp]
           simp only[ki];simp[x1,x2,x3,x4,y1,y2];apply sC;simp;refine⟨fun hto=>?_,fun hto=>?_⟩
           .refine sR ?_;simp;have hN:bU a b m i=11:=by simp only[bU,ku,mz,mj,mc,nf];rw[ac hnn,ac (by simp[pf]),af (.inr hto)]
            have hR:=pc i kk jh (by rw[hN];decide);refine sT (sH ?_);simp[hR,hN]
           .refine sR ?_;simp[hw];apply sE;refine⟨i+1,⟨kk,?_⟩,by omega,wkA⟩;have hN:bU a b m i=0:=by simp only[bU,ku,mz,mj,mc,nf];rw[ac hnn,ac (by simp[pf]),ac (by simp[lp,hto])]
            simp only[aA,jh,hN,↓reduceIte]
          .have ki:(m.nodes[a.edges[i].fr.toNat] != y.fr)=true:=by simp[lp]
           simp only[ki];simp;apply sC;simp;refine sR ?_;simp;have hN:bU a b m i=11:=by simp only[bU,ku,mz,mj,mc,nf];rw[ac hnn,ac (by simp[pf]),af (.inl lp)]
           have hR:=pc i kk jh (by rw[hN];decide);refine sT (sH ?_);simp[hR,hN]
      .apply sX;simp only[AU,↓reduceIte];have jf:i=a.edges.length:=by omega
       subst jf;refine sR ?_;simp;have hR:aG a b m=0:=by simp[aG,kp,lz,mo,sj,ia,jh]
       refine sT (sH ?_);simp[hR]
   .have ki:((m.nodes.length:Int) != (a.nodes.length:Int))=true:=by simp;omega
    simp only[ki];simp;apply sC;simp;refine sR ?_;simp;have hR:aG a b m=20:=by simp[aG,kp,lz,mo]
    refine sT (sH ?_);simp[hR]
  .refine sR ?_;simp;apply sC;simp[lz];refine sR ?_;simp;refine sT (sH ?_);simp[aG,kp,lz]
 .refine sR ?_;simp;apply sC;simp[kp];refine sR ?_;simp;refine sT (sH ?_);simp[aG,kp]
def aKS(l k:List Int)(i:Nat):Bool:=(List.range i).all fun j=>decide ((j:Int)∈l)||decide ((j:Int)∈k)
def uX(m:Mo)(n:Int):Bool:=decide ((m.nodes.length:Int)+m.edges.length<=n)
theorem aGa(m:Mo)(n:Int)(h1:m.nodes.length<=281474976710656)(h2:m.edges.length<=281474976710656):DC 55 [m.av,I n] (B (uX m n)):=by
 intro tok nt box nb;have hw:IntKind.i64.wrap (↑m.nodes.length+↑m.edges.length)=(m.nodes.length:Int)+m.edges.length:=aM (by omega) (by omega)
 refine sI func55 ntmps55 fun Hb Ht=>?_
 refine sR ?_;simp;refine sR ?_;simp[hw];refine sT (sH ?_);simp[uX]
def aFZ(a b x:Gr)(h k:Mo):Bool:=decide (aG a x h=0)&&(decide (aG b x k=0)&&(aKS h.nodes k.nodes x.nodes.length&&aKS h.edges k.edges x.edges.length))
structure Mo.Big (m:Mo):Prop where
 n:m.nodes.length<=281474976710656
 e:m.edges.length<=281474976710656
def mU(ok:Nat->Nat->Bool)(na:Nat)(l:List Int):List Int := -1::((List.range na).filter fun k=>ok l.length k&&!decide ((k:Int)∈l)).map fun (k:Nat)=>(k:Int)
def dM(ok:Nat->Nat->Bool)(na:Nat):Nat->List Int->List (List Int)
 | 0,l=>[l]
 | n+1,l=>(mU ok na l).flatMap fun k=>dM ok na n (l++[k])
def aLc(ok:Nat->Nat->Bool)(na:Nat)(x:List Int)(i:Nat):Prop:=x.getD i 0 = -1∨∃k:Nat,x.getD i 0=k/\k<na/\ok i k=true/\(k:Int)∉x.take i
theorem aEi(ok:Nat->Nat->Bool)(na:Nat):∀(n:Nat) (l x:List Int),x∈dM ok na n l↔(x.take l.length=l/\x.length=l.length+n/\∀i,l.length<=i->i<x.length->aLc ok na x i)
 | 0,l,x=>by
  simp only[dM,a7,fl];constructor
  .rintro rfl;exact⟨by simp,rfl,fun i h1 h2=>by omega⟩
  .rintro⟨h1,h2,_⟩;rw[<-h1,ak (by omega)]
 | n+1,l,x=>by
  simp only[dM,gm];constructor
  .rintro⟨k,hk,hx⟩;rw[aEi ok na n (l++[k]) x] at hx;obtain⟨h1,h2,h3⟩:=hx;simp only[am,ci,db] at h1 h2 h3;have hlt:l.length<x.length:=by omega
   have h4:x.take l.length=l:=by
    have:=d8 (List.take l.length) h1
    rw[List.take_take,Nat.min_eq_left (by omega)] at this;simpa using this
   have h5:x.getD l.length 0=k:=by
    have:=d8 (fun y=>y[l.length]?) h1
    simp only[List.getElem?_take] at this;rw[af (by omega)] at this;rw[ao,this];simp
   refine⟨h4,by omega,fun i CY uf=>?_⟩;by_cases e:i=l.length
   .subst e;unfold aLc;rw[h5,h4];simp only[mU,ca,bc,ce,ay,bd,c9,bq] at hk;rcases hk with rfl|⟨q,⟨Ce,ou,DK⟩,rfl⟩
    .exact .inl rfl
    .exact .inr ⟨q,rfl,Ce,ou,DK⟩
   .exact h3 i (by omega) uf
  .rintro⟨h1,h2,h3⟩;have hlt:l.length<x.length:=by omega
   refine⟨x.getD l.length 0,?_,?_⟩
   .have:=h3 l.length (nr0 _) hlt
    unfold aLc at this;rw[h1] at this;simp only[mU,ca,bc,ce,ay,bd,c9,bq];rcases this with h|⟨k,qm,hk2,hk3,DL⟩
    .exact .inl h
    .exact .inr ⟨k,⟨hk2,hk3,DL⟩,qm.symm⟩
   .rw[aEi ok na n _ x];refine⟨?_,by simp;omega,fun i CY uf=>h3 i (by simp at CY;omega) uf⟩;simp only[am,ci,db,cd];rw[ah hlt,h1];simp[hlt]
def isM(ok:Nat->Nat->Bool)(na nb:Nat)(x:List Int):Prop:=x.length=nb/\∀i,i<nb->aLc ok na x i
theorem aM9(ok:Nat->Nat->Bool)(na nb:Nat)(x:List Int):x∈dM ok na nb []↔isM ok na nb x:=by
 rw[aEi];simp only[db,cd,ai,true_implies,List.take_zero,true_and,isM];constructor
 .rintro⟨h1,h2⟩;exact⟨h1,fun i hi=>h2 i (by omega)⟩
 .rintro⟨h1,h2⟩;exact⟨h1,fun i hi=>h2 i (by omega)⟩
theorem aKp{ok:Nat->Nat->Bool}{na nb:Nat}{x:List Int}(h:isM ok na nb x){i j k:Nat}(hi:i<nb)(hj:j<nb)(h1:x.getD i 0=(k:Int))(h2:x.getD j 0=(k:Int)):i=j:=by
 have key:∀i j:Nat,i<j->j<nb->x.getD i 0=(k:Int)->x.getD j 0=(k:Int)->False:=by
  intro i j pr hj h1 h2;rcases h.2 j hj with e|⟨q,e,_,_,hq⟩
  .rw[e] at h2;omega
  .have:(q:Int)=k:=e.symm.trans h2
   rw[this] at hq;apply hq;have hlen:=h.1;rw[cc];refine⟨i,by omega,?_⟩;have:x.getD i 0=x[i]'(by omega):=by rw[ao,ab (by omega)];rfl
   rw[<-this];exact h1
 rcases Nat.lt_trichotomy i j with h'|h'|h'
 .exact(key i j h' hj h1 h2).elim
 .exact h'
 .exact(key j i h' hi h2 h1).elim
theorem tY(x:List Int)(k:Int):(aU x k = -1/\k∉x)∨∃i:Nat,aU x k=i/\i<x.length/\x.getD i 0=k:=by
 unfold aU;by_cases h:k∈x
 .right;rw[af h];have h1:=List.idxOf_lt_length_of_mem h;refine⟨x.idxOf k,rfl,h1,?_⟩;rw[ao,ab h1];simp
 .left;rw[ac h];exact⟨rfl,h⟩
theorem rN{α:Type}[DecidableEq α]:∀(l m:List α),l.Nodup->(∀x∈l,x∈m)->l.length<=m.length
 | [],m,_,_=>ai _
 | x::l,m,hn,h=>by
  have uu:=List.nodup_cons.1 hn
  have hx:=h x (by simp);have:=rN l (m.erase x) uu.2 fun y hy=>(List.mem_erase_of_ne (show y≠x from fun e=>uu.1 (by rw[<-e];exact hy))).2 (h y (by simp[hy]))
  rw[List.length_erase_of_mem hx] at this;have hp:0<m.length:=List.length_pos_of_mem hx
  simp only[ci];omega
def okN(a b:Gr)(i k:Nat):Bool:=decide (a.nodes.getD k 0=b.nodes.getD i 0)
def okE(a b:Gr)(x:List Int)(i k:Nat):Bool:=decide (a.edges.getD k default=⟨(b.edges.getD i default).ty,x.getD (b.edges.getD i default).fr.toNat 0,x.getD (b.edges.getD i default).to.toNat 0⟩)
def pY(a b:Gr):List (List Int × List Int):=(dM (okN a b) a.nodes.length b.nodes.length []).flatMap fun x=>(dM (okE a b x) a.edges.length b.edges.length []).map fun es=>(x,es)
def sY(a b:Gr)(p:List Int × List Int):Prop:=isM (okN a b) a.nodes.length b.nodes.length p.1/\isM (okE a b p.1) a.edges.length b.edges.length p.2
theorem aEW(a b:Gr)(p:List Int × List Int):p∈pY a b↔sY a b p:=by
 simp only[pY,gm,bc,aM9,sY];constructor
 .rintro⟨x,hx,es,mf,rfl⟩;exact⟨hx,mf⟩
 .rintro⟨h1,h2⟩;exact⟨p.1,h1,p.2,h2,rfl⟩
def EOk(g:Gr):Prop:=∀e∈g.edges,0<=e.fr/\e.fr<g.nodes.length/\0<=e.to/\e.to<g.nodes.length
theorem xW{α:Type}(c:Nat->Bool)(f:Nat->List α->List α)(g:Nat->List α)(ks:List Nat)(out:List α)(h:∀k∈ks,∀out,f k out=lim out (g k)):
  ks.foldl (fun out k=>if c k=true then f k out else out) out=lim out ((ks.filter c).flatMap g):=aAX c f g ks out h
theorem aBG(a b:Gr)(nodes:List Int):∀(n:Nat) (es:List Int) (out:List Ov),ovE a b nodes n es out=lim out ((dM (okE a b nodes) a.edges.length n es).map (bV a b nodes))
  | 0,es,out=>by
    unfold ovE;split
    . rename_i h;rw[rT _ _ h]
    . rename_i h;simp only[dM,di,d6];rw[aKn _ _ h]
  | n+1,es,out=>by
    unfold ovE;split
    . rename_i h;rw[rT _ _ h]
    . have h1:(fun (out:List Ov) (k:Nat)=>if a.edges.getD k default=lV b nodes es/\(k:Int)∉es then ovE a b nodes n (es++[(k:Int)]) out else out) =
          fun out k=>if (okE a b nodes es.length k&&!decide ((k:Int)∈es))=true then ovE a b nodes n (es++[(k:Int)]) out else out:=by
        funext out k
        have ic:∀{p q:Prop} [Decidable p] [Decidable q] {x y:List Ov},(p↔q)->(if p then x else y)=if q then x else y:=by
          intro p q _ _ x y h;by_cases hp:p
          . rw[af hp,af (h.1 hp)]
          . rw[ac hp,ac fun hq=>hp (h.2 hq)]
        refine ic ?_;simp only[okE,lV,bd,au,c9,bq]
      rw[h1,xW _ (fun (k:Nat) out=>ovE a b nodes n (es++[(k:Int)]) out) (fun (k:Nat)=>(dM (okE a b nodes) a.edges.length n (es++[(k:Int)])).map (bV a b nodes)) _ _ (fun k _ out=>aBG a b nodes n _ out),aBG a b nodes n,qI];congr 1
      simp only[dM,mU,gu,c7,List.map_flatMap,List.flatMap_map]
theorem aCa(a b:Gr):∀(n:Nat) (l:List Int) (out:List Ov),ovN a b n l out=lim out ((dM (okN a b) a.nodes.length n l).flatMap fun x=>(dM (okE a b x) a.edges.length b.edges.length []).map (bV a b x))
 | 0,l,out=>by
  unfold ovN;split
  .rename_i h;rw[rT _ _ h]
  .simp only[dM,gu,List.flatMap_nil,c6];rw[aBG]
 | n+1,l,out=>by
  unfold ovN;split
  .rename_i h;rw[rT _ _ h]
  .have h1:(dB a b (ovN a b n) l)=fun out k=>if (okN a b l.length k&&!decide ((k:Int)∈l))=true then ovN a b n (l++[(k:Int)]) out else out:=by
    funext out k
    unfold dB;have ic:∀{p q:Prop} [Decidable p] [Decidable q] {x y:List Ov},(p↔q)->(if p then x else y)=if q then x else y:=by
     intro p q _ _ x y h;by_cases hp:p
     .rw[af hp,af (h.1 hp)]
     .rw[ac hp,ac fun hq=>hp (h.2 hq)]
    refine ic ?_;simp only[okN,bd,au,c9,bq]
   rw[h1,xW _ (fun (k:Nat) out=>ovN a b n (l++[(k:Int)]) out) (fun (k:Nat)=>(dM (okN a b) a.nodes.length n (l++[(k:Int)])).flatMap fun x=>(dM (okE a b x) a.edges.length b.edges.length []).map (bV a b x)) _ _ (fun k _ out=>aCa a b n _ out),aCa a b n,qI];congr 1
   simp only[dM,mU,gu,List.flatMap_append,List.flatMap_assoc,List.flatMap_map]
def pJ(a b:Gr):List Ov:=(pY a b).map fun p=>bV a b p.1 p.2
theorem aJN(a b:Gr):ovN a b b.nodes.length [] []=(pJ a b).take 2001:=by
 rw[aCa];have:((dM (okN a b) a.nodes.length b.nodes.length []).flatMap fun x=>(dM (okE a b x) a.edges.length b.edges.length []).map (bV a b x))=pJ a b:=by
  unfold pJ pY;rw[List.map_flatMap];congr 1
  funext x
  rw[List.map_map];rfl
 rw[this];simp[lim]
theorem xJ(a b:Gr)(ha:vG a=0)(hb:vG b=0)(hs:¬(40<a.nodes.length+b.nodes.length∨80<a.edges.length+b.edges.length)):oR a b=if 2000<(pY a b).length then ([],3) else (pJ a b,0):=by
 have hl:(pJ a b).length=(pY a b).length:=by simp[pJ]
 unfold oR;simp only[ha,hb,hs,aJN,ne_eq,fo,↓reduceIte];by_cases hb:2000<(pY a b).length
 .have:2000<((pJ a b).take 2001).length:=by simp;omega
  rw[af this,af hb]
 .have:(pJ a b).take 2001=pJ a b:=ak (by omega)
  rw[this,ac (by omega),ac hb]
structure Dr where
 nodes:List Int
 edges:List (Int × Int × Int)
abbrev u8(n:Int):D:=.raw (.int .u8 n)
abbrev Dr.av(x:Dr):AV:=.agg [.d (.sl 1 (x.nodes.map fun n=>[u8 n])),.d (.sl 3 (x.edges.map fun e=>[u8 e.1,u8 e.2.1,u8 e.2.2]))]
def fJ(l:List Int)(i:Nat):Bool:=(List.range i).all fun j=>(List.range j).all fun k=>decide (l.getD j 0≠l.getD k 0)
def aAu(l:List Int)(i k:Nat):Bool:=(List.range k).all fun k=>decide (l.getD i 0≠l.getD k 0)
theorem aE8(l:List Int)(i:Nat):fJ l (i+1)=(fJ l i&&aAu l i i):=by simp[fJ,aAu,cn]
theorem aEq(l:List Int)(i k:Nat):aAu l i (k+1)=(aAu l i k&&decide (l.getD i 0≠l.getD k 0)):=by simp only[aAu,cn,fw,List.all_cons,List.all_nil,Bool.and_true]
theorem aFc{l:List Int}{n i k:Nat}(hi:i<n)(hk:k<i)(h:l.getD i 0=l.getD k 0):fJ l n=false:=by
 rw[Bool.eq_false_iff];intro ha;simp only[fJ,aq,ay,au] at ha;exact ha i hi k hk h
def aM3(l:List Int)(nb:Nat)(box:Bxs)(tok:Tks)(nt:Nat)(i:Nat):AS:=⟨tl [(0,.d (ints l)),(3,I i)],lb nb box [],tok,nt⟩
def aMU(l:List Int)(i:Nat)(nb:Nat)(box:Bxs)(tok:Tks)(nt:Nat)(k:Nat):AS:=⟨tl [(0,.d (ints l)),(3,I i),(4,I k)],lb nb box [],tok,nt⟩
theorem rY(l:List Int)(hl:l.length<=1000000):DC 164 [.d (ints l)] (B (fJ l l.length)):=by
 intro tok nt box nb;refine sI func164 ntmps164 fun Hb Ht=>?_
 refine sR ?_;simp;refine sR ?_;simp;apply sN;refine sL (aM3 l nb box tok nt) (fun i=>i<=l.length/\fJ l i=true) (fun i=>l.length-i) 0 ⟨ai _,rfl⟩ (wM (nr0 _) rfl (by simp[ToL]) trivial) ?_;rintro i S ⟨hi,ia⟩ hS;simp only[aM3] at hS;subst hS;have hw:=sW (i:=i) (by omega);refine sR ?_;simp;apply sC;simp;refine⟨fun hlt=>?_,fun hge=>?_⟩
 .refine sR ?_;simp;apply sN;refine sL (aMU l i nb box tok nt) (fun k=>k<=i/\aAu l i k=true) (fun k=>i-k) 0 ⟨ai _,rfl⟩ (wM (nr0 _) rfl (by simp[ToL]) trivial) ?_;rintro k S ⟨hk,AD⟩ hS;simp only[aMU] at hS;subst hS;have oi:=sW (i:=k) (by omega);have gi:l.getD i 0=l[i]:=by simp[hlt]
  refine sR ?_;simp;apply sC;simp;refine⟨fun za=>?_,fun za=>?_⟩
  .have lq:k<l.length:=by omega
   have gk:l.getD k 0=l[k]:=by simp[lq]
   refine sR ?_;simp[hlt,lq];apply sC;simp;refine⟨fun mt=>?_,fun hne=>?_⟩
   .refine sR ?_;simp;have hR:=aFc hlt za (by rw[gi,gk];exact mt);refine sT (sH ?_);simp[hR]
   .refine sR ?_;simp[oi];apply sE;refine⟨k+1,⟨za,?_⟩,by omega,wM (nr0 _) rfl (by simp[ToL]) trivial⟩;rw[aEq,AD,gi,gk];simp[hne]
  .apply sX;simp only[AU,↓reduceIte];have:k=i:=by omega
   subst this;refine sR ?_;simp[hw];apply sE;refine⟨k+1,⟨hlt,?_⟩,by omega,wM (nr0 _) rfl (by simp[ToL]) trivial⟩;rw[aE8,ia,AD];rfl
 .apply sX;simp only[AU,↓reduceIte];have:i=l.length:=by omega
  subst this;refine sR ?_;simp;refine sT (sH ?_);simp[ia]
def fV(a b:Gr)(m:Mo):Bool:=decide (aG a b m=0)&&(fJ m.nodes m.nodes.length&&fJ m.edges m.edges.length)
theorem kI(a b:Gr)(m:Mo)(ha:a.Fit)(hb:b.Fit)(hm:m.Fit):DC 106 [a.av,b.av,m.av] (B (fV a b m)):=by
 intro tok nt box nb;refine sI func106 ntmps106 fun Hb Ht=>?_
 refine sR ?_;simp;refine sR ?_;simp;refine sD (kK a b m ha hb _ _) ?_;simp;by_cases h1:aG a b m=0
 .simp[h1];refine sD (rY m.nodes hm.n _ _) ?_;simp[h1];by_cases h2:fJ m.nodes m.nodes.length=true
  .simp[h1,h2];refine sD (rY m.edges hm.e _ _) ?_;simp[h1,h2];refine sT (sH ?_);simp[fV,h1,h2]
  .have h3:fJ m.nodes m.nodes.length=false:=by simpa using h2
   simp only[h3];simp;refine sT (sH ?_);simp[fV,h1,h3]
 .have ki:(aG a b m==0)=false:=by simp[h1]
  simp only[ki];try simp
  refine sT (sH ?_);simp[fV,h1]
structure Dr.U8 (x:Dr):Prop where
 n:∀k∈x.nodes,0<=k/\k<256
 e:∀k∈x.edges,(0<=k.1/\k.1<256)/\(0<=k.2.1/\k.2.1<256)/\(0<=k.2.2/\k.2.2<256)
def mN(x:Dr)(i:Nat):List Int:=(x.nodes.take i).map fun n=>n % 3
@[simp] theorem aEU(x:Dr)(i:Nat):(mN x i).length=min i x.nodes.length:=by simp[mN]
def mE(x:Dr)(n:Int)(i:Nat):List E:=(x.edges.take i).map fun e=>⟨e.1 % 2,e.2.1 % n,e.2.2 % n⟩
@[simp] theorem aIZ(x:Dr)(n:Int)(i:Nat):(mE x n i).length=min i x.edges.length:=by simp[mE]
def iW(x:Dr):Gr:=⟨mN x 8,if x.nodes.length=0 then [] else mE x (mN x 8).length 10⟩
theorem aB1{α:Type}{r:List α}{v d:α}{j:Nat}(h:j<r.length):(r++[v]).getD j d=r.getD j d:=by
 simp[ao,bi h]
theorem aBb{α:Type}{r:List α}{v d:α}:(r++[v]).getD r.length d=v:=by
 simp[ao]
theorem nF{α:Type}{r t:List α}{d:α}{j:Nat}(h:j<r.length):(r++t).getD j d=r.getD j d:=by
 simp[ao,bi h]
theorem aR{α:Type}{r:List α}{d:α}{j:Nat}(h:j<r.length):r.getD j d∈r:=by
 simp[ao,ab h]
theorem cV{n j:Nat}(h:j<n):(fD n).getD j 0=j:=by
 simp[fD,ao,h]
def iF{α:Type}[Inhabited α](an bn:List α)(x:List Int):Nat->List α × List Int
 | 0=>(an,[])
 | i+1=>if x.getD i 0<0 then ((iF an bn x i).1++[bn.getD i default],(iF an bn x i).2++[((iF an bn x i).1.length:Int)]) else ((iF an bn x i).1,(iF an bn x i).2++[x.getD i 0])
theorem aFk(an bn l:List Int):∀i,bZ an bn l i=iF an bn l i
 | 0=>rfl
 | i+1=>by
  simp only[bZ,iF,aFk an bn l i];rfl
def uR(rn:List Int)(e:E):E:=⟨e.ty,rn.getD e.fr.toNat 0,rn.getD e.to.toNat 0⟩
theorem aFv(ae be:List E)(rn l:List Int):∀i,i<=be.length->dV ae be rn l i=iF ae (be.map (uR rn)) l i
 | 0,_=>rfl
 | i+1,h=>by
  have e:(be.map (uR rn)).getD i default=uR rn (be.getD i default):=by
   have:i<be.length:=by omega
   simp[ao,this]
  simp only[dV,iF,aFv ae be rn l i (by omega),e];rfl
structure GI {α:Type} [Inhabited α] (an bn:List α) (x:List Int) (i:Nat) (rn:List α) (r:List Int):Prop where
 len:r.length=i
 pre:∃t,rn=an++t/\∀y∈t,y∈bn
 rng:∀j,j<i->0<=r.getD j 0/\r.getD j 0<rn.length
 val:∀j,j<i->rn.getD (r.getD j 0).toNat default=bn.getD j default
 neg:∀j,j<i->x.getD j 0<0->(an.length:Int)<=r.getD j 0
 pos:∀j,j<i->¬x.getD j 0<0->r.getD j 0=x.getD j 0
 dist:∀j k,j<k->k<i->r.getD j 0≠r.getD k 0
 cov:∀v:Nat,an.length<=v->v<rn.length->(v:Int)∈r
theorem aB7{α:Type}[Inhabited α]{an bn:List α}{x:List Int}{ok:Nat->Nat->Bool}(h:isM ok an.length bn.length x)(ia:∀i k,i<bn.length->k<an.length->ok i k=true->an.getD k default=bn.getD i default):
  ∀i,i<=bn.length->GI an bn x i (iF an bn x i).1 (iF an bn x i).2
 | 0,_=>⟨rfl,⟨[],by simp[iF],by simp⟩,fun j hj=>absurd hj (b8 _),fun j hj=>absurd hj (b8 _),fun j hj=>absurd hj (b8 _),fun j hj=>absurd hj (b8 _),fun j k _ hj=>absurd hj (b8 _),fun v h1 h2=>by simp only[iF] at h2;omega⟩
 | i+1,hi=>by
  have g:=aB7 h ia i (by omega);simp only[iF];generalize ww:(iF an bn x i).1=rn at g ⊢;generalize hr:(iF an bn x i).2=r at g ⊢;obtain⟨t,ht,u9⟩:=g.pre;have hlen:=g.len;have hal:an.length<=rn.length:=by rw[ht];simp
  have nc:i<bn.length:=by omega
  rcases h.2 i nc with hx|⟨k,hx,hk,Cf,k8⟩
  .rw[af (by omega)];have old:∀j,j<i->(r++[(rn.length:Int)]).getD j 0=r.getD j 0:=fun j hj=>aB1 (by omega)
   have new:(r++[(rn.length:Int)]).getD i 0=rn.length:=by rw[<-hlen];exact aBb
   refine⟨by simp[hlen],⟨t++[bn.getD i default],by rw[ht,cw],?_⟩,fun j hj=>?_,fun j hj=>?_,fun j hj=>?_,fun j hj=>?_,fun j k vd hk=>?_,fun v h1 h2=>?_⟩
   .intro y hy;rcases ap.1 hy with hy|hy
    .exact u9 y hy
    .simp only[a7] at hy;subst hy;exact aR nc
   .simp only[am,ci,db];by_cases e:j=i
    .subst e;rw[new];omega
    .rw[old j (by omega)];have:=g.rng j (by omega);omega
   .by_cases e:j=i
    .subst e;rw[new,bz];exact aBb
    .rw[old j (by omega),aB1 (by have:=g.rng j (by omega);omega)];exact g.val j (by omega)
   .by_cases e:j=i
    .subst e;intro _;rw[new];omega
    .rw[old j (by omega)];exact g.neg j (by omega)
   .by_cases e:j=i
    .subst e;intro hn;omega
    .rw[old j (by omega)];exact g.pos j (by omega)
   .by_cases e:k=i
    .subst e;rw[new,old j vd];have:=g.rng j vd;omega
    .rw[old j (by omega),old k (by omega)];exact g.dist j k vd (by omega)
   .simp only[am,ci,db] at h2;by_cases e:v=rn.length
    .subst e;simp
    .exact ap.2 (.inl (g.cov v h1 (by omega)))
  .rw[ac (by omega)];have old:∀j,j<i->(r++[x.getD i 0]).getD j 0=r.getD j 0:=fun j hj=>aB1 (by omega)
   have new:(r++[x.getD i 0]).getD i 0=x.getD i 0:=by
    have:(r++[x.getD i 0]).getD r.length 0=x.getD i 0:=aBb
    rw[hlen] at this;exact this
   refine⟨by simp[hlen],⟨t,ht,u9⟩,fun j hj=>?_,fun j hj=>?_,fun j hj=>?_,fun j hj=>?_,fun j k' vd jv=>?_,fun v h1 h2=>?_⟩
   .by_cases e:j=i
    .subst e;have AE:((k:Nat):Int)<rn.length:=by omega
     rw[new,hx];exact⟨by omega,AE⟩
    .rw[old j (by omega)];exact g.rng j (by omega)
   .by_cases e:j=i
    .subst e;rw[new,hx,bz,ht,nF hk];exact ia j k nc hk Cf
    .rw[old j (by omega)];exact g.val j (by omega)
   .by_cases e:j=i
    .subst e;intro hn;omega
    .rw[old j (by omega)];exact g.neg j (by omega)
   .by_cases e:j=i
    .subst e;intro hn;exact new
    .rw[old j (by omega)];exact g.pos j (by omega)
   .by_cases e:k'=i
    .subst e;rw[new,old j vd];by_cases hn:x.getD j 0<0
     .have:=g.neg j vd hn
      omega
     .rw[g.pos j vd hn];intro e2;have:=aKp h (show j<bn.length by omega) nc (by rw[e2];exact hx) hx
      omega
    .rw[old j (by omega),old k' (by omega)];exact g.dist j k' vd (by omega)
   .exact ap.2 (.inl (g.cov v h1 h2))
theorem cD{f:Nat->Int}:∀n,(∀i,i<n->f i=0)->aA f n=0
 | 0,_=>rfl
 | n+1,h=>by
  simp only[aA,cD n fun i hi=>h i (by omega),↓reduceIte];exact h n (by omega)
theorem xD{l:List Int}{n:Nat}(h:∀j k,j<k->k<n->l.getD j 0≠l.getD k 0):fJ l n=true:=by
 simp only[fJ,aq,ay,au];exact fun j hj k hk e=>h k j hk hj e.symm
theorem bG{g:Gr}(h:vG g=0):(g.nodes.length<=40/\g.edges.length<=80)/\(∀n∈g.nodes,bA n 99=true)/\∀e∈g.edges,dW e g.nodes.length=true:=by
 unfold vG at h;split at h
 .cases h
 .rename_i h0;split at h
  .cases h
  .rename_i h1;split at h
   .cases h
   .rename_i h2;simp only[bB,dy,not_exists,not_and,c9,Bool.not_eq_false] at h1 h2;exact⟨by omega,h1,h2⟩
theorem oQ{g:Gr}(h0:g.nodes.length<=40/\g.edges.length<=80)(h1:∀n∈g.nodes,bA n 99=true)(h2:∀e∈g.edges,dW e g.nodes.length=true):vG g=0:=by
 unfold vG;rw[ac (by omega),ac,ac]
 .simp only[bB,dy,not_exists,not_and,c9,Bool.not_eq_false];exact h2
 .simp only[bB,dy,not_exists,not_and,c9,Bool.not_eq_false];exact h1
theorem fL(e:E)(n:Int):dW e n=true↔bA e.ty 99=true/\(0<=e.fr/\e.fr<n)/\(0<=e.to/\e.to<n):=by
 simp only[dW,bA,bd,au];omega
structure aO8 (a b:Gr) (x es:List Int):Prop where
 n:GI a.nodes b.nodes x b.nodes.length (bV a b x es).g.nodes (bV a b x es).r.nodes
 e:GI a.edges (b.edges.map (uR (bV a b x es).r.nodes)) es b.edges.length (bV a b x es).g.edges (bV a b x es).r.edges
theorem aCq{a b:Gr}(ha:EOk a)(hb:EOk b){x es:List Int}(h:sY a b (x,es)):aO8 a b x es:=by
 obtain⟨h1,h2⟩:=h;simp only at h1 h2;have AF:x.length=b.nodes.length:=h1.1
 have z8:es.length=b.edges.length:=h2.1
 have gn:GI a.nodes b.nodes x b.nodes.length (bV a b x es).g.nodes (bV a b x es).r.nodes:=by
  simp only[bV,aFk,AF];refine aB7 h1 (fun i k hi hk ia=>?_) _ (nr0 _);unfold okN at ia;rw[au] at ia;exact ia
 refine⟨gn,?_⟩;have key:isM (okE a b x) a.edges.length (b.edges.map (uR (bV a b x es).r.nodes)).length es:=by rw[br];exact h2
 have:=aB7 (an:=a.edges) (bn:=b.edges.map (uR (bV a b x es).r.nodes)) (x:=es) (ok:=okE a b x) key (fun i k hi hk ia=>?_) b.edges.length (by simp)
 .have e0:(bV a b x es).r.nodes=(bZ a.nodes b.nodes x x.length).2:=rfl
  have e1:(bV a b x es).g.edges=(dV a.edges b.edges (bZ a.nodes b.nodes x x.length).2 es es.length).1:=rfl
  have e2:(bV a b x es).r.edges=(dV a.edges b.edges (bZ a.nodes b.nodes x x.length).2 es es.length).2:=rfl
  rw[e1,e2,<-e0,z8,aFv _ _ _ _ _ (nr0 _)];exact this
 .have nc:i<b.edges.length:=by simpa using hi
  unfold okE at ia;rw[au] at ia;have g1:a.edges.getD k default=a.edges[k]:=by simp[hk]
  have g2:b.edges.getD i default=b.edges[i]:=by simp[nc]
  have g3:(b.edges.map (uR (bV a b x es).r.nodes)).getD i default=uR (bV a b x es).r.nodes b.edges[i]:=by simp[nc]
  rw[g1,g2] at ia;rw[g1,g3];obtain⟨a1,a2,a3,a4⟩:=ha _ (aa hk);obtain⟨b1,b2,b3,b4⟩:=hb _ (aa nc);have f1:a.edges[k].fr=x.getD b.edges[i].fr.toNat 0:=d8 E.fr ia
  have f2:a.edges[k].to=x.getD b.edges[i].to.toNat 0:=d8 E.to ia
  have p1:=gn.pos b.edges[i].fr.toNat (by omega) (by omega);have p2:=gn.pos b.edges[i].to.toNat (by omega) (by omega);unfold uR;rw[p1,p2];exact ia
theorem aGu{a b:Gr}(kp:vG a=0)(lz:vG b=0){x es:List Int}(h:sY a b (x,es))(hs:(bV a b x es).g.nodes.length<=40/\(bV a b x es).g.edges.length<=80):
  vG (bV a b x es).g=0/\aG a (bV a b x es).g (bV a b x es).l=0/\aG b (bV a b x es).g (bV a b x es).r=0:=by
 have ha:=aE kp;have hb:=aE lz;obtain⟨_,ta,tea⟩:=bG kp;obtain⟨_,tb,teb⟩:=bG lz;obtain⟨gn,ge⟩:=aCq ha hb h;have hl:(bV a b x es).l=idM a:=rfl
 rw[hl];generalize bV a b x es=o at *;obtain⟨tn,qo,Cg⟩:=gn.pre;obtain⟨te,wz,Ci⟩:=ge.pre;have nl:a.nodes.length<=o.g.nodes.length:=by rw[qo];simp
 have el:a.edges.length<=o.g.edges.length:=by rw[wz];simp
 have hv:vG o.g=0:=by
  refine oQ (by omega) (fun n hn=>?_) fun e he=>?_
  .rw[qo] at hn;rcases ap.1 hn with hn|hn
   .exact ta n hn
   .exact tb n (Cg n hn)
  .rw[wz] at he;rw[fL];rcases ap.1 he with he|he
   .have:=(fL _ _).1 (tea e he)
    exact⟨this.1,by omega,by omega⟩
   .obtain⟨y,hy,rfl⟩:=bc.1 (Ci e he);have:=(fL _ _).1 (teb y hy)
    obtain⟨y1,y2,y3,y4⟩:=hb y hy;have r1:=gn.rng y.fr.toNat (by omega);have r2:=gn.rng y.to.toNat (by omega);exact⟨this.1,r1,r2⟩
 refine⟨hv,?_,?_⟩
 .unfold aG;have z1:aA (cE a o.g (idM a)) a.nodes.length=0:=cD _ fun i hi=>by
   have e1:(idM a).nodes.getD i 0=i:=cV hi
   unfold cE;rw[e1,ac (by omega),bz,af];rw[qo,nF hi]
  have z2:aA (bU a o.g (idM a)) a.edges.length=0:=cD _ fun i hi=>by
   have e1:(idM a).edges.getD i 0=i:=cV hi
   obtain⟨a1,a2,a3,a4⟩:=ha _ (aR (d:=default) hi);have e2:(idM a).nodes.getD (a.edges.getD i default).fr.toNat 0=(a.edges.getD i default).fr.toNat:=cV (by omega)
   have e3:(idM a).nodes.getD (a.edges.getD i default).to.toNat 0=(a.edges.getD i default).to.toNat:=cV (by omega)
   unfold bU;rw[e1,ac (by omega),bz];have e4:o.g.edges.getD i default=a.edges.getD i default:=by rw[wz,nF hi]
   simp only[e4,e2,e3,ne_eq,fo,↓reduceIte];rw[ac (by omega)]
  rw[ac (by simp[kp]),ac (by simp[hv]),ac (by simp[idM]),ac (by simp[z1]),z2]
 .unfold aG;have ln:=gn.len;have le:=ge.len;have z1:aA (cE b o.g o.r) b.nodes.length=0:=cD _ fun i hi=>by
   have r1:=gn.rng i hi;unfold cE;rw[ac (by omega),af];exact gn.val i hi
  have z2:aA (bU b o.g o.r) b.edges.length=0:=cD _ fun i hi=>by
   have r1:=ge.rng i hi;have v1:=ge.val i hi;have g3:(b.edges.map (uR o.r.nodes)).getD i default=uR o.r.nodes (b.edges.getD i default):=by simp[hi]
   rw[g3] at v1;unfold bU;rw[ac (by omega)];simp only[v1,uR,ne_eq,fo,or_self,↓reduceIte]
  rw[ac (by simp[lz]),ac (by simp[hv]),ac (by omega),ac (by simp[z1]),z2]
theorem aDS{a b:Gr}(kp:vG a=0)(lz:vG b=0)(hs:a.nodes.length+b.nodes.length<=40/\a.edges.length+b.edges.length<=80){x es:List Int}(h:sY a b (x,es)):
  vG (bV a b x es).g=0/\aG a (bV a b x es).g (bV a b x es).l=0/\aG b (bV a b x es).g (bV a b x es).r=0:=by
 have AF:x.length=b.nodes.length:=h.1.1
 have z8:es.length=b.edges.length:=h.2.1
 have l1:=(kO a.nodes b.nodes x x.length).1;have l2:=(kN a.edges b.edges (bZ a.nodes b.nodes x x.length).2 es es.length).1;have m1:(bV a b x es).g.nodes.length<=a.nodes.length+x.length:=l1
 have m2:(bV a b x es).g.edges.length<=a.edges.length+es.length:=l2
 exact aGu kp lz h (by omega)
theorem aHe{a b:Gr}(kp:vG a=0)(lz:vG b=0)(hs:a.nodes.length+b.nodes.length<=40/\a.edges.length+b.edges.length<=80){x es:List Int}(h:sY a b (x,es)):
  fV a (bV a b x es).g (bV a b x es).l=true/\fV b (bV a b x es).g (bV a b x es).r=true/\aFZ a b (bV a b x es).g (bV a b x es).l (bV a b x es).r=true:=by
 obtain⟨hv,h1,h2⟩:=aDS kp lz hs h;obtain⟨gn,ge⟩:=aCq (aE kp) (aE lz) h;have i1:∀n,fJ (fD n) n=true:=fun n=>xD fun j k vd hk=>by
  rw[cV hk,cV (by omega)];omega
 have i2:∀l:List Int,∀n m:Nat,(∀v:Nat,n<=v->v<m->(v:Int)∈l)->aKS (fD n) l m=true:=fun l n m hc=>by
  simp only[aKS,aq,ay,d9,au];intro v hv;by_cases DM:v<n
  .left;simp only[fD,bc,ay];exact⟨v,DM,rfl⟩
  .right;exact hc v (by omega) hv
 refine⟨?_,?_,?_⟩
 .have e1:(bV a b x es).l=idM a:=rfl
  unfold fV;rw[h1,e1];simp[idM,i1]
 .unfold fV;rw[h2,gn.len,ge.len,xD gn.dist,xD ge.dist];rfl
 .unfold aFZ;rw[h1,h2];have c1:=i2 _ _ _ gn.cov;have c2:=i2 _ _ _ ge.cov;have e1:(bV a b x es).l.nodes=fD a.nodes.length:=rfl
  have e2:(bV a b x es).l.edges=fD a.edges.length:=rfl
  rw[e1,e2,c1,c2];rfl
theorem aGF(x:Dr):(iW x).nodes.length<=8/\(iW x).edges.length<=10:=by
 refine⟨by simp only[iW,aEU];omega,?_⟩;simp only[iW];split
 .simp
 .simp only[aIZ];omega
theorem aDw{x:Dr}(hx:x.U8):vG (iW x)=0:=by
 have hl:=aGF x;refine oQ (by omega) (fun n hn=>?_) fun e he=>?_
 .simp only[iW,mN,bc] at hn;obtain⟨k,hk,rfl⟩:=hn;have:=hx.n k (bt hk)
  simp only[bA,bd,au];omega
 .simp only[iW] at he;split at he
  .simp at he
  .rename_i h0;simp only[mE,bc] at he;obtain⟨k,hk,rfl⟩:=he;have:=hx.e k (bt hk)
   have hp:0<((mN x 8).length:Int):=by rw[aEU];omega
   rw[fL];simp only[bA,bd,au,iW];have m1:=Int.emod_nonneg k.2.1 (show ((mN x 8).length:Int)≠0 by omega);have m2:=Int.emod_lt_of_pos k.2.1 hp;have m3:=Int.emod_nonneg k.2.2 (show ((mN x 8).length:Int)≠0 by omega);have m4:=Int.emod_lt_of_pos k.2.2 hp;exact⟨by omega,⟨m1,m2⟩,m3,m4⟩
end Go.AM
namespace Go.Proofs
open Go.Shelf
open Go.Proofs.Tryz
def Tryz.lays189_ren:Go.Shelf.Ren:=⟨fun|189=>205|125=>265|257=>264|128=>303|129=>290|294=>295|295=>296|296=>297|297=>298|298=>299|299=>300|216=>176|300=>301|301=>302|328=>326|329=>327|330=>328|331=>329|332=>330|215=>229|343=>336|n=>n,fun|28=>37|3=>3|46=>238|0=>0|51=>321|53=>129|4=>4|183=>332|182=>331|131=>208|5=>5|9=>9|218=>350|222=>354|228=>360|229=>361|n=>n,fun|n=>n⟩
theorem Tryz.lays189:Go.Proofs.Lays.n189 prog Tryz.lays189_ren:={
 mixed:=by kernel_rfl
 f125:=func265.trans (congrArg some (by kernel_rfl))
 f128:=func303.trans (congrArg some (by kernel_rfl))
 f129:=func290.trans (congrArg some (by kernel_rfl))
 f189:=func205.trans (congrArg some (by kernel_rfl))
 f215:=func229.trans (congrArg some (by kernel_rfl))
 f216:=func176.trans (congrArg some (by kernel_rfl))
 f257:=func264.trans (congrArg some (by kernel_rfl))
 f294:=func295.trans (congrArg some (by kernel_rfl))
 f295:=func296.trans (congrArg some (by kernel_rfl))
 f296:=func297.trans (congrArg some (by kernel_rfl))
 f297:=func298.trans (congrArg some (by kernel_rfl))
 f298:=func299.trans (congrArg some (by kernel_rfl))
 f299:=func300.trans (congrArg some (by kernel_rfl))
 f300:=func301.trans (congrArg some (by kernel_rfl))
 f301:=func302.trans (congrArg some (by kernel_rfl))
 f328:=func326.trans (congrArg some (by kernel_rfl))
 f329:=func327.trans (congrArg some (by kernel_rfl))
 f330:=func328.trans (congrArg some (by kernel_rfl))
 f331:=func329.trans (congrArg some (by kernel_rfl))
 f332:=func330.trans (congrArg some (by kernel_rfl))
 f343:=func336.trans (congrArg some (by kernel_rfl))
 t0:=underlying0
 a0:=isAgg0
 z0:=sizeOf0
 v0:=zeroValue0
 t3:=underlying3
 a3:=isAgg3
 z3:=sizeOf3
 v3:=zeroValue3
 t4:=underlying4
 a4:=isAgg4
 z4:=sizeOf4
 v4:=zeroValue4
 t5:=underlying5
 a5:=isAgg5
 z5:=sizeOf5
 v5:=zeroValue5
 t9:=underlying9
 a9:=isAgg9
 z9:=sizeOf9
 v9:=zeroValue9
 t28:=underlying37
 a28:=isAgg37
 z28:=sizeOf37
 v28:=zeroValue37
 t46:=underlying238
 a46:=isAgg238
 z46:=sizeOf238
 v46:=zeroValue238
 t51:=underlying321
 a51:=isAgg321
 z51:=sizeOf321
 v51:=zeroValue321
 t53:=underlying129
 a53:=isAgg129
 z53:=sizeOf129
 v53:=zeroValue129
 t131:=underlying208
 a131:=isAgg208
 z131:=sizeOf208
 v131:=zeroValue208
 t182:=underlying331
 a182:=isAgg331
 z182:=sizeOf331
 v182:=zeroValue331
 t183:=underlying332
 a183:=isAgg332
 z183:=sizeOf332
 v183:=zeroValue332
 t218:=underlying350
 a218:=isAgg350
 z218:=sizeOf350
 v218:=zeroValue350
 t222:=underlying354
 a222:=isAgg354
 z222:=sizeOf354
 v222:=zeroValue354
 t228:=underlying360
 a228:=isAgg360
 z228:=sizeOf360
 v228:=zeroValue360
 t229:=underlying361
 a229:=isAgg361
 z229:=sizeOf361
 v229:=zeroValue361 }
open Go.Sort Go.RowKit in
theorem Tryz.slices_Sort_int(blk off cap:Nat)(zs:List Int)(w:World)(hH:Holds (Value.int .i64) w blk off zs.toArray)(yo:blk<w.heap.size)(hsz:zs.length<4611686018427387904):
  Calls prog 205 #[.slice (some ⟨blk,off,none⟩) zs.length cap] w fun e w' =>
   e=.returned (.tuple #[])/\∃n os,w'=grow (putRow (Value.int .i64) (Sort.ahead w n) blk off (zs.mergeSort fun x y=>decide (x<=y)).toArray) os:=Any.slices_Sort_int Tryz.lays189 blk off cap zs w hH yo hsz
def Tryz.laysNm215_ren:Go.Shelf.Ren:=⟨fun|15=>83|n=>n,fun|22=>37|3=>3|4=>4|n=>n,fun|n=>n⟩
theorem Tryz.laysNm215:Go.Proofs.Lays2.n15 prog Tryz.laysNm215_ren:={
 mixed:=by kernel_rfl
 f15:=func83.trans (congrArg some (by kernel_rfl))
 t3:=underlying3
 a3:=isAgg3
 z3:=sizeOf3
 v3:=zeroValue3
 t4:=underlying4
 a4:=isAgg4
 z4:=sizeOf4
 v4:=zeroValue4
 t22:=underlying37
 a22:=isAgg37
 z22:=sizeOf37
 v22:=zeroValue37
 i3:=by kernel_rfl }
open Go.RowKit Go.Lib in
theorem Tryz.slices_Clone_int(b off n c:Nat)(zs:List Int)(w:World)(hz:n<=zs.length)(hbig:n*8<=140737488355328)(hc:∀j,j<zs.length->w.cell? ⟨b,off+j,none⟩=some (.int .i64 (zs.getD j 0))):
  Calls prog 83 #[.slice (some ⟨b,off,none⟩) n c] w fun e w'=>∃v',e=.returned v'/\w'.ownsRow w.heap.size 3 1 v' n ((zs.take n).map (Value.int .i64))/\v'≠.slice none 0 0/\Below w.heap.size w w':=Any.slices_Clone_int Tryz.laysNm215 b off n c zs w hz hbig hc
open Go.RowKit Go.Lib in
theorem Tryz.slices_Clone_int_nil(n c:Nat)(w:World):
  Calls prog 83 #[.slice none n c] w fun e w'=>e=.returned (.slice none 0 0)/\w'=w:=Any.slices_Clone_int_nil Tryz.laysNm215 n c w
open Go.RowKit Go.Lib in
theorem Tryz.slices_Clone_int_zero(a:Addr)(c:Nat)(w:World):
  Calls prog 83 #[.slice (some a) 0 c] w fun e w'=>∃v',e=.returned v'/\w'.ownsRow w.heap.size 3 1 v' 0 []/\v'≠.slice none 0 0/\Below w.heap.size w w':=Any.slices_Clone_int_zero Tryz.laysNm215 a c w
def Tryz.laysNm220_ren:Go.Shelf.Ren:=⟨fun|20=>213|n=>n,fun|22=>37|3=>3|4=>4|0=>0|n=>n,fun|n=>n⟩
theorem Tryz.laysNm220:Go.Proofs.Lays2.n20 prog Tryz.laysNm220_ren:={
 mixed:=by kernel_rfl
 f20:=func213.trans (congrArg some (by kernel_rfl))
 t0:=underlying0
 a0:=isAgg0
 z0:=sizeOf0
 v0:=zeroValue0
 t3:=underlying3
 a3:=isAgg3
 z3:=sizeOf3
 v3:=zeroValue3
 t4:=underlying4
 a4:=isAgg4
 z4:=sizeOf4
 v4:=zeroValue4
 t22:=underlying37
 a22:=isAgg37
 z22:=sizeOf37
 v22:=zeroValue37
 i3:=by kernel_rfl }
open Go.RowKit Go.Lib Go.Sort in
theorem Tryz.slices_Compact_int(blk off cap:Nat)(zs:List Int)(w:World)(hH:Holds (Value.int .i64) w blk off zs.toArray)(hsz:zs.length<=9223372036854775807)(i8:zs.length<=cap):
  Calls prog 213 #[.slice (some ⟨blk,off,none⟩) zs.length cap] w fun e w'=>e=.returned (.slice (some ⟨blk,off,none⟩) (Lib.compact zs).length cap)/\∃q,w'=putRow (Value.int .i64) (Sort.ahead w q) blk off (Lib.compact zs++List.replicate (zs.length-(Lib.compact zs).length) 0).toArray:=Any.slices_Compact_int Tryz.laysNm220 blk off cap zs w hH hsz i8
open Go.RowKit Go.Lib Go.Sort in
theorem Tryz.slices_Compact_int_empty(a:Option Addr)(cap:Nat)(w:World):
  Calls prog 213 #[.slice a 0 cap] w fun e w'=>e=.returned (.slice a 0 cap)/\w'=w:=Any.slices_Compact_int_empty Tryz.laysNm220 a cap w
open Go.RowKit Go.Sort in
theorem Tryz.slices_Sort_int_none(p:Option Addr)(cap:Nat)(w:World):
  Calls prog 205 #[.slice p 0 cap] w fun e w'=>e=.returned (.tuple #[])/\w'=w:=Any.slices_Sort_int_none Tryz.lays189 p cap w
end Go.Proofs
namespace Go.Proofs.YtchfmhhbiealcaaGreatDoor.images
open Go Go.Proofs Go.RowKit Go.Shelf Go.Sort
open Go.Proofs.Tryz
theorem aEj{B:Nat}{w0 w:World}{os:Array Obj}(h:Below B w0 w)(hB:B<=w.heap.size):Below B w0 (grow w os) :=
 ⟨h.os,h.tape,h.output,by simp[grow];have:=h.size;omega,fun k hk=>by
  rw[<-h.block k hk];exact heap_grow_old _ _ (by omega)⟩
set_option maxHeartbeats 2000000 in
set_option maxRecDepth 100000 in
theorem any(b off n c:Nat)(zs:List Int)(w:World)(hz:zs.length=n)(hbig:n*8<=140737488355328)(hc:∀j,j<zs.length->w.cell? ⟨b,off+j,none⟩=some (.int .i64 (zs.getD j 0))):
    Calls prog 244 #[.slice (some ⟨b,off,none⟩) n c] w fun e w'=>e=.returned (.int .i64 (Lib.compact (zs.mergeSort fun x y=>decide (x<=y))).length)/\Below w.heap.size w w':=by
  have hclone:=Tryz.slices_Clone_int b off n c zs w (by omega) hbig hc;rw[List.take_of_length_le (by omega)] at hclone;clear hc
  go_enter func244,ntmps244
  go_wp2_with (first
    | (go_at_call 83;refine hclone.mono ?_;rintro e w1 ⟨v1,rfl,hown,hnn,hbel⟩
       obtain⟨g,cap,rfl,hbg,hgl,hncap,hcm,hlen,hH⟩:=Lib.holds_of_ownsRow hown hnn;have hsort:=Tryz.slices_Sort_int g 0 cap zs w1 hH hgl (by omega);rw[hlen] at hsort;have X:Aside (Below w.heap.size w w1/\w.heap.size<=g/\g<w1.heap.size/\n<=cap/\cap<=maxLen/\Holds (Value.int .i64) w1 g 0 zs.toArray):=⟨hbel,hbg,hgl,hncap,hcm,hH⟩
       clear hown hbel hH hnn)
    | (go_at_call 205;refine hsort.mono ?_;rintro e w2 ⟨rfl,nn,os,rfl⟩
       have hl2:(zs.mergeSort fun x y=>decide (x<=y)).length=n:=by rw[List.length_mergeSort];exact hz
       have hH2:Holds (Value.int .i64) (grow (putRow (Value.int .i64) (Sort.ahead w1 nn) g 0 (zs.mergeSort fun x y=>decide (x<=y)).toArray) os) g 0 (zs.mergeSort fun x y=>decide (x<=y)).toArray :=
         holds_grow _ _ os g 0 _ (by simpa[putRow,mapBlock,Sort.ahead] using X.out.2.2.1) (holds_putRow _ _ g 0 _ _ (holds_ahead _ w1 nn g 0 _ X.out.2.2.2.2.2) (by simp))
       have hcomp:=Tryz.slices_Compact_int g 0 cap (zs.mergeSort fun x y=>decide (x<=y)) _ hH2 (by omega) (by have:=X.out.2.2.2.1;omega);rw[hl2] at hcomp;clear hH2 hsort)
    | (go_at_call 213;refine hcomp.mono ?_;rintro e w3 ⟨rfl,q,rfl⟩))
  go_ret
  exact⟨rfl,Lib.below_putRow (aEj (Lib.below_putRow X.out.1 X.out.2.1) (by have:=X.out.1.size;simp[putRow,mapBlock,Sort.ahead];omega)) X.out.2.1⟩
set_option maxHeartbeats 2000000 in
set_option maxRecDepth 100000 in
theorem zero(a:Addr)(c:Nat)(w:World):Calls prog 244 #[.slice (some a) 0 c] w fun e w'=>e=.returned (.int .i64 0)/\Below w.heap.size w w':=by
  have hclone:=Tryz.slices_Clone_int_zero a c w
  go_enter func244,ntmps244
  go_wp2_with (first
    | (go_at_call 83;refine hclone.mono ?_;rintro e w1 ⟨v1,rfl,hown,hnn,hbel⟩
       obtain⟨g,cap,rfl,_,_,_,_,_,_⟩:=Lib.holds_of_ownsRow (enc:=Value.int .i64) (zs:=[]) hown hnn;have X:Aside (Below w.heap.size w w1):=hbel
       clear hown hbel hnn)
    | (go_at_call 205;refine(Tryz.slices_Sort_int_none _ _ _).mono ?_;rintro e w2 ⟨rfl,rfl⟩)
    | (go_at_call 213;refine(Tryz.slices_Compact_int_empty _ _ _).mono ?_;rintro e w3 ⟨rfl,rfl⟩))
  go_ret
  exact⟨rfl,X.out⟩
set_option maxHeartbeats 2000000 in
set_option maxRecDepth 100000 in
theorem none(n c:Nat)(w:World):Calls prog 244 #[.slice none n c] w fun e w'=>e=.returned (.int .i64 0)/\Below w.heap.size w w':=by
 go_enter func244,ntmps244
 go_wp2_with (first
  | (go_at_call 83;refine(Tryz.slices_Clone_int_nil n c _).mono ?_;rintro e w1 ⟨rfl,rfl⟩)
  | (go_at_call 205;refine(Tryz.slices_Sort_int_none _ _ _).mono ?_;rintro e w2 ⟨rfl,rfl⟩)
  | (go_at_call 213;refine(Tryz.slices_Compact_int_empty _ _ _).mono ?_;rintro e w3 ⟨rfl,rfl⟩))
 go_ret
 exact⟨rfl,Below.refl _ _⟩
end Go.Proofs.YtchfmhhbiealcaaGreatDoor.images
namespace Go.AM
open Go Go.Proofs Go.RowKit
open Go.Proofs.Tryz
theorem gX{G:Gh}{w w':World}{m:bH}(hm:aV G m w)(h:Below w.heap.size w w'):Le G w G w' where
 os:=h.os
 tape:=h.tape
 output:=h.output
 size:=h.size
 whole b hb hk:=⟨hk,h.block b hb⟩
 part b f c hk:=⟨⟨f,nr0 _,hk⟩,fun a ha _=>by
  have hb:a.block<w.heap.size:=by
   rcases ew a.block w.heap.size with hb|hb
   .exact hb
   .have:=hm.fresh a.block hb
    rw[ha,hk] at this;cases this
  exact World.cell?_of_block (w:=w) (h.block _ hb)⟩
 bx _ _ h:=h
 ty b c0 T f0 hb:=⟨c0,f0,(h.block b (bj.1 hb).1).trans hb⟩
 nt:=nr0 _
 tk t _:=.inr ⟨rfl,fun g hg=>⟨rfl,fun _=>h.block g (hm.tlt t g hg)⟩⟩
theorem aAA{w:World}{b:Nat}{o:Obj}(h:w.heap[b]?=some o):b<w.heap.size:=by
 rcases ew b w.heap.size with hb|hb
 .exact hb
 .rw[Array.getElem?_eq_none hb] at h;cases h
theorem fB{G:Gh}{w w':World}{m:bH}(hm:aV G m w)(h:Below w.heap.size w w'):aV G m w':=by
 have iv:=gX hm h;constructor
 case box =>
  intro k rows b sz h1 h2;obtain⟨g1,cs,e,g2,g3,g4,g5⟩:=hm.box k rows b sz h1 h2;exact⟨g1,cs,e,by rw[h.block b (aAA g2)];exact g2,g3,g4.mono iv,g5⟩
 case nobox=>exact hm.nobox
 case inj=>exact hm.inj
 case nb=>exact hm.nb
 case nt=>exact hm.nt
 case toks=>exact hm.toks
 case tokb =>
  intro t g hg;obtain⟨f,cur,e,g1,g2⟩:=hm.tokb t g hg;exact⟨f,cur,e,g1,by rw[h.block g (aAA g2)];exact g2⟩
 case tinj=>exact hm.tinj
 case tnt=>exact hm.tnt
 case glob=>exact hm.glob.mono iv.cells
 case fresh=>intro b hb;exact hm.fresh b (cb h.size hb)
theorem cZ.of_below{P:Program}{f:FuncId}{args:List AV}{tok:Nat->Bool}{nt:Nat}{v:Value}(hE:iC P f)(h1:v.oneCell'=true)(h:∀G w vals,RVs G w args vals->Calls P f vals.toArray w fun e w'=>e=.returned v/\Below w.heap.size w w'):cZ P f args tok nt (.d (.raw v)) tok nt:=by
 intro box nb;refine⟨hE,fun G w vals hm hr=>(h G w vals hr).mono ?_⟩;rintro e w' ⟨rfl,hb⟩;exact⟨v,_,_,G,rfl,⟨rfl,rfl⟩,rfl,fB hm hb,.d (.raw h1),gX hm hb,fun k hk=>⟨hk,rfl⟩⟩
theorem xI{c:Addr->Option Value}{ps:Addr->Prop}{l:List Int}{v:Value}(h:RVd c ps (ints l) v):
  ∃A cap,v=.slice A l.length cap/\l.length<=cap/\cap<=maxLen/\(l≠[]->∃a,A=some a)/\∀a,A=some a->∀i,i<l.length->c (a.add i)=some (.int .i64 (l.getD i 0)):=by
 unfold ints at h;generalize mf:(l.map fun n=>[D.raw (.int .i64 n)])=es at h;cases h with
 | @sl _ _ A cap u i8 i9 hsz hA hc hr =>
  have hl:es.length=l.length:=by rw[<-mf];simp
  refine⟨A,cap,by rw[hl],by omega,i9,fun hne=>hA (by intro e;rw[e] at hl;exact hne (dj.1 hl.symm)),fun a ha i hi=>?_⟩;have g:=(hc a ha i 0 (by omega) (by decide)).2;have r:=hr i 0 (by omega) (by rw[hsz _ (aa _)];decide);have e1:es[i][0]'(by rw[hsz _ (aa _)];decide)=D.raw (.int .i64 l[i]):=by
   subst mf;simp
  rw[e1] at r;have e2:u i 0=.int .i64 l[i]:=by
   generalize hu:u i 0=x at r;cases r;rfl
  rw[gz,fl,e2] at g;rw[g];simp[hi]
def lG(l:List Int):Nat:=(Lib.compact (l.mergeSort fun x y=>decide (x<=y))).length
theorem tU:lG []=0:=by
 simp[lG,List.mergeSort,Lib.compact];rfl
theorem yK(l:List Int)(hl:l.length<=1000000)(tok:Tks)(nt:Nat):cZ prog 244 [.d (ints l)] tok nt (I (lG l)) tok nt:=by
 refine cZ.of_below (iC.mk func244 rfl (by kernel_rfl)) rfl fun G w vals hr=>?_
 obtain⟨hlen,ql⟩:=hr
 match vals,hlen with
 | [v],_ =>
  have h0:=ql 0 (by simp) (by simp);simp only[ck] at h0;cases h0 with
  | d h0 =>
   obtain⟨A,cap,rfl,i8,i9,hA,hc⟩:=xI h0;cases A with
   | none =>
    have:l=[]:=by
     by_cases e:l=[]
     .exact e
     .obtain⟨a,ha⟩:=hA e;cases ha
    subst this;exact(YtchfmhhbiealcaaGreatDoor.images.none _ cap w).mono fun e w' h=>by rw[tU];exact h
   | some a =>
    by_cases e:l=[]
    .subst e;exact(YtchfmhhbiealcaaGreatDoor.images.zero a cap w).mono fun e w' h=>by rw[tU];exact h
    .have hp:0<l.length:=dg.2 e
     have ro:=hc a rfl
     have hs:a.spot=none:=by
      cases qf:a.spot with
      | none=>rfl
      | some q =>
       exfalso
       have:=ro 0 hp
       simp only[World.cell?,Addr.add,qf,Option.isSome_some,↓reduceIte] at this;split at this<;>simp at this
     obtain⟨b,off,sp⟩:=a;simp only at hs;subst hs;refine(YtchfmhhbiealcaaGreatDoor.images.any b off l.length cap l w rfl (by omega) fun j hj=>?_).mono fun e w' h=>h
     have h1:=ro j hj;unfold Addr.add at h1;split at h1
     .rename_i e;subst e;exact h1
     .exact h1
theorem xE(d:Array Int)(hs:∀i j,i<=j->j<d.size->d[i]!<=d[j]!):∀m,m<=d.size->(Lib.compactUpTo d m).Pairwise (· < ·)/\∀x,x∈Lib.compactUpTo d m↔∃j,j<m/\d[j]! =x
 | 0,_=>⟨List.Pairwise.nil,fun x=>⟨fun h=>by simp[Lib.compactUpTo] at h,fun ⟨j,hj,_⟩=>absurd hj (b8 _)⟩⟩
 | m+1,hm=>by
  obtain⟨h1,h2⟩:=xE d hs m (by omega);rw[Lib.compactUpTo_succ];by_cases hk:Lib.keeps d m=true
  .rw[af hk];refine⟨List.pairwise_append.2 ⟨h1,List.pairwise_singleton _ _,fun x hx y hy=>?_⟩,fun x=>?_⟩
   .rw[a7] at hy;subst hy;obtain⟨j,hj,rfl⟩:=(h2 x).1 hx;simp only[Lib.keeps,au] at hk;have a1:=hs j (m-1) (by omega) (by omega);have a2:=hs (m-1) m (by omega) (by omega);have a3:d[m]!≠d[m-1]!:=by rcases hk with hk|hk;omega;exact hk
    omega
   .rw[ap,a7,h2];constructor
    .rintro(⟨j,hj,e⟩|e)
     .exact⟨j,by omega,e⟩
     .exact⟨m,by omega,e.symm⟩
    .rintro⟨j,hj,e⟩;by_cases ej:j=m
     .subst ej;exact .inr e.symm
     .exact .inl ⟨j,by omega,e⟩
  .rw[ac hk,c6];refine⟨h1,fun x=>?_⟩;rw[h2];constructor
   .rintro⟨j,hj,e⟩;exact⟨j,by omega,e⟩
   .rintro⟨j,hj,e⟩;by_cases ej:j=m
    .subst ej;simp only[Lib.keeps,au,not_or,dq] at hk;exact⟨j-1,by omega,by rw[<-hk.2];exact e⟩
    .exact⟨j,by omega,e⟩
def cR(l:List Int):List Int:=l.mergeSort fun x y=>decide (x<=y)
theorem qF(l:List Int):(cR l).Perm l:=List.mergeSort_perm l _
theorem aBA(l:List Int):(cR l).Pairwise (· <= ·):=by
 have:=List.pairwise_mergeSort (le:=fun x y:Int=>decide (x<=y)) (fun a b c h1 h2=>by simp only[au] at *;omega) (fun a b=>by simp only[d9,au];omega) l
 exact this.imp fun h=>by simpa using h
theorem aGS(l:List Int)(i j:Nat)(pr:i<=j)(hj:j<(cR l).toArray.size):(cR l).toArray[i]!<=(cR l).toArray[j]!:=by
 simp only[ga] at hj;rw[getElem!_pos _ i (by simp;omega),getElem!_pos _ j (by simpa using hj)];by_cases e:i=j
 .subst e;omega
 .exact dh.1 (aBA l) i j (by omega) hj (by omega)
def jU(l:List Int):List Int:=Lib.compact (cR l)
theorem wD(l:List Int):(jU l).Pairwise (· < ·):=(xE (cR l).toArray (aGS l) (cR l).length (by simp)).1
theorem uM(l:List Int):lG l=(jU l).length:=rfl
theorem uG(l:List Int):lG l=l.length↔l.Nodup:=by
 have hl:(cR l).length=l.length:=(qF l).length_eq
 rw[uM,<-(qF l).nodup_iff,<-hl];constructor
 .intro h;have h2:∀j,j<(cR l).length->Lib.keeps (cR l).toArray j=true:=by
   unfold jU Lib.compact Lib.compactUpTo at h;rw[br] at h;have h3:(List.range (cR l).length).filter (Lib.keeps (cR l).toArray)=List.range (cR l).length:=List.filter_sublist.eq_of_length (by rw[h,List.length_range])
   intro j hj;exact(ez.1 h3) j (ay.2 hj)
  have h4:jU l=cR l:=Lib.compact_all _ h2
  have h5:=wD l;rw[h4] at h5;exact h5.imp fun h=>by omega
 .intro h;have h4:jU l=cR l:=Lib.compact_all _ fun j hj=>by
   by_cases e:j=0
   .simp[Lib.keeps,e]
   .apply Lib.keeps_pos;rw[getElem!_pos _ j (by simpa using hj),getElem!_pos _ (j-1) (by simp;omega)];intro e2;exact dh.1 h (j-1) j (by omega) hj (by omega) e2.symm
  rw[h4]
theorem uF(l:List Int):fJ l l.length=true↔l.Nodup:=by
 simp only[fJ,aq,ay,au];rw[List.Nodup,dh];constructor
 .intro h i j hi hj pr e;apply h j hj i pr;rw[ao,ao,ab hj,ab hi];exact e.symm
 .intro h j hj k DO e;rw[ao,ao,ab hj,ab (show k<l.length by omega)] at e;exact h k j (by omega) hj DO e.symm
theorem aDv(l:List Int):decide (lG l=l.length)=fJ l l.length:=by
 rw[dp,au,uG,uF]
theorem yQ(l:List Int):((lG l:Int)==(l.length:Int))=fJ l l.length:=by
 rw[<-aDv,aOC];simp;omega
theorem kH(a b:Gr)(m:Mo)(ha:a.Fit)(hb:b.Fit)(hm:m.Fit):DC 186 [a.av,b.av,m.av] (B (fV a b m)):=by
 intro tok nt box nb;have i1:=yQ m.nodes;have i2:=yQ m.edges;refine sI func186 ntmps186 fun Hb Ht=>?_
 refine sR ?_;simp;refine sR ?_;simp;refine sD (lC a b m ha hb _ _) ?_;simp;by_cases h1:aG a b m=0
 .simp[h1];refine sD (yK m.nodes hm.n _ _) ?_;simp[h1];simp only[i1];by_cases h2:fJ m.nodes m.nodes.length=true
  .simp[h2];refine sD (yK m.edges hm.e _ _) ?_;simp[h1,h2,i2];refine sT (sH ?_);simp[fV,h1,h2]
  .have h3:fJ m.nodes m.nodes.length=false:=by simpa using h2
   simp only[h3];simp;refine sT (sH ?_);simp[fV,h1,h3]
 .have ki:(aG a b m==0)=false:=by simp[h1]
  simp only[ki];try simp
  refine sT (sH ?_);simp[fV,h1]
def aFR(l h:List Int)(i:Nat):List Int:=(l.take i).map (aU h)
@[simp] theorem aMW(l h:List Int)(i:Nat):(aFR l h i).length=min i l.length:=by simp[aFR]
def byK(l by':List Int)(i:Nat):List Int:=(l.take i).map fun x=>by'.getD x.toNat 0
@[simp] theorem aRn(l h:List Int)(i:Nat):(byK l h i).length=min i l.length:=by simp[byK]
def pN(m n:Mo):Mo:=⟨byK m.nodes n.nodes m.nodes.length,byK m.edges n.edges m.edges.length⟩
theorem dD{f:Nat->Int}:∀n,aA f n=0->∀i,i<n->f i=0
 | 0,_,i,hi=>absurd hi (b8 _)
 | n+1,h,i,hi=>by
  simp only[aA] at h;split at h
  .rename_i h0;by_cases e:i=n
   .subst e;exact h
   .exact dD n h0 i (by omega)
  .contradiction
structure VM (a b:Gr) (m:Mo):Prop where
 va:vG a=0
 vb:vG b=0
 ln:m.nodes.length=a.nodes.length
 le:m.edges.length=a.edges.length
 n:∀x∈m.nodes,0<=x/\x<b.nodes.length
 e:∀x∈m.edges,0<=x/\x<b.edges.length
 nt:∀i,i<a.nodes.length->b.nodes.getD (m.nodes.getD i 0).toNat 0=a.nodes.getD i 0
 et:∀i,i<a.edges.length->b.edges.getD (m.edges.getD i 0).toNat default=⟨(a.edges.getD i default).ty,m.nodes.getD (a.edges.getD i default).fr.toNat 0,m.nodes.getD (a.edges.getD i default).to.toNat 0⟩
theorem lE{a b:Gr}{m:Mo}(h:aG a b m=0):VM a b m:=by
 unfold aG at h;split at h
 .omega
 .rename_i h1;split at h
  .omega
  .rename_i h2;split at h
   .cases h
   .rename_i h3;have mo:m.nodes.length=a.nodes.length:=by omega
    have hl2:m.edges.length=a.edges.length:=by omega
    split at h
    .contradiction
    .rename_i h4;have DP:aA (cE a b m) a.nodes.length=0:=dq.1 h4
     have n1:=dD _ DP;have n2:=dD _ h;refine⟨by omega,by omega,mo,hl2,fun x hx=>?_,fun x hx=>?_,fun i hi=>?_,fun i hi=>?_⟩
     .obtain⟨i,hi,rfl⟩:=bf hx;have:=n1 i (by omega)
      have e:m.nodes.getD i 0=m.nodes[i]:=by simp[hi]
      unfold cE at this;rw[e] at this;split at this
      .cases this
      .omega
     .obtain⟨i,hi,rfl⟩:=bf hx;have:=n2 i (by omega)
      have e:m.edges.getD i 0=m.edges[i]:=by simp[hi]
      unfold bU at this;rw[e] at this;split at this
      .cases this
      .omega
     .have:=n1 i hi
      unfold cE at this;split at this
      .cases this
      .split at this
       .assumption
       .cases this
     .have:=n2 i hi
      unfold bU at this;split at this
      .cases this
      .simp only at this;split at this
       .cases this
       .rename_i t1;split at this
        .cases this
        .rename_i t2;have t1':=dq.1 t1
         simp only[ne_eq,not_or,dq] at t2;rw[t1',t2.1,t2.2]
theorem mO{h:List Int}(hn:h.Nodup){i j:Nat}(hi:i<h.length)(hj:j<h.length)(e:h.getD i 0=h.getD j 0):i=j:=by
 rw[ao,ao,ab hi,ab hj] at e;rcases Nat.lt_trichotomy i j with h1|h1|h1
 .exact absurd e (dh.1 hn i j hi hj h1)
 .exact h1
 .exact absurd e.symm (dh.1 hn j i hj hi h1)
theorem aEd(a b:Gr)(m:Mo):fV a b m=true↔aG a b m=0/\m.nodes.Nodup/\m.edges.Nodup:=by
 simp only[fV,bd,au,uF]
theorem oZ{a b:Gr}{m:Mo}(h:VM a b m):aG a b m=0:=by
 have z1:aA (cE a b m) a.nodes.length=0:=cD _ fun i hi=>by
  have:=h.n _ (aR (d:=0) (show i<m.nodes.length by rw[h.ln];exact hi))
  unfold cE;rw[ac (by omega),af (h.nt i hi)]
 have z2:aA (bU a b m) a.edges.length=0:=cD _ fun i hi=>by
  have:=h.e _ (aR (d:=0) (show i<m.edges.length by rw[h.le];exact hi))
  unfold bU;rw[ac (by omega)];simp only[h.et i hi,ne_eq,fo,or_self,↓reduceIte]
 unfold aG;rw[ac (by simp[h.va]),ac (by simp[h.vb]),ac (by have:=h.ln;have:=h.le;omega),ac (by simp[z1]),z2]
theorem eR{l:List Int}{v:Int}(h:v∈l):∃j,j<l.length/\l.getD j 0=v:=by
 obtain⟨j,hj,e⟩:=bf h;exact⟨j,hj,by rw[ao,ab hj];exact e⟩
def chN(ns:List Int)(bit:Nat->Bool):Nat->List Int × List Int
 | 0=>([],[])
 | i+1=>if bit i=true then ((chN ns bit i).1++[ns.getD i 0],(chN ns bit i).2++[(i:Int)]) else chN ns bit i
def atK(ns:List Int)(bit:Nat->Bool):Nat->List Int
 | 0=>[]
 | i+1=>if bit i=true then atK ns bit i++[((chN ns bit i).1.length:Int)] else atK ns bit i++[-1]
def atR(ns:List Int)(bit:Nat->Bool)(i:Nat):List Int:=atK ns bit i++List.replicate (ns.length-i) 0
theorem aFV(ns:List Int)(bit:Nat->Bool):∀i,(atK ns bit i).length=i
 | 0=>rfl
 | i+1=>by
  simp only[atK];split<;>simp[aFV ns bit i]
@[simp] theorem aR7(ns:List Int)(bit:Nat->Bool){i:Nat}(h:i<=ns.length):(atR ns bit i).length=ns.length:=by simp[atR,aFV];omega
def aPE(xs:List Ov)(f:FuncId)(caps:List AV)(nb:Nat)(box:Bxs)(tok:Tks)(nt:Nat)(i:Nat):AS:=⟨tl [(0,.d (ovs xs)),(1,.fn (.func f) caps),(7,I xs.length),(8,I i)],lb nb box [],tok,nt⟩
theorem aCf(xs:List Ov)(f:FuncId)(caps:List AV)(p:Ov->Bool)(hx:xs.length<=1000000)(box:Bxs)(nb:Nat)(tok:Tks)(nt:Nat)(hc:∀c∈caps,bF (fun k=>box k≠none) (fun _=>True) c)(hf:∀x∈xs,∀box' nb',Ext box box'->aD prog f (x.av::caps) ⟨box',nb',tok,nt⟩ fun v m=>v=B (p x)/\m=⟨box',nb',tok,nt⟩):
  aD prog 204 [.d (ovs xs),.fn (.func f) caps] ⟨box,nb,tok,nt⟩ fun v m=>v=I (fQ p xs)/\m=⟨box,nb,tok,nt⟩:=by
 refine sI func204 ntmps204 fun Hb Ht=>?_
 refine sR ?_;simp;refine sR ?_;simp;apply sN;refine sL (aPE xs f caps nb box tok nt) (fun i=>i<=xs.length/\∀x∈xs.take i,p x=false) (fun i=>xs.length-i) 0 ⟨ai _,by simp⟩ (wM (nr0 _) rfl (by simp[ToL];exact .same (lI hc Hb [] (by simp) rfl _)) trivial) ?_;rintro i S ⟨hi,htk⟩ hS;simp only[aPE] at hS;subst hS;have hw:=sW (i:=i) (by omega);refine sR ?_;simp;apply sC;simp;refine⟨fun hlt=>?_,fun hge=>?_⟩
 .refine sR ?_;simp;refine sR ?_;simp[hlt];refine aN.of_b (hf xs[i] (aa _) _ _ ((Ext.refl box).lb Hb [])) ?_;simp;apply sC;simp;refine⟨fun he=>?_,fun hne=>?_⟩
  .refine sR ?_;simp;obtain⟨h1,h2⟩:=vX hlt htk he;refine sT (sH ?_);simp[fQ,h1,h2]
  .refine sR ?_;simp[hw];apply sE;refine⟨i+1,⟨hlt,?_⟩,by omega,wM (nr0 _) rfl (by simp[ToL];exact .same (lI hc Hb [] (by simp) rfl _)) trivial⟩;rw[ah hlt];intro x hx;rcases ap.1 hx with hx|hx
   .exact htk x hx
   .simp at hx;rw[hx];exact hne
 .apply sX;simp only[AU,↓reduceIte];refine sR ?_;simp;have hn:xs.any p=false:=by
   rw[ak hge] at htk;simpa using htk
  refine sT (sH ?_);simp[fQ,hn]
end Go.AM
namespace Go.Proofs.YtchfmhhbiealcaaGreatDoor.values
open Go Go.Proofs Go.RowKit Go.Shelf
open Go.Proofs.Tryz
attribute [local go_sem] Oper.semAt_some
def gW{α:Type}(f:Nat->α)(k:Nat):List α:=(List.range k).map f
theorem aAo{α:Type}(f:Nat->α)(k:Nat):gW f (k+1)=gW f k++[f k]:=by simp[gW,List.range_succ]
theorem uQ{α:Type}(f:Nat->α)(k:Nat):(gW f k).length=k:=by simp[gW]
theorem aCX(zs:List Int):gW (fun j=>zs[j]?.getD 0) zs.length=zs:=by
 apply List.ext_getElem
 .simp[gW]
 .intro i h1 h2;simp[gW,h2]
set_option maxRecDepth 100000 in
set_option maxHeartbeats 2000000 in
theorem aFe(F:Fence)(n:Nat)(h7:F.fn 270)(hro:F.round=none)(hn:1<=n)(l Bs n₀ b off len cap:Nat)(zs:List Int)(hreach:len*8<=140737488351232)(hb:b<n₀)(J Jx:List Int->World->Prop)(hY:∀pre x W,J pre W->pre.length<len->YieldAt F (n-1) prog l #[.int .i64 x] W fun e W' =>
   (e=.returned (.bool true)/\J (pre++[x]) W'/\Below n₀ W W')∨(e=.returned (.bool false)/\Jx (pre++[x]) W'))(W:World)(hBs:W.cell? ⟨Bs,0,none⟩=some (.slice (some ⟨b,off,none⟩) len cap))(hc:∀j,j<len->W.cell? ⟨b,off+j,none⟩=some (.int .i64 (zs[j]?.getD 0)))(h0:J [] W):
  CallsIn F n prog 270 #[.func (.yield l) #[] #[],.pointer (some ⟨Bs,0,none⟩)] W fun e W'=>(∃v,e=.returned v) /\
   ((∃ys,ys=gW (fun j=>zs[j]?.getD 0) len/\J ys W')∨(∃pre,(∃k,k<=len/\pre=gW (fun j=>zs[j]?.getD 0) k)/\Jx pre W')):=by
 refine callsIn_of_wp func270 rfl h7 ?_ hro;simp only[ntmps270,List.size_toArray,List.length_cons,List.length_nil,Nat.reduceAdd,Nat.reduceSub,Array.replicate_succ,Array.replicate_zero,List.push_toArray,List.append_toArray,List.nil_append,List.cons_append]
 gi_wp2
 gi_loopw [7] (fun i wr=>∃k:Nat,k<=len/\i=.int .i64 k/\J (gW (fun j=>zs[j]?.getD 0) k) wr/\Below n₀ W wr)
  (fun i _=>len-(intOf i).toNat)
 case atStart=>exact⟨0,Nat.zero_le _,rfl,h0,Below.refl _ _⟩
 case round =>
  obtain⟨k,hk,rfl,hJs,hnx⟩:=hrel;have hcx:k<len->wr.cell? ⟨b,off+k,none⟩=some (.int .i64 (zs[k]?.getD 0)):=fun h=>(hnx.cell (p:=⟨b,off+k,none⟩) hb).trans (hc k h)
  by_cases hlt:k<len
  .obtain⟨fn,tmps,assign,body,hy,hR⟩:=hY _ (zs[k]?.getD 0) wr hJs (by rw[uQ];exact hlt);have hcx':=hcx hlt
   gi_wp2
   refine hR.mono ?_;rintro e W3 (⟨rfl,hJ3,hk3⟩|⟨rfl,hJx3⟩)
   .-- THE ROUND GOES ON
    gi_wp2
    go_roundw
    case rel=>exact⟨k+1,by omega,by simp,by rw[aAo];exact hJ3,hnx.trans hk3⟩
    case measure=>simp[intOf];omega
   .gi_wp2
    refine bodyPost_ret (results_none rfl _ _ _) rfl ?_;exact⟨⟨_,rfl⟩,.inr ⟨_,⟨k+1,by omega,(aAo _ _).symm⟩,hJx3⟩⟩
  .obtain rfl:k=len:=by omega
   gi_wp2
   go_end0
   exact⟨⟨_,rfl⟩,.inl ⟨_,rfl,hJs⟩⟩
theorem aHv(zs:List Int){k:Nat}(hk:k<=zs.length):gW (fun j=>zs[j]?.getD 0) k=zs.take k:=by
 apply List.ext_getElem
 .simp[gW,hk]
 .intro i h1 h2;have:i<zs.length:=by simp[gW] at h1;omega
  simp[gW,this]
def aBV(n₀:Nat)(W:World)(sv:Value)(zs:List Int):Prop :=
 (∃az cz,sv=.slice az 0 cz/\zs=[])∨∃b off cap,sv=.slice (some ⟨b,off,none⟩) zs.length cap/\b<n₀/\∀j,j<zs.length->W.cell? ⟨b,off+j,none⟩=some (.int .i64 (zs[j]?.getD 0))
theorem aBV.below{n₀:Nat}{A B:World}(h:Below n₀ A B){sv:Value}{zs:List Int}:aBV n₀ A sv zs->aBV n₀ B sv zs
 | .inl e=>.inl e
 | .inr ⟨b,off,cap,e,hb,hc⟩=>.inr ⟨b,off,cap,e,hb,fun j hj=>(h.cell (p:=⟨b,off+j,none⟩) hb).trans (hc j hj)⟩
set_option maxRecDepth 100000 in
set_option maxHeartbeats 1000000 in
theorem xZ(F:Fence)(n:Nat)(h7:F.fn 270)(hro:F.round=none)(l Bs:Nat)(J:List Int->World->Prop)(W:World)(az:Option Addr)(cz:Nat)(hBs:W.cell? ⟨Bs,0,none⟩=some (.slice az 0 cz))(h0:J [] W):
  CallsIn F n prog 270 #[.func (.yield l) #[] #[],.pointer (some ⟨Bs,0,none⟩)] W fun e W'=>(∃v,e=.returned v)/\J [] W':=by
 refine callsIn_of_wp func270 rfl h7 ?_ hro;simp only[ntmps270,List.size_toArray,List.length_cons,List.length_nil,Nat.reduceAdd,Nat.reduceSub,Array.replicate_succ,Array.replicate_zero,List.push_toArray,List.append_toArray,List.nil_append,List.cons_append]
 gi_wp2
 gi_loopw [7] (fun i wr=>i=.int .i64 0/\J [] wr) (fun _ _=>0)
 case atStart=>exact⟨rfl,h0⟩
 case round =>
  obtain⟨rfl,hJs⟩:=hrel
  gi_wp2
  go_end0
  exact⟨⟨_,rfl⟩,hJs⟩
set_option maxHeartbeats 1000000 in
theorem aGH(F:Fence)(n:Nat)(h5:F.fn 215)(hro:F.round=none)(a:Option Addr)(len cap:Nat)(w:World):
  CallsIn F n prog 215 #[.slice a len cap] w fun e w'=>e=.returned (.func (.func 270) #[] #[.pointer (some ⟨w.heap.size,0,none⟩)])/\w'=w.alloc (.cells #[.slice a len cap] 37):=by
 refine callsIn_of_wp func215 rfl h5 ?_ hro;simp only[ntmps215,List.size_toArray,List.length_cons,List.length_nil,Nat.reduceAdd,Nat.reduceSub,Array.replicate_succ,Array.replicate_zero,List.push_toArray,List.append_toArray,List.nil_append,List.cons_append]
 gi_wp2
 go_ret
 exact⟨rfl,rfl⟩
theorem aB4(F:Fence)(n:Nat)(h7:F.fn 270)(hro:F.round=none)(hn:1<=n)(Bs n₀:Nat)(sv:Value)(zs:List Int)(hreach:zs.length*8<=140737488351232)(w:World)(hBs:Bs<w.heap.size)(hn₀:n₀<=w.heap.size)(hc:w.cell? ⟨Bs,0,none⟩=some sv)(hI:aBV n₀ w sv zs):
  SeqStopsK F n prog 270 #[.pointer (some ⟨Bs,0,none⟩)] (fun x:Int => #[Value.int .i64 x]) (Below n₀) (fun ys=>ys=zs) (fun pre=>pre <+: zs) zs.length w:=fun l J Jx W hW _ _ hY h0=>by
 have ro:=(hW.cell (p:=⟨Bs,0,none⟩) hBs).trans hc
 rcases hI.below (hW.mono hn₀) with ⟨az,cz,rfl,rfl⟩|⟨b,off,cap,rfl,hb,m9⟩
 .exact(xZ F n h7 hro l Bs J W az cz ro h0).mono fun e W' ⟨he,hj⟩=>⟨he,.inl ⟨_,rfl,hj⟩⟩
 .refine(aFe F n h7 hro hn l Bs n₀ b off zs.length cap zs hreach hb J Jx hY W ro m9 h0).mono ?_;rintro e W' ⟨he,⟨ys,rfl,hj⟩|⟨pre,⟨k,hk,rfl⟩,hj⟩⟩
  .exact⟨he,.inl ⟨_,aCX zs,hj⟩⟩
  .exact⟨he,.inr ⟨_,by rw[aHv zs hk];exact List.take_prefix _ _,hj⟩⟩
theorem info3:(prog.info? 3).map (fun i=>(i.zero,i.size,i.bytes))=some (some (.int .i64 0),1,8):=by kernel_rfl
set_option maxRecDepth 100000 in
set_option maxHeartbeats 2000000 in
theorem aBe(F:Fence)(n:Nat)(h109:F.fn 305)(h103:F.fn 270)(hro:F.round=none)(hn:3<=n)(Bs:Nat)(sv:Value)(zs:List Int)(hlen:zs.length<=maxLen)(hbytes:zs.length*8<=140737488351232)(w:World)(hBs:Bs<w.heap.size)(hc:w.cell? ⟨Bs,0,none⟩=some sv)(hI:aBV w.heap.size w sv zs):
  CallsIn F n prog 305 #[.slice none 0 0,.func (.func 270) #[] #[.pointer (some ⟨Bs,0,none⟩)]] w fun e W'=>∃v,e=.returned v/\W'.ownsRow w.heap.size 3 1 v zs.length (zs.map (Value.int .i64))/\(v=.slice none 0 0↔zs=[])/\Below w.heap.size w W':=by
 have h1:1<=n:=by omega
 obtain⟨i0,hi,hz0,hz1,hz2⟩:=info_parts info3;refine callsIn_of_wp_marks func305 rfl h109 ?_ hro;simp only[ntmps305,List.size_toArray,List.length_cons,List.length_nil,Nat.reduceAdd,Nat.reduceSub,Array.replicate_succ,Array.replicate_zero,List.push_toArray,List.append_toArray,List.nil_append,List.cons_append]
 gi_wp2
 have bO:=Boxed.new w 37 (.slice none 0 0);have hB0:Below w.heap.size w (w.alloc (.cells #[.slice none 0 0] 37)):=(Below.refl _ w).alloc (Nat.le_refl _) _
 refine wpIn_rangeFunc_ownG hro h1 (gf:=270) (lb := #[.pointer (some ⟨Bs,0,none⟩)]) rfl h103 (enters_of func270 (by kernel_rfl) rfl)
  (aB4 F (n-1) h103 hro (by omega) Bs w.heap.size sv zs hbytes _ (by simp;omega) (by simp) ((hB0.cell (p:=⟨Bs,0,none⟩) hBs).trans hc) (hI.below hB0)) belowK_t (belowK_b (by simp)) (Below.refl _ _) (fun _=>rfl)
  (fun pre W=>(∃v,Boxed W w.heap.size 37 v/\W.ownsRow w.heap.size 3 1 v pre.length (pre.map (Value.int .i64))/\(v=.slice none 0 0↔pre=[]))/\Below w.heap.size w W)
  (fun _ _ _=>False)
  (OwnFrom.and (Own.from (holdsRow_own w.heap.size w.heap.size 37 3 1 (fun pre:List Int=>pre.length) (fun pre=>pre.map (Value.int .i64)) (fun pre v=>v=.slice none 0 0↔pre=[])) _) (ownFrom_below (Nat.le_refl _) (by simp)))
  (fun _ _ _ _ _ hs _ _=>hs)
  ⟨⟨_,bO,World.ownsRow_nil _ _ _ _,by simp⟩,hB0⟩
  (fun x=>{ tmps := #[.slice none 0 0,.func (.func 270) #[] #[.pointer (some ⟨Bs,0,none⟩)],.pointer (some ⟨w.heap.size,0,none⟩),undef,.slice none 0 0,.int .i64 x,.func (.func 270) #[] #[.pointer (some ⟨Bs,0,none⟩)],.int .i64 x,undef,undef,undef,undef,undef],defers:=[] }) ?assign ?body ?done ?stop
 case assign =>
  intro l x W K hK
  gi_wp2
  exact hK
 case body =>
  rintro l pre x W ⟨⟨v,hv,hrow,hnil⟩,hB⟩ hlt;have hc:=hv.cell
  gi_wp2_with (gi_at_builtin;refine wpListIn_append_own _ rfl _ _ 37 rfl w.heap.size 3 i0 (.int .i64 0) 1 8 underlying37 hi hz0 hz1 hz2 rfl (by decide) _ _ _ rfl (hrow.alloc _) ⟨W.heap.size,0,none⟩ 1 1 [.int .i64 x] rfl rfl (cell_one_new _ _ _) (by simp[Value.oneCell']) (by omega) (by omega) (by have:=hB.size;simp;omega) ?_;intro v' w1 hown' hgrow _;obtain⟨g',cap',rfl⟩:=ownsRow_succ hown';obtain⟨hv1,hv2,hr2,hk2,hb2⟩:=hv.appended (by decide) hrow hB.size (Nat.le_refl _) hown' hgrow;have hc1:=hv1.cell;have hf1:=hv1.frozen)
  exact⟨hk2.from _,hb2,⟨_,hv2,by simpa using hr2,by simp⟩,hB.trans hb2⟩
 case done =>
  rintro D ys W hD rfl ⟨⟨v,hv,hrow,hnil⟩,hB⟩ hK;have hc:=hv.cell
  gi_wp2
  refine⟨by simp,.inl ⟨_,_,rfl,run_takeDeferred hK,?_⟩⟩;exact⟨_,results_tmp rfl _ _ _,v,rfl,ownsRow_putObj hrow _ hK rfl,hnil,hB.trans (belowK_b (w:=w) (Nat.le_refl _) W D _ _ (by simp at hD;omega) hK rfl rfl)⟩
 case stop =>
  rintro D c pre W _ _ h _;exact h.elim
end Go.Proofs.YtchfmhhbiealcaaGreatDoor.values
