/-
 Parts of the proof, as merged from many texts: a machine over data, what the functions compute, plain laws.
-/
import Derived.Test.YtchfmhhbiealcaaGreatDoorPIA6
import Derived.Shelf.Sort.Plain
import Derived.Ground.Names2Prog
import Derived.Shelf.Slices.Clone
import Derived.Shelf.Slices.CompactI
import Derived.Shelf.Slices.In.SortNone
import Derived.Test.YtchfmhhbiealcaaGreatDoorProg
import Derived.Test.YtchfmhhbiealcaaGreatDoorChecked
import Derived.WalkKit
import Derived.Deep.LoopGhost
import Derived.Sort.OwnSortedInts
import Derived.Lib.OwnBridge
import Derived.RangeFuncBox
import Derived.RangeFuncLeaves
import Derived.Shelf.Abstract
import Derived.OwnWalkIn
import Derived.TacticsInMore
import Derived.LoopNIn
import Derived.LoopIn
import Derived.Maps.AppendAt
import Derived.Sort.EveryDepth
set_option linter.unusedSimpArgs false
set_option linter.unusedVariables false
namespace Go.AM
open Go Go.Proofs
open Go.Proofs.Tryz
def aL3(a b:Gr)(l k:List Int)(nb:Nat)(box:Bxs)(x:aP3):AS :=
 ⟨tl [(2,.d (ints l)),(3,.d (ints k)),(5,.ptr (nb+5) 0 0),(8,.ptr (nb+8) 0 0),(9,.ptr (nb+9) 0 0),(10,I x.i)],
  lb nb box [(5,[[.d (ints b.nodes),.d (AM.edges b.edges)]]),(8,[[.bot,.bot,.bot,.bot,.bot,.bot]]),
   (9,[[.osl 1 (rI (bX a.nodes b.nodes l x.i).1) x.o1,.osl 3 (rE a.edges) x.o2,.d (ints (idM a).nodes),.d (ints (idM a).edges),.osl 1 (rI (bX a.nodes b.nodes l x.i).2) x.o3,.osl 1 [] x.o4]])],x.tok,x.nt⟩
def aMa(a b:Gr)(l k:List Int)(nb:Nat)(box:Bxs)(x:aPx):AS :=
 ⟨tl [(3,.d (ints k)),(5,.ptr (nb+5) 0 0),(8,.ptr (nb+8) 0 0),(9,.ptr (nb+9) 0 0),(12,I x.i)],
  lb nb box [(5,[[.d (ints b.nodes),.d (AM.edges b.edges)]]),(8,[[.bot,.bot,.bot,.bot,.bot,.bot]]),
   (9,[[.d (ints (bX a.nodes b.nodes l l.length).1),.osl 3 (rE (dS a.edges b.edges (bX a.nodes b.nodes l l.length).2 k x.i).1) x.o1,.d (ints (idM a).nodes),.d (ints (idM a).edges),.d (ints (bX a.nodes b.nodes l l.length).2),.osl 1 (rI (dS a.edges b.edges (bX a.nodes b.nodes l l.length).2 k x.i).2) x.o2]])],x.tok,x.nt⟩
theorem aGB(a b:Gr)(l k:List Int)(ha:a.Fit)(hl:l.length<=b.nodes.length)(hk:k.length<=b.edges.length)(hlb:l.length<=1000000)(hkb:k.length<=1000000)(hx:∀i (h:i<k.length) (h2:i<b.edges.length),k[i]<0->0<=b.edges[i].fr/\b.edges[i].fr<l.length/\0<=b.edges[i].to/\b.edges[i].to<l.length):DC 304 [a.av,b.av,.d (ints l),.d (ints k)] (bQ a b l k).av:=by
 intro tok nt box nb;have han:=ha.n;have hae:=ha.e;refine sI func304 ntmps304 fun Hb Ht=>?_
 refine sR ?_;simp;refine sR ?_;simp;refine sD (aIy a ha _ _) ?_;simp;refine sD (aR1 a ha _ _) ?_;simp;refine sR ?_;simp;refine sN ?_;have htk0:TK tok nt (upd (upd tok nt true) (nt+1) true) (nt+2) [.tok nt,.tok (nt+1),.full,.full]:=((TK.start Ht).full.app.full.app.swap.full.full).perm (List.perm_append_comm (l₁:=[Own.full,Own.full]) (l₂:=[Own.tok nt,Own.tok (nt+1)]))
 refine sL (aL3 a b l k nb box) (fun x=>x.i<=l.length/\TK tok nt x.tok x.nt [x.o1,x.o2,x.o3,x.o4]) (fun x=>l.length-x.i) ⟨0,.tok nt,.tok (nt+1),.full,.full,_,_⟩ ⟨Nat.zero_le _,htk0⟩ (wM htk0.le rfl (by simp[ToL,lk]) (by simp[aC,lk,bX,idM])) ?_;rintro⟨i,o1,o2,o3,o4,tok',nt'⟩ S ⟨hi,htk⟩ hS;simp only[aL3] at hS hi htk;subst hS;have hw:=sW (i:=i) (by omega);have hln:=jY a.nodes b.nodes l i;refine sR ?_;simp;refine sC ?_;simp;refine⟨fun hlt=>?_,fun hge=>?_⟩
 .have hlb:i<b.nodes.length:=by omega
  refine sR ?_;simp[hlt];refine sR ?_;simp;refine sC ?_;simp;refine⟨fun hneg=>?_,fun hpos=>?_⟩
  .refine sR ?_;simp;refine sR ?_;simp[hlb];refine⟨⟨by omega,htk.live⟩,?_⟩;have htk1:=htk.app;refine sR ?_;simp;refine⟨⟨by omega,by simpa using htk1.pick3.live⟩,?_⟩;have htk2:=htk1.pick3.app.put3;refine sR ?_;simp[hw];refine sE ?_;have hg:l.getD i 0=l[i]:=by simp[hlt]
   have hgb:b.nodes.getD i 0=b.nodes[i]:=by simp[hlb]
   refine⟨⟨i+1,_,_,_,_,_,_⟩,⟨hlt,htk2⟩,by simp;omega,wM htk2.le rfl (by simp[ToL,lk]) (by simp[aC,lk,bX,hlt,hlb,hneg])⟩
  .refine sR ?_;simp;refine⟨⟨by omega,htk.pick3.live⟩,?_⟩;have htk2:=htk.pick3.app.put3;refine sR ?_;simp[hw];refine sE ?_;refine⟨⟨i+1,_,_,_,_,_,_⟩,⟨hlt,htk2⟩,by simp;omega,wM htk2.le rfl (by simp[ToL,lk]) (by simp[aC,lk,bX,hlt,hlb,show ¬l[i]<0 by omega])⟩
 .refine sX ?_;simp only[AU,↓reduceIte];have:i=l.length:=by omega
  subst this;refine sR ?_;simp;refine sN ?_;have htk2:=htk.tail.swap.tail;refine sL (aMa a b l k nb box) (fun x=>x.i<=k.length/\TK tok nt x.tok x.nt [x.o1,x.o2]) (fun x=>k.length-x.i) ⟨0,o2,o4,tok',nt'⟩ ⟨Nat.zero_le _,htk2⟩ (wM htk2.le rfl (by simp[ToL,lk]) (by simp[aC,lk,dS])) ?_;rintro⟨i,o1,o2,tok',nt'⟩ S ⟨hi,htk⟩ hS;simp only[aMa] at hS hi htk;subst hS;have hw:=sW (i:=i) (by omega);generalize hrn:(bX a.nodes b.nodes l l.length).2=rn at *;have hrl:rn.length=l.length:=hln.2
  have hle:=kE a.edges b.edges rn k i;refine sR ?_;simp;refine sC ?_;simp;refine⟨fun hlt=>?_,fun hge=>?_⟩
  .have hlb:i<b.edges.length:=by omega
   refine sR ?_;simp[hlt];refine sR ?_;simp;refine sC ?_;simp;refine⟨fun hneg=>?_,fun hpos=>?_⟩
   .obtain⟨x1,x2,x3,x4⟩:=hx i hlt hlb hneg;have y1:b.edges[i].fr.toNat<rn.length:=by omega
    have y2:b.edges[i].to.toNat<rn.length:=by omega
    refine sR ?_;simp[hlb];refine sR ?_;simp;refine sR ?_;simp[x1,x2,x3,x4,y1,y2,hrl];refine⟨⟨by omega,htk.live⟩,?_⟩;have htk1:=htk.app;refine sR ?_;simp;refine⟨⟨by omega,by simpa using htk1.swap.live⟩,?_⟩;have htk2:=htk1.swap.app.swap;refine sR ?_;simp[hw];refine sE ?_;have hbd:b.edges.getD i default=b.edges[i]:=by simp[hlb]
    refine⟨⟨i+1,_,_,_,_⟩,⟨hlt,htk2⟩,by simp;omega,wM htk2.le rfl (by simp[ToL,lk]) (by simp[aC,lk,dS,hrn,hlt,hlb,hneg,y1,y2])⟩
   .refine sR ?_;simp;refine⟨⟨by omega,htk.swap.live⟩,?_⟩;have htk2:=htk.swap.app.swap;refine sR ?_;simp[hw];refine sE ?_;refine⟨⟨i+1,_,_,_,_⟩,⟨hlt,htk2⟩,by simp;omega,wM htk2.le rfl (by simp[ToL,lk]) (by simp[aC,lk,dS,hrn,hlt,hlb,show ¬k[i]<0 by omega])⟩
  .refine sX ?_;simp only[AU,↓reduceIte];have:i=k.length:=by omega
   subst this;refine sR ?_;simp;refine sT (sG Hb Ht htk.old htk.le ?_);simp[bQ,hrn]
variable {P:Program}
def AV.asD1:AV->AV
 | .osl sz es _=>.d (.sl sz es)
 | x=>x
def AV.asD:AV->AV
 | .osl sz es _=>.d (.sl sz es)
 | .agg cs=>.agg (cs.map AV.asD1)
 | x=>x
theorem RV.asD1{G:Gh}{w:World}{x:AV}{v:Value}(h:RV G w x v):RV G w x.asD1 v:=by
 cases h with
 | osl h1 h2=>exact .d h1
 | bot=>exact .bot
 | d h1=>exact .d h1
 | ptr h1=>exact .ptr h1
 | here h1 h2=>exact .here h1 h2
 | buf h1 h2 h3 h4=>exact .buf h1 h2 h3 h4
 | cptr a u hc hr=>exact .cptr a u hc hr
 | msl h1 h2 h3=>exact .msl h1 h2 h3
 | fn hl h=>exact .fn hl h
 | agg hl h h1=>exact .agg hl h h1
 | tup hl h=>exact .tup hl h
 | ex h=>exact .ex h
 | stk h=>exact .stk h
 | que h1 h2=>exact .que h1 h2
 | mp h=>exact .mp h
 | mpd h=>exact .mpd h
theorem RV.asD{G:Gh}{w:World}{x:AV}{v:Value}(h:RV G w x v):RV G w x.asD v:=by
 cases h with
 | osl h1 h2=>exact .d h1
 | bot=>exact .bot
 | d h1=>exact .d h1
 | ptr h1=>exact .ptr h1
 | here h1 h2=>exact .here h1 h2
 | buf h1 h2 h3 h4=>exact .buf h1 h2 h3 h4
 | cptr a u hc hr=>exact .cptr a u hc hr
 | msl h1 h2 h3=>exact .msl h1 h2 h3
 | fn hl h=>exact .fn hl h
 | agg hl h h1=>exact .agg (by simp[hl]) (fun i g1 g2=>by simp only[List.getElem_map];exact(h i (by simpa using g1) g2).asD1) h1
 | tup hl h=>exact .tup hl h
 | ex h=>exact .ex h
 | stk h=>exact .stk h
 | que h1 h2=>exact .que h1 h2
 | mp h=>exact .mp h
 | mpd h=>exact .mpd h
theorem RVs.asD{G:Gh}{w:World}{xs:List AV}{vs:List Value}(h:RVs G w xs vs):RVs G w (xs.map AV.asD) vs :=
 ⟨by simp[h.1],fun i g1 g2=>by simp only[List.getElem_map];exact(h.2 i (by simpa using g1) g2).asD⟩
theorem aD.asD{f:FuncId}{args:List AV}{m:bH}{Q:AV->bH->Prop}(h:aD P f (args.map AV.asD) m Q):aD P f args m Q :=
 ⟨h.1,fun G w vals hm hr=>h.2 G w vals hm hr.asD⟩
theorem aN.data{cx:Cx}{dr:Bool}{fid:FuncId}{args:List AV}{S:AS}{dst:Option Tmp}{K:AS->Prop}(h:aN P cx dr fid (args.map AV.asD) S dst K):aN P cx dr fid args S dst K:=by
 cases dr with
 | true =>
  obtain⟨v,tok',nt',h1,h2⟩:=h;exact⟨v,tok',nt',fun box nb he=>(h1 box nb he).asD,h2⟩
 | false=>exact aD.asD h
def Sub(x y:AV):Prop:=∀G w v,RV G w x v->RV G w y v
theorem Sub.refl(x:AV):Sub x x:=fun _ _ _ h=>h
theorem Sub.data(sz:Nat)(es:List (List D))(o:Own):Sub (.osl sz es o) (.d (.sl sz es)):=fun _ _ _ h=>h.asD
abbrev aJY:Value:=.slice none 0 0
theorem Sub.nilv:Sub (.osl 0 [] .full) (.d (.raw aJY)):=fun G w v h=>by
 cases h with
 | osl h ho =>
  obtain⟨A,rfl,hA⟩:=ho;rw[hA rfl];exact .d (.raw rfl)
theorem Sub.nil(sz sz':Nat)(o:Own):Sub (.osl sz [] o) (.d (.sl sz' [])):=fun G w v h=>by
 cases h with
 | osl h ho =>
  cases h with
  | sl u hcap hmax hsz hA hc hr=>exact .d (.sl (es:=[]) (fun _ _=>default) hcap hmax (by simp) (by simp) (fun a _ i j hi _=>by simp at hi) (fun i j hi _=>by simp at hi))
def aEv:List AV->List AV->Prop
 | [],[]=>True
 | x::xs,y::ys=>Sub x y/\aEv xs ys
 | _,_=>False
theorem aEv.rvs{G:Gh}{w:World}:∀{xs ys:List AV} {vs:List Value},aEv xs ys->RVs G w xs vs->RVs G w ys vs
 | [],[],vs,_,h=>h
 | x::xs,y::ys,[],_,h=>by have:=h.1;simp at this
 | x::xs,y::ys,v::vs,hs,h=>RVs.cons (hs.1 _ _ _ (h.2 0 (by simp) (by simp))) (hs.2.rvs ⟨by simpa using h.1,fun i h1 h2=>h.2 (i+1) (by simpa using h1) (by simpa using h2)⟩)
theorem aD.sub{f:FuncId}{args args':List AV}{m:bH}{Q:AV->bH->Prop}(hs:aEv args args')(h:aD P f args' m Q):aD P f args m Q :=
 ⟨h.1,fun G w vals hm hr=>h.2 G w vals hm (hs.rvs hr)⟩
theorem aN.sub{cx:Cx}{dr:Bool}{fid:FuncId}{args args':List AV}{S:AS}{dst:Option Tmp}{K:AS->Prop}(hs:aEv args args')(h:aN P cx dr fid args' S dst K):aN P cx dr fid args S dst K:=by
 cases dr with
 | true =>
  obtain⟨v,tok',nt',h1,h2⟩:=h;exact⟨v,tok',nt',fun box nb he=>(h1 box nb he).sub hs,h2⟩
 | false=>exact aD.sub hs h
theorem aN.of_a{cx:Cx}{fid:FuncId}{args:List AV}{S:AS}{dst:Option Tmp}{K:AS->Prop}{Q:AV->bH->Prop}(h:aD P fid args ⟨S.box,cx.nb,S.tok,S.nt⟩ Q)(hk:∀v m',Q v m'->K ⟨bV S.tmps dst v,m'.box,m'.tok,m'.nt⟩):aN P cx false fid args S dst K:=h.mono hk
theorem eP(es:List Int)(v:Int):rI es++[[D.raw (.int .i64 v)]]=rI (es++[v]):=by simp[rI]
structure Adv (tok:Tks) (nt:Nat) (own:Own) (tok':Nat->Bool) (nt':Nat) (own':Own):Prop where
 keep:∀t,tok t=true->own≠.tok t->tok' t=true
 le:nt<=nt'
 live:own'.liveP tok'
 new:own'=own∨∃t,own'=.tok t/\nt<=t
 lt:∀t,tok' t=true->t<nt'
theorem Adv.refl{tok:Nat->Bool}{nt:Nat}{own:Own}(h:own.liveP tok)(hl:∀t,tok t=true->t<nt):Adv tok nt own tok nt own:=⟨fun _ h _=>h,nr0 _,h,.inl rfl,hl⟩
theorem Adv.trans{t1 t2 t3:Nat->Bool}{n1 n2 n3:Nat}{o1 o2 o3:Own}(hl:∀t,t1 t=true->t<n1)(h:Adv t1 n1 o1 t2 n2 o2)(k:Adv t2 n2 o2 t3 n3 o3):Adv t1 n1 o1 t3 n3 o3:=by
 refine⟨fun t ht ho=>k.keep t (h.keep t ht ho) (fun e=>?_),Nat.le_trans h.le k.le,k.live,?_,k.lt⟩
 .rcases h.new with e2|⟨s,e2,hs⟩
  .exact ho (e2 ▸ e)
  .rw[e2] at e;cases e;have:=hl _ ht
   omega
 .rcases k.new with e2|⟨s,e2,hs⟩
  .rw[e2];exact h.new
  .exact .inr ⟨s,e2,Nat.le_trans h.le hs⟩
theorem Adv.fresh{tok:Nat->Bool}{nt:Nat}{own:Own}(h:own.liveP tok)(hl:∀t,tok t=true->t<nt):Adv tok nt own (upd (upd (upd tok nt true) nt false) (nt+1) true) (nt+2) own:=by
 have key:∀t,t<nt->(upd (upd (upd tok nt true) nt false) (nt+1) true) t=tok t:=fun t ht=>by
  rw[uO _ _ (by omega),uO _ _ (by omega),uO _ _ (by omega)]
 refine⟨fun t ht _=>by rw[key t (hl t ht)];exact ht,by omega,?_,.inl rfl,fun t ht=>?_⟩
 .cases own with
  | full=>trivial
  | tok t=>simp only[aCY] at h ⊢;rw[key t (hl t h)];exact h
 .by_cases e:t=nt+1
  .omega
  .rw[uO _ _ e] at ht;by_cases e2:t=nt
   .omega
   .rw[uO _ _ e2,uO _ _ e2] at ht;have:=hl t ht
    omega
theorem Adv.app{tok:Nat->Bool}{nt:Nat}{own:Own}(h:own.liveP tok)(hl:∀t,tok t=true->t<nt):Adv tok nt own (upd (own.kill tok) nt true) (nt+1) (.tok nt):=by
 refine⟨fun t ht ho=>?_,by omega,by simp[uS],.inr ⟨nt,rfl,nr0 _⟩,fun t ht=>?_⟩
 .have:=hl t ht
  rw[uO _ _ (by omega)];cases own with
  | full=>exact ht
  | tok s=>simp only[aB9];rw[uO _ _ (fun e=>ho (by rw[e]))];exact ht
 .by_cases e:t=nt
  .omega
  .rw[uO _ _ e] at ht;cases own with
   | full=>have:=hl t ht;omega
   | tok s =>
    simp only[aB9] at ht;by_cases e2:t=s
    .subst e2;rw[uS] at ht;cases ht
    .rw[uO _ _ e2] at ht;have:=hl t ht
     omega
theorem bD{α:Type}(f:Nat->α)(k:Nat)(x y:α):upd (upd f k x) k y=upd f k y:=by
 funext j
 simp only[upd];split<;>rfl
theorem E.eq_and(x y:E):(decide (x.ty=y.ty)&&(decide (x.fr=y.fr)&&decide (x.to=y.to)))=decide (x=y):=by
 cases x;cases y;simp
def lK(b:Gr)(nodes es:List Int):E :=
 let x:=b.edges.getD es.length default
 ⟨x.ty,nodes.getD x.fr.toNat 0,nodes.getD x.to.toNat 0⟩
def ovE(a b:Gr)(nodes:List Int):Nat->List Int->List Ov->List Ov
 | 0,es,out=>if 2000<out.length then out else out++[bQ a b nodes es]
 | n+1,es,out=>if 2000<out.length then out else
   (List.range a.edges.length).foldl (fun (out:List Ov) (k:Nat)=>if a.edges.getD k default=lK b nodes es/\(k:Int)∉es then ovE a b nodes n (es++[(k:Int)]) out else out) (ovE a b nodes n (es++[-1]) out)
structure OvH (a b:Gr) (nodes:List Int):Prop where
 fa:a.Fit
 va:vG a=0
 fb:b.Fit
 n:nodes.length=b.nodes.length
 x:∀e∈b.edges,0<=e.fr/\e.fr<nodes.length/\0<=e.to/\e.to<nodes.length
abbrev iD(a b:Gr)(out:List Ov)(own:Own):List AV:=[.d (ints a.nodes),.d (AM.edges a.edges),.d (ints b.nodes),.d (AM.edges b.edges),.osl 6 (out.map Ov.cells) own]
def QOv(a b:Gr)(box:Bxs)(nb k:Nat)(tok:Tks)(nt:Nat)(own:Own)(out:List Ov)(v:AV)(m:bH):Prop :=
 v=.tup []/\∃own' tok' nt',m=⟨upd box k (some [iD a b out own']),nb,tok',nt'⟩/\Adv tok nt own tok' nt' own'
def iN(a b:Gr)(nodes:List Int)(n:Nat)(es:List Int)(out:List Ov)(k:Nat):List Ov:=if a.edges.getD k default=lK b nodes es/\(k:Int)∉es then ovE a b nodes n (es++[(k:Int)]) out else out
theorem kI{a b:Gr}{out:List Ov}{own:Own}{box:Bxs}{k base:Nat}{p q:Nat->Prop}(hq:q=fun _=>True):∀k' rows,k'<base->(upd box k (some [iD a b out own])) k'=some rows->box k'=some rows∨∀r∈rows,∀x∈r,bF p q x:=by
 subst hq;intro k' rows hk' hr;by_cases e:k'=k
 .subst e;rw[uS] at hr;cases hr;exact .inr (by simp)
 .rw[uO _ _ e] at hr;exact .inl hr
theorem aP5(x y:Int):(x==y)=decide (x=y):=by by_cases h:x=y<;>simp[h]
def cT(a b:Gr)(rec:List Int->List Ov->List Ov)(l:List Int)(out:List Ov)(k:Nat):List Ov:=if a.nodes.getD k 0=b.nodes.getD l.length 0/\(k:Int)∉l then rec (l++[(k:Int)]) out else out
def ovN(a b:Gr):Nat->List Int->List Ov->List Ov
 | 0,l,out=>if 2000<out.length then out else ovE a b l b.edges.length [] out
 | n+1,l,out=>if 2000<out.length then out else (List.range a.nodes.length).foldl (cT a b (ovN a b n) l) (ovN a b n (l++[-1]) out)
structure NoH (a b:Gr):Prop where
 fa:a.Fit
 va:vG a=0
 fb:b.Fit
 x:∀e∈b.edges,0<=e.fr/\e.fr<b.nodes.length/\0<=e.to/\e.to<b.nodes.length
theorem E.eq_and3(x:E)(p q r:Int):(decide (x.ty=p)&&(decide (x.fr=q)&&decide (x.to=r)))=decide (x=⟨p,q,r⟩):=E.eq_and x ⟨p,q,r⟩
def aJ6(a b:Gr)(nodes:List Int)(n:Nat)(es:List Int)(out:List Ov):Nat->List Ov
 | 0=>out
 | i+1=>(List.range i).foldl (iN a b nodes n es) (ovE a b nodes n (es++[-1]) out)
structure aOS where
 i:Nat
 out:List Ov
 own:Own
 tok:Nat->Bool
 nt:Nat
def aPj(a b:Gr)(nodes es:List Int)(nb k:Nat)(box:Bxs)(x:aOS):AS :=
 ⟨tl [(0,.ptr k 0 0),(1,.d (ints nodes)),(2,.d (ints es)),(7,.ptr (nb+7) 0 0),(8,I (x.i-1))],
  lb nb (upd box k (some [iD a b x.out x.own])) [(7,[[I (b.edges.getD es.length default).ty,I (b.edges.getD es.length default).fr,I (b.edges.getD es.length default).to]])],x.tok,x.nt⟩
theorem aGd(a b:Gr)(nodes:List Int)(h:OvH a b nodes):∀(n:Nat) (es:List Int) (out:List Ov) (own:Own) (box:Bxs) (nb k:Nat) (tok:Tks) (nt:Nat),es.length+n=b.edges.length ->
  box k=some [iD a b out own]->own.liveP tok->aD prog 266 [.ptr k 0 0,.d (ints nodes),.d (ints es)] ⟨box,nb,tok,nt⟩ (QOv a b box nb k tok nt own (ovE a b nodes n es out)):=by
 intro n;induction n with
 | zero =>
  intro es out own box nb k tok nt hes hk hlive;have hself:box=upd box k (some [iD a b out own]):=(cL box k _ hk).symm
  refine sI func266 ntmps266 fun Hb Ht=>?_
  have hkn:=bC Hb hk;refine sR ?_;simp[lO hkn,hk];refine sC ?_;simp;refine⟨fun hbig=>?_,fun hsm=>?_⟩
  .refine sN ?_;refine AL.ret ?_;try simp only[AU]
   refine⟨by simp,(Fin.own (vs:=[]) (av:=.tup []) (by simp[aP,bI]) Hb rfl (nr0 _) (by simp)).mono fun v m hq=>⟨hq.1,own,tok,nt,?_,Adv.refl hlive Ht⟩⟩;have hbig':2000<out.length:=by omega
   rw[hq.2,ovE,if_pos hbig',<-hself]
  .have hsm':¬2000<out.length:=by omega
   have hes':es.length=b.edges.length:=by omega
   refine sR ?_;simp[lO hkn,hk];refine sR ?_;simp[lO hkn,hk];refine sC ?_;simp;refine⟨fun _=>?_,fun hne=>absurd (by omega) hne⟩;have hbe:=h.fb.e;have hbn:=h.fb.n;refine sR ?_;simp[lO hkn,hk];refine sD (aGB a b nodes es h.fa (by rw[h.n];exact nr0 _) (by omega) (by rw[h.n];omega) (by omega) (fun i _ h2 _=>h.x _ (List.getElem_mem h2)) _ _) ?_;simp[lO hkn,hk,uL hkn];refine⟨⟨by omega,hlive⟩,?_⟩;refine sN ?_;refine AL.ret ?_;try simp only[AU]
   refine⟨by simp,(Fin.gen (vs:=[]) (av:=.tup []) (tok':=upd (own.kill tok) nt true) (nt':=nt+1) (by simp[aP,bI]) ?_ (by omega) (nr0 _) (fun t h=>⟨h,.inl rfl⟩) ?_ (by simp)).mono fun v m hq=>⟨hq.1,.tok nt,upd (own.kill tok) nt true,nt+1,?_,Adv.app hlive Ht⟩⟩
   .rw[<-uL hkn,Hb]
   .intro k' rows hk' hr;by_cases e:k'=k
    .subst e;rw[uS] at hr;cases hr;exact .inr (by simp)
    .rw[uO _ _ e] at hr;exact .inl hr
   .rw[hq.2,ovE,if_neg hsm'];simp[iD]
 | succ n ih =>
  intro es out own box nb k tok nt hes hk hlive;have hself:box=upd box k (some [iD a b out own]):=(cL box k _ hk).symm
  have hae:=h.fa.e;have hbe:=h.fb.e;have hbn:=h.fb.n;have hlt:es.length<b.edges.length:=by omega
  obtain⟨x1,x2,x3,x4⟩:=h.x b.edges[es.length] (List.getElem_mem hlt);have y1:b.edges[es.length].fr.toNat<nodes.length:=by omega
  have y2:b.edges[es.length].to.toNat<nodes.length:=by omega
  refine sI func266 ntmps266 fun Hb Ht=>?_
  have hkn:=bC Hb hk;refine sR ?_;simp[lO hkn,hk];refine sC ?_;simp;refine⟨fun hbig=>?_,fun hsm=>?_⟩
  .refine sN ?_;refine AL.ret ?_;try simp only[AU]
   refine⟨by simp,(Fin.own (vs:=[]) (av:=.tup []) (by simp[aP,bI]) Hb rfl (nr0 _) (by simp)).mono fun v m hq=>⟨hq.1,own,tok,nt,?_,Adv.refl hlive Ht⟩⟩;have hbig':2000<out.length:=by omega
   rw[hq.2,ovE,if_pos hbig',<-hself]
  .have hsm':¬2000<out.length:=by omega
   refine sR ?_;simp[lO hkn,hk];refine sR ?_;simp[lO hkn,hk];refine sC ?_;simp;refine⟨fun heq=>absurd heq (by omega),fun _=>?_⟩;refine sR ?_;simp[lO hkn,hk,hlt];refine sR ?_;simp[lO hkn,hk];refine sN ?_;have hlb:∀loc,lb nb box loc=lb nb (upd box k (some [iD a b out own])) loc:=fun loc=>by rw[<-hself]
   rw[hlb];have hwant:lK b nodes es=⟨b.edges[es.length].ty,nodes[b.edges[es.length].fr.toNat],nodes[b.edges[es.length].to.toNat]⟩:=by simp[lK,hlt,y1,y2]
   refine sL (aPj a b nodes es nb k box) (fun x=>x.i<=a.edges.length+1/\x.out=aJ6 a b nodes n es out x.i/\Adv tok nt own x.tok x.nt x.own) (fun x=>a.edges.length+1-x.i)
    ⟨0,out,own,tok,nt⟩ ⟨Nat.zero_le _,rfl,Adv.refl hlive Ht⟩ (aS.mk' (nr0 _) (by simp[ToL,lk,hlt];exact aI (by rw[lO hkn,uS];simp)) (by simp[aC,lk,hlt]) (kI rfl)) ?_
   rintro⟨i,out2,own2,tok2,nt2⟩ S ⟨hi,hout,hadv2⟩ hS;simp only[aPj] at hS hi hout hadv2;subst hS;have hw:IntKind.i64.wrap (↑i-1+1)=((i+1:Nat):Int)-1:=by rw[aM (by omega) (by omega)];omega
   refine sR ?_;simp[lO hkn,uS];refine sC ?_;simp;refine⟨fun hli=>?_,fun hge=>?_⟩
   .cases i with
    | zero =>
     refine sR ?_;simp[lO hkn,uS];refine sC ?_;simp;refine sR ?_;simp[lO hkn,uS];refine⟨by omega,by omega,?_⟩;refine aN.data ?_;simp only[List.map,AV.asD];rw[eP];have had:=Adv.fresh hadv2.live hadv2.lt;refine aN.of_a (ih (es++[-1]) out2 own2 _ _ k _ _ (by simp;omega) (by simp only[lO hkn,uS]) had.live) ?_;rintro v m' ⟨rfl,own3,tok3,nt3,rfl,hadv⟩;simp[uL hkn,bD];have had3:Adv tok nt own tok3 nt3 own3:=hadv2.trans Ht (had.trans hadv2.lt hadv)
     clear hadv had;refine sR ?_;simp[show IntKind.i64.wrap 0=0 from rfl];refine sE ?_;refine⟨⟨1,ovE a b nodes n (es++[-1]) out2,own3,tok3,nt3⟩,⟨by simp,?_,had3⟩,by simp,aS.mk' had3.le (by simp[ToL,lk];exact aI (by rw[lO hkn,uS];simp)) (by simp[aC,lk,hlt]) (kI rfl)⟩;rw[hout];rfl
    | succ i =>
     have hli':i<a.edges.length:=by omega
     have hneg:¬(i:Int)<0:=by omega
     have hw':IntKind.i64.wrap (↑i+1)=(i:Int)+1:=by rw[aM (by omega) (by omega)]
     have hfold:aJ6 a b nodes n es out (i+1+1)=iN a b nodes n es out2 i:=by
      rw[hout,aJ6,aJ6,List.range_succ,List.foldl_append];rfl
     have hgi:a.edges.getD i default=a.edges[i]:=by simp[hli']
     refine sR ?_;simp[lO hkn,uS,hneg];refine sD (aPB es i (by omega) _ _) ?_;simp[lO hkn,uS,hneg];by_cases hin:(i:Int)∈es
     .simp[hin];refine sC ?_;simp;refine sR ?_;simp[hw'];refine sE ?_;refine⟨⟨i+1+1,out2,own2,tok2,nt2⟩,⟨by simp;omega,?_,hadv2⟩,by simp;omega,aS.mk' hadv2.le (by simp[ToL,lk];exact aI (by rw[lO hkn,uS];simp)) (by simp[aC,lk,hlt]) (kI rfl)⟩;rw[hfold,iN,if_neg (fun hh=>hh.2 hin)]
     .simp[hin,lO hkn,uS,hli',hlt,x1,x2,x3,x4,y1,y2];simp only[E.eq_and3];refine sC ?_;simp;refine⟨fun hE=>?_,fun hE=>?_⟩
      .refine sR ?_;simp[lO hkn,uS];refine⟨by omega,by omega,?_⟩;refine aN.data ?_;simp only[List.map,AV.asD];rw[eP];have had:=Adv.fresh hadv2.live hadv2.lt;refine aN.of_a (ih (es++[(i:Int)]) out2 own2 _ _ k _ _ (by simp;omega) (by simp only[lO hkn,uS]) had.live) ?_;rintro v m' ⟨rfl,own3,tok3,nt3,rfl,hadv⟩;simp[uL hkn,bD];have had3:Adv tok nt own tok3 nt3 own3:=hadv2.trans Ht (had.trans hadv2.lt hadv)
       clear hadv had;refine sR ?_;simp[hw'];refine sE ?_;refine⟨⟨i+1+1,ovE a b nodes n (es++[(i:Int)]) out2,own3,tok3,nt3⟩,⟨by simp;omega,?_,had3⟩,by simp;omega,aS.mk' had3.le (by simp[ToL,lk];exact aI (by rw[lO hkn,uS];simp)) (by simp[aC,lk,hlt]) (kI rfl)⟩;rw[hfold,iN,if_pos ⟨by rw[hgi,hwant,hE],hin⟩]
      .refine sR ?_;simp[hw'];refine sE ?_;refine⟨⟨i+1+1,out2,own2,tok2,nt2⟩,⟨by simp;omega,?_,hadv2⟩,by simp;omega,aS.mk' hadv2.le (by simp[ToL,lk];exact aI (by rw[lO hkn,uS];simp)) (by simp[aC,lk,hlt]) (kI rfl)⟩;rw[hfold,iN,if_neg (fun hh=>hE (by rw[<-hgi,hh.1,hwant]))]
   .refine sX ?_;simp only[AU,↓reduceIte];have hin:i=a.edges.length+1:=by omega
    subst hin;refine sE ?_;refine⟨by simp,(Fin.gen (vs:=[]) (av:=.tup []) (tok':=tok2) (nt':=nt2) (by simp[aP,bI]) ?_ hadv2.le (nr0 _) (fun t h=>⟨h,.inl rfl⟩) (kI (by simp)) (by simp)).mono fun v m hq=>⟨hq.1,own2,tok2,nt2,?_,hadv2⟩⟩
    .rw[<-uL hkn,Hb]
    .rw[hq.2,ovE,if_neg hsm',hout];rfl
def aKW(a b:Gr)(n:Nat)(l:List Int)(out:List Ov):Nat->List Ov
 | 0=>out
 | i+1=>(List.range i).foldl (cT a b (ovN a b n) l) (ovN a b n (l++[-1]) out)
def aNL(a b:Gr)(l:List Int)(nb k:Nat)(box:Bxs)(x:aOS):AS :=
 ⟨tl [(0,.ptr k 0 0),(1,.d (ints l)),(4,I l.length),(5,I (x.i-1))],
  lb nb (upd box k (some [iD a b x.out x.own])) [],x.tok,x.nt⟩
theorem aGw(a b:Gr)(h:NoH a b):∀(n:Nat) (l:List Int) (out:List Ov) (own:Own) (box:Bxs) (nb k:Nat) (tok:Tks) (nt:Nat),l.length+n=b.nodes.length ->
  box k=some [iD a b out own]->own.liveP tok->aD prog 206 [.ptr k 0 0,.d (ints l)] ⟨box,nb,tok,nt⟩ (QOv a b box nb k tok nt own (ovN a b n l out)):=by
 intro n;induction n with
 | zero =>
  intro l out own box nb k tok nt hl hk hlive;have hself:box=upd box k (some [iD a b out own]):=(cL box k _ hk).symm
  refine sI func206 ntmps206 fun Hb Ht=>?_
  have hkn:=bC Hb hk;refine sR ?_;simp[lO hkn,hk];refine sC ?_;simp;refine⟨fun hbig=>?_,fun hsm=>?_⟩
  .refine sN ?_;refine AL.ret ?_;try simp only[AU]
   refine⟨by simp,(Fin.own (vs:=[]) (av:=.tup []) (by simp[aP,bI]) Hb rfl (nr0 _) (by simp)).mono fun v m hq=>⟨hq.1,own,tok,nt,?_,Adv.refl hlive Ht⟩⟩;have hbig':2000<out.length:=by omega
   rw[hq.2,ovN,if_pos hbig',<-hself]
  .have hsm':¬2000<out.length:=by omega
   have hl':l.length=b.nodes.length:=by omega
   refine sR ?_;simp[lO hkn,hk];refine sR ?_;simp[lO hkn,hk];refine sC ?_;simp;refine⟨fun _=>?_,fun hne=>absurd (by omega) hne⟩;have hbe:=h.fb.e;have hbn:=h.fb.n;refine sR ?_;simp[lO hkn,hk];refine aN.sub (args':=[.ptr k 0 0,.d (ints l),.d (ints [])]) ⟨Sub.refl _,Sub.refl _,Sub.nil _ _ _,trivial⟩ ?_;refine aN.of_a (aGd a b l ⟨h.fa,h.va,h.fb,hl',by rw[hl'];exact h.x⟩ b.edges.length [] out own _ _ k _ _ (by simp) (by simp only[lO hkn,hk]) hlive) ?_;rintro v m' ⟨rfl,own1,tok1,nt1,rfl,hadv⟩;simp[uL hkn];refine sN ?_;refine AL.ret ?_;try simp only[AU]
   refine⟨by simp,(Fin.gen (vs:=[]) (av:=.tup []) (tok':=tok1) (nt':=nt1) (by simp[aP,bI]) ?_ hadv.le (nr0 _) (fun t h=>⟨h,.inl rfl⟩) (kI (by simp)) (by simp)).mono fun v m hq=>⟨hq.1,own1,tok1,nt1,?_,hadv⟩⟩
   .rw[<-uL hkn,Hb]
   .rw[hq.2,ovN,if_neg hsm']
 | succ n ih =>
  intro l out own box nb k tok nt hl hk hlive;have hself:box=upd box k (some [iD a b out own]):=(cL box k _ hk).symm
  have han:=h.fa.n;have hbn:=h.fb.n;have hlt:l.length<b.nodes.length:=by omega
  refine sI func206 ntmps206 fun Hb Ht=>?_
  have hkn:=bC Hb hk;refine sR ?_;simp[lO hkn,hk];refine sC ?_;simp;refine⟨fun hbig=>?_,fun hsm=>?_⟩
  .refine sN ?_;refine AL.ret ?_;try simp only[AU]
   refine⟨by simp,(Fin.own (vs:=[]) (av:=.tup []) (by simp[aP,bI]) Hb rfl (nr0 _) (by simp)).mono fun v m hq=>⟨hq.1,own,tok,nt,?_,Adv.refl hlive Ht⟩⟩;have hbig':2000<out.length:=by omega
   rw[hq.2,ovN,if_pos hbig',<-hself]
  .have hsm':¬2000<out.length:=by omega
   refine sR ?_;simp[lO hkn,hk];refine sR ?_;simp[lO hkn,hk];refine sC ?_;simp;refine⟨fun heq=>absurd heq (by omega),fun _=>?_⟩;refine sR ?_;simp;refine sN ?_;have hlb:∀loc,lb nb box loc=lb nb (upd box k (some [iD a b out own])) loc:=fun loc=>by rw[<-hself]
   rw[hlb];refine sL (aNL a b l nb k box) (fun x=>x.i<=a.nodes.length+1/\x.out=aKW a b n l out x.i/\Adv tok nt own x.tok x.nt x.own) (fun x=>a.nodes.length+1-x.i)
    ⟨0,out,own,tok,nt⟩ ⟨Nat.zero_le _,rfl,Adv.refl hlive Ht⟩ (aS.mk' (nr0 _) (by simp[ToL,lk];exact aI (by rw[lO hkn,uS];simp)) (by simp[aC,lk]) (kI rfl)) ?_
   rintro⟨i,out2,own2,tok2,nt2⟩ S ⟨hi,hout,hadv2⟩ hS;simp only[aNL] at hS hi hout hadv2;subst hS;refine sR ?_;simp[lO hkn,uS];refine sC ?_;simp;refine⟨fun hli=>?_,fun hge=>?_⟩
   .cases i with
    | zero =>
     refine sR ?_;simp[lO hkn,uS];refine sC ?_;simp;refine sR ?_;simp[lO hkn,uS];refine⟨by omega,by omega,?_⟩;refine aN.data ?_;simp only[List.map,AV.asD];rw[eP];have had:=Adv.fresh hadv2.live hadv2.lt;refine aN.of_a (ih (l++[-1]) out2 own2 _ _ k _ _ (by simp;omega) (by simp only[lO hkn,uS]) had.live) ?_;rintro v m' ⟨rfl,own3,tok3,nt3,rfl,hadv⟩;simp[uL hkn,bD];have had3:Adv tok nt own tok3 nt3 own3:=hadv2.trans Ht (had.trans hadv2.lt hadv)
     clear hadv had;refine sR ?_;simp[show IntKind.i64.wrap 0=0 from rfl];refine sE ?_;refine⟨⟨1,ovN a b n (l++[-1]) out2,own3,tok3,nt3⟩,⟨by simp,?_,had3⟩,by simp,aS.mk' had3.le (by simp[ToL,lk];exact aI (by rw[lO hkn,uS];simp)) (by simp[aC,lk]) (kI rfl)⟩;rw[hout];rfl
    | succ i =>
     have hli':i<a.nodes.length:=by omega
     have hneg:¬(i:Int)<0:=by omega
     have hw':IntKind.i64.wrap (↑i+1)=(i:Int)+1:=by rw[aM (by omega) (by omega)]
     have hfold:aKW a b n l out (i+1+1)=cT a b (ovN a b n) l out2 i:=by
      rw[hout,aKW,aKW,List.range_succ,List.foldl_append];rfl
     have hgi:a.nodes.getD i 0=a.nodes[i]:=by simp[hli']
     have hgl:b.nodes.getD l.length 0=b.nodes[l.length]:=by simp[hlt]
     refine sR ?_;simp[lO hkn,uS,hneg];refine sD (aPB l i (by omega) _ _) ?_;simp[lO hkn,uS,hneg];by_cases hin:(i:Int)∈l
     .simp[hin];refine sC ?_;simp;refine sR ?_;simp[hw'];refine sE ?_;refine⟨⟨i+1+1,out2,own2,tok2,nt2⟩,⟨by simp;omega,?_,hadv2⟩,by simp;omega,aS.mk' hadv2.le (by simp[ToL,lk];exact aI (by rw[lO hkn,uS];simp)) (by simp[aC,lk]) (kI rfl)⟩;rw[hfold,cT,if_neg (fun hh=>hh.2 hin)]
     .simp[hin,lO hkn,uS,hli',hlt];refine sC ?_;simp;refine⟨fun hE=>?_,fun hE=>?_⟩
      .refine sR ?_;simp[lO hkn,uS];refine⟨by omega,by omega,?_⟩;refine aN.data ?_;simp only[List.map,AV.asD];rw[eP];have had:=Adv.fresh hadv2.live hadv2.lt;refine aN.of_a (ih (l++[(i:Int)]) out2 own2 _ _ k _ _ (by simp;omega) (by simp only[lO hkn,uS]) had.live) ?_;rintro v m' ⟨rfl,own3,tok3,nt3,rfl,hadv⟩;simp[uL hkn,bD];have had3:Adv tok nt own tok3 nt3 own3:=hadv2.trans Ht (had.trans hadv2.lt hadv)
       clear hadv had;refine sR ?_;simp[hw'];refine sE ?_;refine⟨⟨i+1+1,ovN a b n (l++[(i:Int)]) out2,own3,tok3,nt3⟩,⟨by simp;omega,?_,had3⟩,by simp;omega,aS.mk' had3.le (by simp[ToL,lk];exact aI (by rw[lO hkn,uS];simp)) (by simp[aC,lk]) (kI rfl)⟩;rw[hfold,cT,if_pos ⟨by rw[hgi,hgl,hE],hin⟩]
      .refine sR ?_;simp[hw'];refine sE ?_;refine⟨⟨i+1+1,out2,own2,tok2,nt2⟩,⟨by simp;omega,?_,hadv2⟩,by simp;omega,aS.mk' hadv2.le (by simp[ToL,lk];exact aI (by rw[lO hkn,uS];simp)) (by simp[aC,lk]) (kI rfl)⟩;rw[hfold,cT,if_neg (fun hh=>hE (by rw[<-hgi,hh.1,hgl]))]
   .refine sX ?_;simp only[AU,↓reduceIte];have hin:i=a.nodes.length+1:=by omega
    subst hin;refine sE ?_;refine⟨by simp,(Fin.gen (vs:=[]) (av:=.tup []) (tok':=tok2) (nt':=nt2) (by simp[aP,bI]) ?_ hadv2.le (nr0 _) (fun t h=>⟨h,.inl rfl⟩) (kI (by simp)) (by simp)).mono fun v m hq=>⟨hq.1,own2,tok2,nt2,?_,hadv2⟩⟩
    .rw[<-uL hkn,Hb]
    .rw[hq.2,ovN,if_neg hsm',hout];rfl
theorem Conv.sub{v v':AV}{m:bH}(h:Sub v v'):Conv v m v' m:=⟨rfl,rfl,fun G w u h1 h2=>⟨G,h1,h _ _ _ h2,Le.refl G w,fun _ h=>h⟩⟩
theorem Sub.tup{xs ys:List AV}(h:aEv xs ys):Sub (.tup xs) (.tup ys):=fun G w v r=>by
 cases r with
 | tup hl hh=>have:=h.rvs ⟨hl,hh⟩;exact .tup this.1 this.2
def oR(a b:Gr):List Ov × Int :=
 if vG a≠0 then ([],vG a) else if vG b≠0 then ([],vG b) else if 40<a.nodes.length+b.nodes.length∨80<a.edges.length+b.edges.length then ([],3)
 else if 2000<(ovN a b b.nodes.length [] []).length then ([],3) else (ovN a b b.nodes.length [] [],0)
theorem aE{g:Gr}(h:vG g=0):∀e∈g.edges,0<=e.fr/\e.fr<g.nodes.length/\0<=e.to/\e.to<g.nodes.length:=by
 intro e he;unfold vG at h;split at h
 .cases h
 .split at h
  .cases h
  .split at h
   .cases h
   .rename_i h3;have:=List.any_eq_false.1 (Bool.not_eq_true _ ▸ h3) e he
    simp[dT,bA] at this;omega
theorem aBH(a b:Gr)(ha:a.Fit)(hb:b.Fit):DC 144 [a.av,b.av] (.tup [.d (ovs (oR a b).1),I (oR a b).2]):=by
 intro tok nt box nb;have han:=ha.n;have hae:=ha.e;have hbn:=hb.n;have hbe:=hb.e;have main:aD prog 144 [a.av,b.av] ⟨box,nb,tok,nt⟩ fun v m=>(v=.tup [.d (ovs (oR a b).1),I (oR a b).2]∨(oR a b).1=[]/\v=.tup [.osl 0 [] .full,I (oR a b).2])/\m=⟨box,nb,tok,nt⟩:=by
  refine sI func144 ntmps144 fun Hb Ht=>?_
  refine sR ?_;simp;refine sR ?_;simp;refine sD (dR a ha _ _) ?_;simp;by_cases hva:vG a=0
  .refine sR ?_;simp[hva];refine sC ?_;simp;refine sR ?_;simp;refine sD (dR b hb _ _) ?_;simp;by_cases hvb:vG b=0
   .refine sR ?_;simp[hvb];refine sC ?_;simp;have hw1:IntKind.i64.wrap (↑a.nodes.length+↑b.nodes.length)=(a.nodes.length:Int)+b.nodes.length:=aM (by omega) (by omega)
    have hw2:IntKind.i64.wrap (↑a.edges.length+↑b.edges.length)=(a.edges.length:Int)+b.edges.length:=aM (by omega) (by omega)
    have big:(40<a.nodes.length+b.nodes.length∨80<a.edges.length+b.edges.length)->∀{l loc},Fin prog ⟨nb,nb+53,53,box⟩ nt [ResultVar.tmp 4,ResultVar.tmp 5] (fun v m=>(v=.tup [.d (ovs (oR a b).1),I (oR a b).2]∨(oR a b).1=[]/\v=.tup [.osl 0 [] .full,I (oR a b).2])/\m=⟨box,nb,tok,nt⟩)
      ⟨tl ((5,I 3)::(4,.osl 0 [] .full)::l),lb nb box loc,tok,nt⟩:=fun hbig {l loc}=>by
     have hR:oR a b=([],3):=by simp[oR,hva,hvb,hbig]
     exact(Fin.data (av:=.tup [.osl 0 [] .full,I 3]) (by simp[aP,bI];rfl) Hb rfl Ht (fun _ h=>h) (nr0 _) (by simp)).mono fun v m hq=>⟨.inr ⟨by rw[hR],by rw[hR,hq.1]⟩,hq.2⟩
    refine sR ?_;simp[hw1,hw2];first|refine Gd.dt (fun hs1=>?_) (fun hs1=>?_)|refine Gd.df (fun hs1=>?_) (fun hs1=>?_)|refine Gd.t (fun hs1=>?_) (fun hs1=>?_)|refine Gd.f (fun hs1=>?_) (fun hs1=>?_)
    .simp[hs1,hw1,hw2];refine sC ?_;simp;refine sR ?_;simp;refine sN ?_;refine AL.ret ?_;try simp only[AU]
     exact⟨by simp,big (by omega)⟩
    .simp[hs1,hw1,hw2];refine sC ?_;simp;refine⟨fun hs2=>?_,fun hs2=>?_⟩
     .refine sR ?_;simp;refine sN ?_;refine AL.ret ?_;try simp only[AU]
      exact⟨by simp,big (by omega)⟩
     .have hsm:¬(40<a.nodes.length+b.nodes.length∨80<a.edges.length+b.edges.length):=by omega
      refine sR ?_;simp;refine AL.weak (wM (l':=[(8,.ptr (nb+40) 0 0)]) (loc':=[(40,[iD a b [] .full])]) (nr0 _) rfl (by simp[ToL,lk]) (by simp[aC,lk])) ?_;refine sR ?_;simp;refine aN.sub (args':=[.ptr (nb+40) 0 0,.d (ints [])]) ⟨Sub.refl _,Sub.nil _ _ _,trivial⟩ ?_;refine aN.of_a (aGw a b ⟨ha,hva,hb,aE hvb⟩ b.nodes.length [] [] .full _ _ (nb+40) _ _ (by simp) (by simp) trivial) ?_;rintro v m' ⟨rfl,own1,tok1,nt1,rfl,hadv⟩;simp;refine sR ?_;simp;refine sC ?_;simp;have hkeep:∀t,tok t=true->tok1 t=true:=fun t ht=>hadv.keep t ht (by simp)
      refine⟨fun hmany=>?_,fun hfew=>?_⟩
      .have hR:oR a b=([],3):=by
        have:2000<(ovN a b b.nodes.length [] []).length:=by omega
        simp[oR,hva,hvb,hsm,this]
       refine sR ?_;simp;refine sN ?_;refine AL.ret ?_;try simp only[AU]
       exact⟨by simp,(Fin.data (av:=.tup [.osl 0 [] .full,I 3]) (by simp[aP,bI];rfl) Hb rfl Ht hkeep hadv.le (by simp)).mono fun v m hq=>⟨.inr ⟨by rw[hR],by rw[hR,hq.1]⟩,hq.2⟩⟩
      .have hR:oR a b=(ovN a b b.nodes.length [] [],0):=by
        have:¬2000<(ovN a b b.nodes.length [] []).length:=by omega
        simp[oR,hva,hvb,hsm,this]
       refine sR ?_;simp;refine sN ?_;refine AL.ret ?_;try simp only[AU]
       exact⟨by simp,(Fin.data (av:=.tup [.d (ovs (ovN a b b.nodes.length [] [])),I 0]) (by simp[aP,bI];rfl) Hb rfl Ht hkeep hadv.le (by simp)).mono fun v m hq=>⟨.inl (by rw[hR,hq.1]),hq.2⟩⟩
   .refine sR ?_;simp;refine sC ?_;simp[hvb];refine sR ?_;simp;have hR:oR a b=([],vG b):=by simp[oR,hva,hvb]
    refine sN ?_;refine AL.ret ?_;try simp only[AU]
    refine⟨by simp,(Fin.data (av:=.tup [.osl 0 [] .full,I (vG b)]) (by simp[aP,bI];rfl) Hb rfl Ht (fun _ h=>h) (nr0 _) (by simp)).mono fun v m hq=>⟨.inr ⟨by rw[hR],by rw[hR,hq.1]⟩,hq.2⟩⟩
  .refine sR ?_;simp;refine sC ?_;simp[hva];refine sR ?_;simp;have hR:oR a b=([],vG a):=by simp[oR,hva]
   refine sN ?_;refine AL.ret ?_;try simp only[AU]
   refine⟨by simp,(Fin.data (av:=.tup [.osl 0 [] .full,I (vG a)]) (by simp[aP,bI];rfl) Hb rfl Ht (fun _ h=>h) (nr0 _) (by simp)).mono fun v m hq=>⟨.inr ⟨by rw[hR],by rw[hR,hq.1]⟩,hq.2⟩⟩
 refine main.conv fun v m h=>?_
 obtain⟨rfl|⟨h1,rfl⟩,rfl⟩:=h
 .exact⟨_,_,Conv.refl _ _,rfl,rfl⟩
 .refine⟨_,_,Conv.sub (v':=.tup [.d (ovs (oR a b).1),I (oR a b).2]) (Sub.tup ⟨?_,Sub.refl _,trivial⟩),rfl,rfl⟩;rw[h1];exact Sub.nil _ _ _
def aP6(a b:Gr)(nb:Nat)(box:Bxs)(tok:Tks)(nt:Nat)(i:Nat):AS :=
 ⟨tl [(2,.ptr (nb+2) 0 0),(3,.ptr (nb+3) 0 0),(12,.osl 2 [[ints a.nodes,AM.edges a.edges],[ints b.nodes,AM.edges b.edges]] .full),(13,I 2),(14,I i)],
  lb nb box [(2,[[.d (ints a.nodes),.d (AM.edges a.edges)]]),(3,[[.d (ints b.nodes),.d (AM.edges b.edges)]])],tok,nt⟩
def aOv(a b:Gr)(i:Nat):Prop:=i<=2/\(0<i->vG a=0)/\(1<i->vG b=0)
def aQH(i:Nat):Nat:=2-i
def lim{α:Type}(out L:List α):List α:=out++L.take (2001-out.length)
theorem aJT{α:Type}(out:List α):lim out []=out:=by simp[lim]
theorem pH{α:Type}(out A B:List α):lim (lim out A) B=lim out (A++B):=by
 unfold lim;rw[List.take_append,List.append_assoc];congr 2
 simp only[List.length_append,List.length_take];congr 1
 omega
theorem qN{α:Type}(out L:List α)(h:2000<out.length):lim out L=out:=by
 unfold lim;have:2001-out.length=0:=by omega
 simp[this]
theorem aJA{α:Type}(out:List α)(x:α)(h:¬2000<out.length):lim out [x]=out++[x]:=by
 unfold lim;have:2001-out.length=(2001-out.length-1)+1:=by omega
 rw[this];simp
theorem zN{α:Type}(c:Nat->Bool)(f:Nat->List α->List α)(g:Nat->List α):∀(ks:List Nat) (out:List α),(∀k∈ks,∀out,f k out=lim out (g k)) ->
  ks.foldl (fun out k=>if c k=true then f k out else out) out=lim out ((ks.filter c).flatMap g)
 | [],out,_=>by simp[aJT]
 | k::ks,out,h=>by
  rw[List.foldl_cons,zN c f g ks _ (fun k hk=>h k (by simp[hk]))];by_cases hk:c k=true
  .rw[List.filter_cons_of_pos hk,List.flatMap_cons,if_pos hk,h k (by simp),pH]
  .rw[List.filter_cons_of_neg hk,if_neg hk]
section
variable {α:Type}
end
theorem Sub.agg{xs ys:List AV}(h:aEv xs ys):Sub (.agg xs) (.agg ys):=fun G w v r=>by
 cases r with
 | agg hl hh h1=>have:=h.rvs ⟨hl,hh⟩;exact .agg this.1 this.2 h1
theorem rT{α β:Type}{P:α->Prop}(f:List α->β->List α):∀(l:List β) (out:List α),(∀out b,b∈l->(∀o∈out,P o)->∀o∈f out b,P o)->(∀o∈out,P o)->∀o∈l.foldl f out,P o
 | [],out,_,h=>h
 | b::l,out,hf,h=>rT f l _ (fun out b hb=>hf out b (by simp[hb])) (hf out b (by simp) h)
theorem aAT{P:Ov->Prop}(a b:Gr)(nodes:List Int):∀(n:Nat) (es:List Int) (out:List Ov),(∀o∈out,P o)->(∀es',es'.length=es.length+n->P (bQ a b nodes es'))->∀o∈ovE a b nodes n es out,P o
 | 0,es,out,h,hg=>by
  unfold ovE;split
  .exact h
  .intro o ho;rcases List.mem_append.1 ho with ho|ho
   .exact h o ho
   .simp at ho;subst ho;exact hg es (by simp)
 | n+1,es,out,h,hg=>by
  unfold ovE;split
  .exact h
  .refine rT _ _ _ (fun out k _ ho=>?_) (aAT a b nodes n _ _ h fun es' he=>hg es' (by simp at he;omega));split
   .exact aAT a b nodes n _ _ ho fun es' he=>hg es' (by simp at he;omega)
   .exact ho
theorem aBt{P:Ov->Prop}(a b:Gr):∀(n:Nat) (l:List Int) (out:List Ov),(∀o∈out,P o)->(∀l' es',l'.length=l.length+n->es'.length=b.edges.length->P (bQ a b l' es'))->∀o∈ovN a b n l out,P o
 | 0,l,out,h,hg=>by
  unfold ovN;split
  .exact h
  .exact aAT a b l _ _ _ h fun es' he=>hg l es' (by simp) (by simpa using he)
 | n+1,l,out,h,hg=>by
  unfold ovN;split
  .exact h
  .refine rT _ _ _ (fun out k _ ho=>?_) (aBt a b n _ _ h fun l' es' hl he=>hg l' es' (by simp at hl;omega) he);unfold cT;split
   .exact aBt a b n _ _ ho fun l' es' hl he=>hg l' es' (by simp at hl;omega) he
   .exact ho
theorem aJd(a b:Gr)(l k:List Int)(ha:a.nodes.length<=90/\a.edges.length<=90)(hl:l.length<=90)(hk:k.length<=90):(bQ a b l k).Fit:=by
 have h1:=jY a.nodes b.nodes l l.length;have h2:=kE a.edges b.edges (bX a.nodes b.nodes l l.length).2 k k.length;exact⟨⟨by simp only[bQ];omega,by simp only[bQ];omega⟩,⟨by simp[bQ,idM];omega,by simp[bQ,idM];omega⟩,⟨by simp only[bQ];omega,by simp only[bQ];omega⟩⟩
theorem oV(a b:Gr)(ha:a.nodes.length<=90/\a.edges.length<=90)(hb:b.nodes.length<=90/\b.edges.length<=90):(oR a b).1.length<=1000000/\∀o∈(oR a b).1,o.Fit:=by
 have key:∀o∈ovN a b b.nodes.length [] [],o.Fit:=aBt a b _ _ _ (by simp) fun l' es' h1 h2=>aJd a b l' es' ha (by simp at h1;omega) (by omega)
 unfold oR;split
 .simp
 .split
  .simp
  .split
   .simp
   .split
    .simp
    .exact⟨by simp only;omega,key⟩
def aA(f:Nat->Int):Nat->Int
 | 0=>0
 | n+1=>if aA f n=0 then f n else aA f n
theorem aL{f:Nat->Int}{i:Nat}(h0:aA f i=0)(h:f i≠0):∀n,i<n->aA f n=f i
 | 0,hn=>by omega
 | n+1,hn=>by
  simp only[aA];by_cases e:i=n
  .subst e;rw[if_pos h0]
  .rw[aL h0 h n (by omega),if_neg h]
def cD(a b:Gr)(m:Mo)(i:Nat):Int :=
 if m.nodes.getD i 0<0∨(b.nodes.length:Int)<=m.nodes.getD i 0 then 6 else if b.nodes.getD (m.nodes.getD i 0).toNat 0=a.nodes.getD i 0 then 0 else 13
def bR(a b:Gr)(m:Mo)(i:Nat):Int :=
 if m.edges.getD i 0<0∨(b.edges.length:Int)<=m.edges.getD i 0 then 6 else
  let x:=a.edges.getD i default
  let y:=b.edges.getD (m.edges.getD i 0).toNat default
  if x.ty≠y.ty then 13 else if m.nodes.getD x.fr.toNat 0≠y.fr∨m.nodes.getD x.to.toNat 0≠y.to then 11 else 0
def aG(a b:Gr)(m:Mo):Int :=
 if vG a≠0 then vG a else if vG b≠0 then vG b else if m.nodes.length≠a.nodes.length∨m.edges.length≠a.edges.length then 20
 else if aA (cD a b m) a.nodes.length≠0 then aA (cD a b m) a.nodes.length else aA (bR a b m) a.edges.length
def aLW(a b:Gr)(m:Mo)(nb:Nat)(box:Bxs)(tok:Tks)(nt:Nat)(i:Nat):AS :=
 ⟨tl [(3,.ptr (nb+3) 0 0),(4,.ptr (nb+4) 0 0),(5,.ptr (nb+5) 0 0),(42,.d (ints m.nodes)),(43,I m.nodes.length),(44,I i)],
  lb nb box [(3,[[.d (ints a.nodes),.d (AM.edges a.edges)]]),(4,[[.d (ints b.nodes),.d (AM.edges b.edges)]]),(5,[[.d (ints m.nodes),.d (ints m.edges)]])],tok,nt⟩
def aLD(a b:Gr)(m:Mo)(nb:Nat)(box:Bxs)(tok:Tks)(nt:Nat)(i:Nat):AS :=
 ⟨tl [(3,.ptr (nb+3) 0 0),(4,.ptr (nb+4) 0 0),(5,.ptr (nb+5) 0 0),(71,.d (ints m.edges)),(72,I m.edges.length),(73,I i)],
  lb nb box [(3,[[.d (ints a.nodes),.d (AM.edges a.edges)]]),(4,[[.d (ints b.nodes),.d (AM.edges b.edges)]]),(5,[[.d (ints m.nodes),.d (ints m.edges)]])],tok,nt⟩
theorem kF(a b:Gr)(m:Mo)(ha:a.Fit)(hb:b.Fit):DC 170 [a.av,b.av,m.av] (I (aG a b m)):=by
 intro tok nt box nb;have han:=ha.n;have hae:=ha.e;have hbn:=hb.n;have hbe:=hb.e;refine sI func170 ntmps170 fun Hb Ht=>?_
 refine sR ?_;simp;refine sR ?_;simp;refine sD (bU a ha _ _) ?_;simp;by_cases hva:vG a=0
 .refine sR ?_;simp[hva];refine sC ?_;simp;refine sR ?_;simp;refine sD (bU b hb _ _) ?_;simp;by_cases hvb:vG b=0
  .refine sR ?_;simp[hvb];refine sC ?_;simp;have hxa:=aE hva;have hxb:=aE hvb;refine sR ?_;simp;by_cases hl1:m.nodes.length=a.nodes.length
   .simp[hl1];refine sC ?_;simp;refine⟨fun hl2=>?_,fun hl2=>?_⟩
    .refine sR ?_;simp;have hR:aG a b m=20:=by
      have:¬m.edges.length=a.edges.length:=by omega
      simp[aG,hva,hvb,this]
     refine sT (sH Hb Ht ?_);simp[hR]
    .refine sR ?_;simp;refine sN ?_;have hl2':m.edges.length=a.edges.length:=by omega
     have hRn:∀i,i<a.nodes.length->aA (cD a b m) i=0->cD a b m i≠0->aG a b m=cD a b m i:=fun i hi h0 hne=>by
      have:=aL h0 hne a.nodes.length hi
      simp[aG,hva,hvb,hl1,hl2',this,hne]
     refine sL (aLW a b m nb box tok nt) (fun i=>i<=m.nodes.length/\aA (cD a b m) i=0) (fun i=>m.nodes.length-i) 0 ⟨Nat.zero_le _,rfl⟩ wkA ?_;rintro i S ⟨hi,hok⟩ hS;simp only[aLW] at hS;subst hS;have hw:=sW (i:=i) (by omega);refine sR ?_;simp;refine sC ?_;simp;refine⟨fun hlt=>?_,fun hge=>?_⟩
     .have hia:i<a.nodes.length:=by omega
      have hgm:m.nodes.getD i 0=m.nodes[i]:=by simp[hlt]
      have hga:a.nodes.getD i 0=a.nodes[i]:=by simp[hia]
      refine sR ?_;simp[hlt];by_cases hneg:m.nodes[i]<0
      .refine sR ?_;simp[hneg];refine sC ?_;simp;refine sR ?_;simp;have hN:cD a b m i=6:=by simp only[cD,hgm];rw[if_pos (.inl hneg)]
       have hR:=hRn i hia hok (by rw[hN];decide);refine sT (sH Hb Ht ?_);simp[hR,hN]
      .refine sR ?_;simp[hneg];refine sC ?_;simp;refine⟨fun hbig=>?_,fun hsm=>?_⟩
       .refine sR ?_;simp;have hN:cD a b m i=6:=by simp only[cD,hgm];rw[if_pos (.inr (by omega))]
        have hR:=hRn i hia hok (by rw[hN];decide);refine sT (sH Hb Ht ?_);simp[hR,hN]
       .have hkb:m.nodes[i].toNat<b.nodes.length:=by omega
        have h0:0<=m.nodes[i]:=by omega
        have hgb:b.nodes.getD m.nodes[i].toNat 0=b.nodes[m.nodes[i].toNat]:=by simp[hkb]
        have hnb:¬(b.nodes.length:Int)<=m.nodes[i]:=by omega
        refine sR ?_;simp[hkb,h0,hsm,hia];refine sC ?_;simp;refine⟨fun hne=>?_,fun heq=>?_⟩
        .refine sR ?_;simp;have hN:cD a b m i=13:=by simp only[cD,hgm,hga,hgb];rw[if_neg (by omega),if_neg hne]
         have hR:=hRn i hia hok (by rw[hN];decide);refine sT (sH Hb Ht ?_);simp[hR,hN]
        .refine sR ?_;simp[hw];refine sE ?_;refine⟨i+1,⟨hlt,?_⟩,by omega,wkA⟩;have hN:cD a b m i=0:=by simp only[cD,hgm,hga,hgb];rw[if_neg (by omega),if_pos heq]
         simp only[aA,hok,hN,↓reduceIte]
     .refine sX ?_;simp only[AU,↓reduceIte];have hin:i=a.nodes.length:=by omega
      subst hin;refine sR ?_;simp;refine sN ?_;have hRe:∀i,i<a.edges.length->aA (bR a b m) i=0->bR a b m i≠0->aG a b m=bR a b m i:=fun i hi h0 hne=>by
       have:=aL h0 hne a.edges.length hi
       simp[aG,hva,hvb,hl1,hl2',hok,this]
      refine sL (aLD a b m nb box tok nt) (fun i=>i<=m.edges.length/\aA (bR a b m) i=0) (fun i=>m.edges.length-i) 0 ⟨Nat.zero_le _,rfl⟩ wkA ?_;rintro i S ⟨hi,hoke⟩ hS;simp only[aLD] at hS;subst hS;have hw:=sW (i:=i) (by omega);refine sR ?_;simp;refine sC ?_;simp;refine⟨fun hlt=>?_,fun hge=>?_⟩
      .have hia:i<a.edges.length:=by omega
       have hgm:m.edges.getD i 0=m.edges[i]:=by simp[hlt]
       have hga:a.edges.getD i default=a.edges[i]:=by simp[hia]
       obtain⟨x1,x2,x3,x4⟩:=hxa _ (List.getElem_mem hia);rw[<-hl1] at x2 x4;have y1:a.edges[i].fr.toNat<m.nodes.length:=by omega
       have y2:a.edges[i].to.toNat<m.nodes.length:=by omega
       have hg1:m.nodes.getD a.edges[i].fr.toNat 0=m.nodes[a.edges[i].fr.toNat]:=by simp[y1]
       have hg2:m.nodes.getD a.edges[i].to.toNat 0=m.nodes[a.edges[i].to.toNat]:=by simp[y2]
       refine sR ?_;simp[hlt];by_cases hneg:m.edges[i]<0
       .refine sR ?_;simp[hneg];refine sC ?_;simp;refine sR ?_;simp;have hN:bR a b m i=6:=by simp only[bR,hgm];rw[if_pos (.inl hneg)]
        have hR:=hRe i hia hoke (by rw[hN];decide);refine sT (sH Hb Ht ?_);simp[hR,hN]
       .refine sR ?_;simp[hneg];refine sC ?_;simp;refine⟨fun hbig=>?_,fun hsm=>?_⟩
        .refine sR ?_;simp;have hN:bR a b m i=6:=by simp only[bR,hgm];rw[if_pos (.inr (by omega))]
         have hR:=hRe i hia hoke (by rw[hN];decide);refine sT (sH Hb Ht ?_);simp[hR,hN]
        .have hkb:m.edges[i].toNat<b.edges.length:=by omega
         have h0:0<=m.edges[i]:=by omega
         have hgb:b.edges.getD m.edges[i].toNat default=b.edges[m.edges[i].toNat]:=by simp[hkb]
         have hnn:¬(m.edges[i]<0∨(b.edges.length:Int)<=m.edges[i]):=by omega
         refine sN ?_;refine AL.region2 cA (nr0 _) (by kernel_rfl) (oO.of (by simp)) ?_;simp[hkb,h0,hsm,hia];generalize hy:b.edges[m.edges[i].toNat]=y at *;refine sR ?_;simp;refine sC ?_;simp;refine⟨fun hty=>?_,fun hty=>?_⟩
         .refine sR ?_;simp;have hN:bR a b m i=13:=by simp only[bR,hgm,hga,hgb];rw[if_neg hnn,if_pos hty]
          have hR:=hRe i hia hoke (by rw[hN];decide);refine sT (sH Hb Ht ?_);simp[hR,hN]
         .refine sR ?_;simp[x1,x2,x3,x4,y1,y2];by_cases hfr:m.nodes[a.edges[i].fr.toNat]=y.fr
          .have hb1:(m.nodes[a.edges[i].fr.toNat] != y.fr)=false:=by simp[hfr]
           simp only[hb1];simp[x1,x2,x3,x4,y1,y2];refine sC ?_;simp;refine⟨fun hto=>?_,fun hto=>?_⟩
           .refine sR ?_;simp;have hN:bR a b m i=11:=by simp only[bR,hgm,hga,hgb,hg1,hg2];rw[if_neg hnn,if_neg (by simp[hty]),if_pos (.inr hto)]
            have hR:=hRe i hia hoke (by rw[hN];decide);refine sT (sH Hb Ht ?_);simp[hR,hN]
           .refine sR ?_;simp[hw];refine sE ?_;refine⟨i+1,⟨hlt,?_⟩,by omega,wkA⟩;have hN:bR a b m i=0:=by simp only[bR,hgm,hga,hgb,hg1,hg2];rw[if_neg hnn,if_neg (by simp[hty]),if_neg (by simp[hfr,hto])]
            simp only[aA,hoke,hN,↓reduceIte]
          .have hb1:(m.nodes[a.edges[i].fr.toNat] != y.fr)=true:=by simp[hfr]
           simp only[hb1];simp;refine sC ?_;simp;refine sR ?_;simp;have hN:bR a b m i=11:=by simp only[bR,hgm,hga,hgb,hg1,hg2];rw[if_neg hnn,if_neg (by simp[hty]),if_pos (.inl hfr)]
           have hR:=hRe i hia hoke (by rw[hN];decide);refine sT (sH Hb Ht ?_);simp[hR,hN]
      .refine sX ?_;simp only[AU,↓reduceIte];have hin:i=a.edges.length:=by omega
       subst hin;refine sR ?_;simp;have hR:aG a b m=0:=by simp[aG,hva,hvb,hl1,hl2',hok,hoke]
       refine sT (sH Hb Ht ?_);simp[hR]
   .have hb1:((m.nodes.length:Int) != (a.nodes.length:Int))=true:=by simp;omega
    simp only[hb1];simp;refine sC ?_;simp;refine sR ?_;simp;have hR:aG a b m=20:=by simp[aG,hva,hvb,hl1]
    refine sT (sH Hb Ht ?_);simp[hR]
  .refine sR ?_;simp;refine sC ?_;simp[hvb];refine sR ?_;simp;refine sT (sH Hb Ht ?_);simp[aG,hva,hvb]
 .refine sR ?_;simp;refine sC ?_;simp[hva];refine sR ?_;simp;refine sT (sH Hb Ht ?_);simp[aG,hva]
def aL5(a b:Gr)(m:Mo)(nb:Nat)(box:Bxs)(tok:Tks)(nt:Nat)(i:Nat):AS :=
 ⟨tl [(3,.ptr (nb+3) 0 0),(4,.ptr (nb+4) 0 0),(5,.ptr (nb+5) 0 0),(9,I i)],
  lb nb box [(3,[[.d (ints a.nodes),.d (AM.edges a.edges)]]),(4,[[.d (ints b.nodes),.d (AM.edges b.edges)]]),(5,[[.d (ints m.nodes),.d (ints m.edges)]])],tok,nt⟩
def aLY(a b:Gr)(m:Mo)(nb:Nat)(box:Bxs)(tok:Tks)(nt:Nat)(i:Nat):AS :=
 ⟨tl [(3,.ptr (nb+3) 0 0),(4,.ptr (nb+4) 0 0),(5,.ptr (nb+5) 0 0),(10,I i)],
  lb nb box [(3,[[.d (ints a.nodes),.d (AM.edges a.edges)]]),(4,[[.d (ints b.nodes),.d (AM.edges b.edges)]]),(5,[[.d (ints m.nodes),.d (ints m.edges)]])],tok,nt⟩
theorem jX(a b:Gr)(m:Mo)(ha:a.Fit)(hb:b.Fit):DC 105 [a.av,b.av,m.av] (I (aG a b m)):=by
 intro tok nt box nb;have han:=ha.n;have hae:=ha.e;have hbn:=hb.n;have hbe:=hb.e;refine sI func105 ntmps105 fun Hb Ht=>?_
 refine sR ?_;simp;refine sR ?_;simp;refine sD (dR a ha _ _) ?_;simp;by_cases hva:vG a=0
 .refine sR ?_;simp[hva];refine sC ?_;simp;refine sR ?_;simp;refine sD (dR b hb _ _) ?_;simp;by_cases hvb:vG b=0
  .refine sR ?_;simp[hvb];refine sC ?_;simp;have hxa:=aE hva;have hxb:=aE hvb;refine sR ?_;simp;by_cases hl1:m.nodes.length=a.nodes.length
   .simp[hl1];refine sC ?_;simp;refine⟨fun hl2=>?_,fun hl2=>?_⟩
    .refine sR ?_;simp;have hR:aG a b m=20:=by
      have:¬m.edges.length=a.edges.length:=by omega
      simp[aG,hva,hvb,this]
     refine sT (sH Hb Ht ?_);simp[hR]
    .refine sR ?_;simp;refine sN ?_;have hl2':m.edges.length=a.edges.length:=by omega
     have hRn:∀i,i<a.nodes.length->aA (cD a b m) i=0->cD a b m i≠0->aG a b m=cD a b m i:=fun i hi h0 hne=>by
      have:=aL h0 hne a.nodes.length hi
      simp[aG,hva,hvb,hl1,hl2',this,hne]
     refine sL (aL5 a b m nb box tok nt) (fun i=>i<=a.nodes.length/\aA (cD a b m) i=0) (fun i=>a.nodes.length-i) 0 ⟨Nat.zero_le _,rfl⟩ wkA ?_;rintro i S ⟨hi,hok⟩ hS;simp only[aL5] at hS;subst hS;have hw:=sW (i:=i) (by omega);refine sR ?_;simp;refine sC ?_;simp;refine⟨fun hlt=>?_,fun hge=>?_⟩
     .have hia:i<a.nodes.length:=by omega
      have hlt:i<m.nodes.length:=by omega
      have hgm:m.nodes.getD i 0=m.nodes[i]:=by simp[hlt]
      have hga:a.nodes.getD i 0=a.nodes[i]:=by simp[hia]
      refine sR ?_;simp[hlt];by_cases hneg:m.nodes[i]<0
      .simp[hneg,hlt];refine sC ?_;simp;refine sR ?_;simp;have hN:cD a b m i=6:=by simp only[cD,hgm];rw[if_pos (.inl hneg)]
       have hR:=hRn i hia hok (by rw[hN];decide);refine sT (sH Hb Ht ?_);simp[hR,hN]
      .simp[hneg,hlt];refine sC ?_;simp;refine⟨fun hbig=>?_,fun hsm=>?_⟩
       .refine sR ?_;simp;have hN:cD a b m i=6:=by simp only[cD,hgm];rw[if_pos (.inr (by omega))]
        have hR:=hRn i hia hok (by rw[hN];decide);refine sT (sH Hb Ht ?_);simp[hR,hN]
       .have hkb:m.nodes[i].toNat<b.nodes.length:=by omega
        have h0:0<=m.nodes[i]:=by omega
        have hgb:b.nodes.getD m.nodes[i].toNat 0=b.nodes[m.nodes[i].toNat]:=by simp[hkb]
        have hnb:¬(b.nodes.length:Int)<=m.nodes[i]:=by omega
        refine sR ?_;simp[hkb,h0,hsm,hia,hlt];refine sC ?_;simp;refine⟨fun hne=>?_,fun heq=>?_⟩
        .refine sR ?_;simp;have hN:cD a b m i=13:=by simp only[cD,hgm,hga,hgb];rw[if_neg (by omega),if_neg hne]
         have hR:=hRn i hia hok (by rw[hN];decide);refine sT (sH Hb Ht ?_);simp[hR,hN]
        .refine sR ?_;simp[hw];refine sE ?_;refine⟨i+1,⟨hia,?_⟩,by omega,wkA⟩;have hN:cD a b m i=0:=by simp only[cD,hgm,hga,hgb];rw[if_neg (by omega),if_pos heq]
         simp only[aA,hok,hN,↓reduceIte]
     .refine sX ?_;simp only[AU,↓reduceIte];have hin:i=a.nodes.length:=by omega
      subst hin;refine sR ?_;simp;refine sN ?_;have hRe:∀i,i<a.edges.length->aA (bR a b m) i=0->bR a b m i≠0->aG a b m=bR a b m i:=fun i hi h0 hne=>by
       have:=aL h0 hne a.edges.length hi
       simp[aG,hva,hvb,hl1,hl2',hok,this]
      refine sL (aLY a b m nb box tok nt) (fun i=>i<=a.edges.length/\aA (bR a b m) i=0) (fun i=>a.edges.length-i) 0 ⟨Nat.zero_le _,rfl⟩ wkA ?_;rintro i S ⟨hi,hoke⟩ hS;simp only[aLY] at hS;subst hS;have hw:=sW (i:=i) (by omega);refine sR ?_;simp;refine sC ?_;simp;refine⟨fun hlt=>?_,fun hge=>?_⟩
      .have hia:i<a.edges.length:=by omega
       have hlt:i<m.edges.length:=by omega
       have hgm:m.edges.getD i 0=m.edges[i]:=by simp[hlt]
       have hga:a.edges.getD i default=a.edges[i]:=by simp[hia]
       obtain⟨x1,x2,x3,x4⟩:=hxa _ (List.getElem_mem hia);rw[<-hl1] at x2 x4;have y1:a.edges[i].fr.toNat<m.nodes.length:=by omega
       have y2:a.edges[i].to.toNat<m.nodes.length:=by omega
       have hg1:m.nodes.getD a.edges[i].fr.toNat 0=m.nodes[a.edges[i].fr.toNat]:=by simp[y1]
       have hg2:m.nodes.getD a.edges[i].to.toNat 0=m.nodes[a.edges[i].to.toNat]:=by simp[y2]
       refine sR ?_;simp[hlt];by_cases hneg:m.edges[i]<0
       .simp[hneg,hlt];refine sC ?_;simp;refine sR ?_;simp;have hN:bR a b m i=6:=by simp only[bR,hgm];rw[if_pos (.inl hneg)]
        have hR:=hRe i hia hoke (by rw[hN];decide);refine sT (sH Hb Ht ?_);simp[hR,hN]
       .simp[hneg,hlt];refine sC ?_;simp;refine⟨fun hbig=>?_,fun hsm=>?_⟩
        .refine sR ?_;simp;have hN:bR a b m i=6:=by simp only[bR,hgm];rw[if_pos (.inr (by omega))]
         have hR:=hRe i hia hoke (by rw[hN];decide);refine sT (sH Hb Ht ?_);simp[hR,hN]
        .have hkb:m.edges[i].toNat<b.edges.length:=by omega
         have h0:0<=m.edges[i]:=by omega
         have hgb:b.edges.getD m.edges[i].toNat default=b.edges[m.edges[i].toNat]:=by simp[hkb]
         have hnn:¬(m.edges[i]<0∨(b.edges.length:Int)<=m.edges[i]):=by omega
         refine sN ?_;refine AL.region2 cA (nr0 _) (by kernel_rfl) (oO.of (by simp)) ?_;simp[hkb,h0,hsm,hia,hlt];generalize hy:b.edges[m.edges[i].toNat]=y at *;refine sR ?_;simp;refine sC ?_;simp;refine⟨fun hty=>?_,fun hty=>?_⟩
         .refine sR ?_;simp;have hN:bR a b m i=13:=by simp only[bR,hgm,hga,hgb];rw[if_neg hnn,if_pos hty]
          have hR:=hRe i hia hoke (by rw[hN];decide);refine sT (sH Hb Ht ?_);simp[hR,hN]
         .refine sR ?_;simp[x1,x2,x3,x4,y1,y2];by_cases hfr:m.nodes[a.edges[i].fr.toNat]=y.fr
          .have hb1:(m.nodes[a.edges[i].fr.toNat] != y.fr)=false:=by simp[hfr]
           simp only[hb1];simp[x1,x2,x3,x4,y1,y2];refine sC ?_;simp;refine⟨fun hto=>?_,fun hto=>?_⟩
           .refine sR ?_;simp;have hN:bR a b m i=11:=by simp only[bR,hgm,hga,hgb,hg1,hg2];rw[if_neg hnn,if_neg (by simp[hty]),if_pos (.inr hto)]
            have hR:=hRe i hia hoke (by rw[hN];decide);refine sT (sH Hb Ht ?_);simp[hR,hN]
           .refine sR ?_;simp[hw];refine sE ?_;refine⟨i+1,⟨hia,?_⟩,by omega,wkA⟩;have hN:bR a b m i=0:=by simp only[bR,hgm,hga,hgb,hg1,hg2];rw[if_neg hnn,if_neg (by simp[hty]),if_neg (by simp[hfr,hto])]
            simp only[aA,hoke,hN,↓reduceIte]
          .have hb1:(m.nodes[a.edges[i].fr.toNat] != y.fr)=true:=by simp[hfr]
           simp only[hb1];simp;refine sC ?_;simp;refine sR ?_;simp;have hN:bR a b m i=11:=by simp only[bR,hgm,hga,hgb,hg1,hg2];rw[if_neg hnn,if_neg (by simp[hty]),if_pos (.inl hfr)]
           have hR:=hRe i hia hoke (by rw[hN];decide);refine sT (sH Hb Ht ?_);simp[hR,hN]
      .refine sX ?_;simp only[AU,↓reduceIte];have hin:i=a.edges.length:=by omega
       subst hin;refine sR ?_;simp;have hR:aG a b m=0:=by simp[aG,hva,hvb,hl1,hl2',hok,hoke]
       refine sT (sH Hb Ht ?_);simp[hR]
   .have hb1:((m.nodes.length:Int) != (a.nodes.length:Int))=true:=by simp;omega
    simp only[hb1];simp;refine sC ?_;simp;refine sR ?_;simp;have hR:aG a b m=20:=by simp[aG,hva,hvb,hl1]
    refine sT (sH Hb Ht ?_);simp[hR]
  .refine sR ?_;simp;refine sC ?_;simp[hvb];refine sR ?_;simp;refine sT (sH Hb Ht ?_);simp[aG,hva,hvb]
 .refine sR ?_;simp;refine sC ?_;simp[hva];refine sR ?_;simp;refine sT (sH Hb Ht ?_);simp[aG,hva]
def aKw(l k:List Int)(i:Nat):Bool:=(List.range i).all fun j=>decide ((j:Int)∈l)||decide ((j:Int)∈k)
def uA(m:Mo)(n:Int):Bool:=decide ((m.nodes.length:Int)+m.edges.length<=n)
theorem aFL(m:Mo)(n:Int)(h1:m.nodes.length<=281474976710656)(h2:m.edges.length<=281474976710656):DC 55 [m.av,I n] (B (uA m n)):=by
 intro tok nt box nb;have hw:IntKind.i64.wrap (↑m.nodes.length+↑m.edges.length)=(m.nodes.length:Int)+m.edges.length:=aM (by omega) (by omega)
 refine sI func55 ntmps55 fun Hb Ht=>?_
 refine sR ?_;simp;refine sR ?_;simp[hw];refine sT (sH Hb Ht ?_);simp[uA]
def aFH(a b x:Gr)(h k:Mo):Bool:=decide (aG a x h=0)&&(decide (aG b x k=0)&&(aKw h.nodes k.nodes x.nodes.length&&aKw h.edges k.edges x.edges.length))
structure Mo.Big (m:Mo):Prop where
 n:m.nodes.length<=281474976710656
 e:m.edges.length<=281474976710656
def nB(ok:Nat->Nat->Bool)(na:Nat)(l:List Int):List Int := -1::((List.range na).filter fun k=>ok l.length k&&!decide ((k:Int)∈l)).map fun (k:Nat)=>(k:Int)
def dM(ok:Nat->Nat->Bool)(na:Nat):Nat->List Int->List (List Int)
 | 0,l=>[l]
 | n+1,l=>(nB ok na l).flatMap fun k=>dM ok na n (l++[k])
def aJH(ok:Nat->Nat->Bool)(na:Nat)(x:List Int)(i:Nat):Prop:=x.getD i 0 = -1∨∃k:Nat,x.getD i 0=k/\k<na/\ok i k=true/\(k:Int)∉x.take i
theorem aD9(ok:Nat->Nat->Bool)(na:Nat):∀(n:Nat) (l x:List Int),x∈dM ok na n l↔(x.take l.length=l/\x.length=l.length+n/\∀i,l.length<=i->i<x.length->aJH ok na x i)
 | 0,l,x=>by
  simp only[dM,List.mem_singleton,Nat.add_zero];constructor
  .rintro rfl;exact⟨by simp,rfl,fun i h1 h2=>by omega⟩
  .rintro⟨h1,h2,_⟩;rw[<-h1,List.take_of_length_le (by omega)]
 | n+1,l,x=>by
  simp only[dM,List.mem_flatMap];constructor
  .rintro⟨k,hk,hx⟩;rw[aD9 ok na n (l++[k]) x] at hx;obtain⟨h1,h2,h3⟩:=hx;simp only[List.length_append,List.length_cons,List.length_nil] at h1 h2 h3;have hlt:l.length<x.length:=by omega
   have h4:x.take l.length=l:=by
    have:=congrArg (List.take l.length) h1
    rw[List.take_take,Nat.min_eq_left (by omega)] at this;simpa using this
   have h5:x.getD l.length 0=k:=by
    have:=congrArg (fun y=>y[l.length]?) h1
    simp only[List.getElem?_take] at this;rw[if_pos (by omega)] at this;rw[List.getD_eq_getElem?_getD,this];simp
   refine⟨h4,by omega,fun i hi1 hi2=>?_⟩;by_cases e:i=l.length
   .subst e;unfold aJH;rw[h5,h4];simp only[nB,List.mem_cons,List.mem_map,List.mem_filter,List.mem_range,Bool.and_eq_true,Bool.not_eq_true',decide_eq_false_iff_not] at hk;rcases hk with rfl|⟨q,⟨hq1,hq2,hq3⟩,rfl⟩
    .exact .inl rfl
    .exact .inr ⟨q,rfl,hq1,hq2,hq3⟩
   .exact h3 i (by omega) hi2
  .rintro⟨h1,h2,h3⟩;have hlt:l.length<x.length:=by omega
   refine⟨x.getD l.length 0,?_,?_⟩
   .have:=h3 l.length (nr0 _) hlt
    unfold aJH at this;rw[h1] at this;simp only[nB,List.mem_cons,List.mem_map,List.mem_filter,List.mem_range,Bool.and_eq_true,Bool.not_eq_true',decide_eq_false_iff_not];rcases this with h|⟨k,hk1,hk2,hk3,hk4⟩
    .exact .inl h
    .exact .inr ⟨k,⟨hk2,hk3,hk4⟩,hk1.symm⟩
   .rw[aD9 ok na n _ x];refine⟨?_,by simp;omega,fun i hi1 hi2=>h3 i (by simp at hi1;omega) hi2⟩;simp only[List.length_append,List.length_cons,List.length_nil,Nat.zero_add];rw[List.take_succ_eq_append_getElem hlt,h1];simp[hlt]
def isM(ok:Nat->Nat->Bool)(na nb:Nat)(x:List Int):Prop:=x.length=nb/\∀i,i<nb->aJH ok na x i
theorem aML(ok:Nat->Nat->Bool)(na nb:Nat)(x:List Int):x∈dM ok na nb []↔isM ok na nb x:=by
 rw[aD9];simp only[List.length_nil,Nat.zero_add,Nat.zero_le,true_implies,List.take_zero,true_and,isM];constructor
 .rintro⟨h1,h2⟩;exact⟨h1,fun i hi=>h2 i (by omega)⟩
 .rintro⟨h1,h2⟩;exact⟨h1,fun i hi=>h2 i (by omega)⟩
theorem aJ4{ok:Nat->Nat->Bool}{na nb:Nat}{x:List Int}(h:isM ok na nb x){i j k:Nat}(hi:i<nb)(hj:j<nb)(h1:x.getD i 0=(k:Int))(h2:x.getD j 0=(k:Int)):i=j:=by
 have key:∀i j:Nat,i<j->j<nb->x.getD i 0=(k:Int)->x.getD j 0=(k:Int)->False:=by
  intro i j hij hj h1 h2;rcases h.2 j hj with e|⟨q,e,_,_,hq⟩
  .rw[e] at h2;omega
  .have:(q:Int)=k:=e.symm.trans h2
   rw[this] at hq;apply hq;have hlen:=h.1;rw[List.mem_take_iff_getElem];refine⟨i,by omega,?_⟩;have:x.getD i 0=x[i]'(by omega):=by rw[List.getD_eq_getElem?_getD,List.getElem?_eq_getElem (by omega)];rfl
   rw[<-this];exact h1
 rcases Nat.lt_trichotomy i j with h'|h'|h'
 .exact(key i j h' hj h1 h2).elim
 .exact h'
 .exact(key j i h' hi h2 h1).elim
theorem tM(x:List Int)(k:Int):(aU x k = -1/\k∉x)∨∃i:Nat,aU x k=i/\i<x.length/\x.getD i 0=k:=by
 unfold aU;by_cases h:k∈x
 .right;rw[if_pos h];have h1:=List.idxOf_lt_length_of_mem h;refine⟨x.idxOf k,rfl,h1,?_⟩;rw[List.getD_eq_getElem?_getD,List.getElem?_eq_getElem h1];simp
 .left;rw[if_neg h];exact⟨rfl,h⟩
theorem qS{α:Type}[DecidableEq α]:∀(l m:List α),l.Nodup->(∀x∈l,x∈m)->l.length<=m.length
 | [],m,_,_=>Nat.zero_le _
 | x::l,m,hn,h=>by
  have hn':=List.nodup_cons.1 hn
  have hx:=h x (by simp);have:=qS l (m.erase x) hn'.2 fun y hy=>(List.mem_erase_of_ne (show y≠x from fun e=>hn'.1 (by rw[<-e];exact hy))).2 (h y (by simp[hy]))
  rw[List.length_erase_of_mem hx] at this;have hp:0<m.length:=List.length_pos_of_mem hx
  simp only[List.length_cons];omega
def okN(a b:Gr)(i k:Nat):Bool:=decide (a.nodes.getD k 0=b.nodes.getD i 0)
def okE(a b:Gr)(x:List Int)(i k:Nat):Bool:=decide (a.edges.getD k default=⟨(b.edges.getD i default).ty,x.getD (b.edges.getD i default).fr.toNat 0,x.getD (b.edges.getD i default).to.toNat 0⟩)
def pS(a b:Gr):List (List Int × List Int):=(dM (okN a b) a.nodes.length b.nodes.length []).flatMap fun x=>(dM (okE a b x) a.edges.length b.edges.length []).map fun es=>(x,es)
def rW(a b:Gr)(p:List Int × List Int):Prop:=isM (okN a b) a.nodes.length b.nodes.length p.1/\isM (okE a b p.1) a.edges.length b.edges.length p.2
theorem aEy(a b:Gr)(p:List Int × List Int):p∈pS a b↔rW a b p:=by
 simp only[pS,List.mem_flatMap,List.mem_map,aML,rW];constructor
 .rintro⟨x,hx,es,hes,rfl⟩;exact⟨hx,hes⟩
 .rintro⟨h1,h2⟩;exact⟨p.1,h1,p.2,h2,rfl⟩
def EOk(g:Gr):Prop:=∀e∈g.edges,0<=e.fr/\e.fr<g.nodes.length/\0<=e.to/\e.to<g.nodes.length
theorem wG{α:Type}(c:Nat->Bool)(f:Nat->List α->List α)(g:Nat->List α)(ks:List Nat)(out:List α)(h:∀k∈ks,∀out,f k out=lim out (g k)):
  ks.foldl (fun out k=>if c k=true then f k out else out) out=lim out ((ks.filter c).flatMap g):=zN c f g ks out h
theorem aBs(a b:Gr)(nodes:List Int):∀(n:Nat) (es:List Int) (out:List Ov),ovE a b nodes n es out=lim out ((dM (okE a b nodes) a.edges.length n es).map (bQ a b nodes))
  | 0,es,out=>by
    unfold ovE;split
    . rename_i h;rw[qN _ _ h]
    . rename_i h;simp only[dM,List.map_cons,List.map_nil];rw[aJA _ _ h]
  | n+1,es,out=>by
    unfold ovE;split
    . rename_i h;rw[qN _ _ h]
    . have h1:(fun (out:List Ov) (k:Nat)=>if a.edges.getD k default=lK b nodes es/\(k:Int)∉es then ovE a b nodes n (es++[(k:Int)]) out else out) =
          fun out k=>if (okE a b nodes es.length k&&!decide ((k:Int)∈es))=true then ovE a b nodes n (es++[(k:Int)]) out else out:=by
        funext out k
        have ic:∀{p q:Prop} [Decidable p] [Decidable q] {x y:List Ov},(p↔q)->(if p then x else y)=if q then x else y:=by
          intro p q _ _ x y h;by_cases hp:p
          . rw[if_pos hp,if_pos (h.1 hp)]
          . rw[if_neg hp,if_neg fun hq=>hp (h.2 hq)]
        refine ic ?_;simp only[okE,lK,Bool.and_eq_true,decide_eq_true_eq,Bool.not_eq_true',decide_eq_false_iff_not]
      rw[h1,wG _ (fun (k:Nat) out=>ovE a b nodes n (es++[(k:Int)]) out) (fun (k:Nat)=>(dM (okE a b nodes) a.edges.length n (es++[(k:Int)])).map (bQ a b nodes)) _ _ (fun k _ out=>aBs a b nodes n _ out),aBs a b nodes n,pH];congr 1
      simp only[dM,nB,List.flatMap_cons,List.map_append,List.map_flatMap,List.flatMap_map]
theorem aAV(a b:Gr):∀(n:Nat) (l:List Int) (out:List Ov),ovN a b n l out=lim out ((dM (okN a b) a.nodes.length n l).flatMap fun x=>(dM (okE a b x) a.edges.length b.edges.length []).map (bQ a b x))
 | 0,l,out=>by
  unfold ovN;split
  .rename_i h;rw[qN _ _ h]
  .simp only[dM,List.flatMap_cons,List.flatMap_nil,List.append_nil];rw[aBs]
 | n+1,l,out=>by
  unfold ovN;split
  .rename_i h;rw[qN _ _ h]
  .have h1:(cT a b (ovN a b n) l)=fun out k=>if (okN a b l.length k&&!decide ((k:Int)∈l))=true then ovN a b n (l++[(k:Int)]) out else out:=by
    funext out k
    unfold cT;have ic:∀{p q:Prop} [Decidable p] [Decidable q] {x y:List Ov},(p↔q)->(if p then x else y)=if q then x else y:=by
     intro p q _ _ x y h;by_cases hp:p
     .rw[if_pos hp,if_pos (h.1 hp)]
     .rw[if_neg hp,if_neg fun hq=>hp (h.2 hq)]
    refine ic ?_;simp only[okN,Bool.and_eq_true,decide_eq_true_eq,Bool.not_eq_true',decide_eq_false_iff_not]
   rw[h1,wG _ (fun (k:Nat) out=>ovN a b n (l++[(k:Int)]) out) (fun (k:Nat)=>(dM (okN a b) a.nodes.length n (l++[(k:Int)])).flatMap fun x=>(dM (okE a b x) a.edges.length b.edges.length []).map (bQ a b x)) _ _ (fun k _ out=>aAV a b n _ out),aAV a b n,pH];congr 1
   simp only[dM,nB,List.flatMap_cons,List.flatMap_append,List.flatMap_assoc,List.flatMap_map]
def oX(a b:Gr):List Ov:=(pS a b).map fun p=>bQ a b p.1 p.2
theorem aHX(a b:Gr):ovN a b b.nodes.length [] []=(oX a b).take 2001:=by
 rw[aAV];have:((dM (okN a b) a.nodes.length b.nodes.length []).flatMap fun x=>(dM (okE a b x) a.edges.length b.edges.length []).map (bQ a b x))=oX a b:=by
  unfold oX pS;rw[List.map_flatMap];congr 1
  funext x
  rw[List.map_map];rfl
 rw[this];simp[lim]
theorem vM(a b:Gr)(ha:vG a=0)(hb:vG b=0)(hs:¬(40<a.nodes.length+b.nodes.length∨80<a.edges.length+b.edges.length)):oR a b=if 2000<(pS a b).length then ([],3) else (oX a b,0):=by
 have hl:(oX a b).length=(pS a b).length:=by simp[oX]
 unfold oR;simp only[ha,hb,hs,aHX,ne_eq,not_true_eq_false,↓reduceIte];by_cases hb:2000<(pS a b).length
 .have:2000<((oX a b).take 2001).length:=by simp;omega
  rw[if_pos this,if_pos hb]
 .have:(oX a b).take 2001=oX a b:=List.take_of_length_le (by omega)
  rw[this,if_neg (by omega),if_neg hb]
structure Dr where
 nodes:List Int
 edges:List (Int × Int × Int)
abbrev u8(n:Int):D:=.raw (.int .u8 n)
abbrev Dr.av(x:Dr):AV:=.agg [.d (.sl 1 (x.nodes.map fun n=>[u8 n])),.d (.sl 3 (x.edges.map fun e=>[u8 e.1,u8 e.2.1,u8 e.2.2]))]
def eY(l:List Int)(i:Nat):Bool:=(List.range i).all fun j=>(List.range j).all fun k=>decide (l.getD j 0≠l.getD k 0)
def yZ(l:List Int)(i k:Nat):Bool:=(List.range k).all fun k=>decide (l.getD i 0≠l.getD k 0)
theorem aDP(l:List Int)(i:Nat):eY l (i+1)=(eY l i&&yZ l i i):=by simp[eY,yZ,List.range_succ]
theorem aEs(l:List Int)(i k:Nat):yZ l i (k+1)=(yZ l i k&&decide (l.getD i 0≠l.getD k 0)):=by simp only[yZ,List.range_succ,List.all_append,List.all_cons,List.all_nil,Bool.and_true]
theorem aEp{l:List Int}{n i k:Nat}(hi:i<n)(hk:k<i)(h:l.getD i 0=l.getD k 0):eY l n=false:=by
 rw[Bool.eq_false_iff];intro ha;simp only[eY,List.all_eq_true,List.mem_range,decide_eq_true_eq] at ha;exact ha i hi k hk h
def aLA(l:List Int)(nb:Nat)(box:Bxs)(tok:Tks)(nt:Nat)(i:Nat):AS:=⟨tl [(0,.d (ints l)),(3,I i)],lb nb box [],tok,nt⟩
def aLl(l:List Int)(i:Nat)(nb:Nat)(box:Bxs)(tok:Tks)(nt:Nat)(k:Nat):AS:=⟨tl [(0,.d (ints l)),(3,I i),(4,I k)],lb nb box [],tok,nt⟩
theorem pZ(l:List Int)(hl:l.length<=1000000):DC 164 [.d (ints l)] (B (eY l l.length)):=by
 intro tok nt box nb;refine sI func164 ntmps164 fun Hb Ht=>?_
 refine sR ?_;simp;refine sR ?_;simp;refine sN ?_;refine sL (aLA l nb box tok nt) (fun i=>i<=l.length/\eY l i=true) (fun i=>l.length-i) 0 ⟨Nat.zero_le _,rfl⟩ (wM (nr0 _) rfl (by simp[ToL]) trivial) ?_;rintro i S ⟨hi,hok⟩ hS;simp only[aLA] at hS;subst hS;have hw:=sW (i:=i) (by omega);refine sR ?_;simp;refine sC ?_;simp;refine⟨fun hlt=>?_,fun hge=>?_⟩
 .refine sR ?_;simp;refine sN ?_;refine sL (aLl l i nb box tok nt) (fun k=>k<=i/\yZ l i k=true) (fun k=>i-k) 0 ⟨Nat.zero_le _,rfl⟩ (wM (nr0 _) rfl (by simp[ToL]) trivial) ?_;rintro k S ⟨hk,hokk⟩ hS;simp only[aLl] at hS;subst hS;have hwk:=sW (i:=k) (by omega);have gi:l.getD i 0=l[i]:=by simp[hlt]
  refine sR ?_;simp;refine sC ?_;simp;refine⟨fun hki=>?_,fun hki=>?_⟩
  .have hkl:k<l.length:=by omega
   have gk:l.getD k 0=l[k]:=by simp[hkl]
   refine sR ?_;simp[hlt,hkl];refine sC ?_;simp;refine⟨fun heq=>?_,fun hne=>?_⟩
   .refine sR ?_;simp;have hR:=aEp hlt hki (by rw[gi,gk];exact heq);refine sT (sH Hb Ht ?_);simp[hR]
   .refine sR ?_;simp[hwk];refine sE ?_;refine⟨k+1,⟨hki,?_⟩,by omega,wM (nr0 _) rfl (by simp[ToL]) trivial⟩;rw[aEs,hokk,gi,gk];simp[hne]
  .refine sX ?_;simp only[AU,↓reduceIte];have:k=i:=by omega
   subst this;refine sR ?_;simp[hw];refine sE ?_;refine⟨k+1,⟨hlt,?_⟩,by omega,wM (nr0 _) rfl (by simp[ToL]) trivial⟩;rw[aDP,hok,hokk];rfl
 .refine sX ?_;simp only[AU,↓reduceIte];have:i=l.length:=by omega
  subst this;refine sR ?_;simp;refine sT (sH Hb Ht ?_);simp[hok]
def fV(a b:Gr)(m:Mo):Bool:=decide (aG a b m=0)&&(eY m.nodes m.nodes.length&&eY m.edges m.edges.length)
theorem jS(a b:Gr)(m:Mo)(ha:a.Fit)(hb:b.Fit)(hm:m.Fit):DC 106 [a.av,b.av,m.av] (B (fV a b m)):=by
 intro tok nt box nb;refine sI func106 ntmps106 fun Hb Ht=>?_
 refine sR ?_;simp;refine sR ?_;simp;refine sD (jX a b m ha hb _ _) ?_;simp;by_cases h1:aG a b m=0
 .simp[h1];refine sD (pZ m.nodes hm.n _ _) ?_;simp[h1];by_cases h2:eY m.nodes m.nodes.length=true
  .simp[h1,h2];refine sD (pZ m.edges hm.e _ _) ?_;simp[h1,h2];refine sT (sH Hb Ht ?_);simp[fV,h1,h2]
  .have h3:eY m.nodes m.nodes.length=false:=by simpa using h2
   simp only[h3];simp;refine sT (sH Hb Ht ?_);simp[fV,h1,h3]
 .have hb1:(aG a b m==0)=false:=by simp[h1]
  simp only[hb1];try simp
  refine sT (sH Hb Ht ?_);simp[fV,h1]
structure Dr.U8 (x:Dr):Prop where
 n:∀k∈x.nodes,0<=k/\k<256
 e:∀k∈x.edges,(0<=k.1/\k.1<256)/\(0<=k.2.1/\k.2.1<256)/\(0<=k.2.2/\k.2.2<256)
def mN(x:Dr)(i:Nat):List Int:=(x.nodes.take i).map fun n=>n % 3
@[simp] theorem aEl(x:Dr)(i:Nat):(mN x i).length=min i x.nodes.length:=by simp[mN]
def mE(x:Dr)(n:Int)(i:Nat):List E:=(x.edges.take i).map fun e=>⟨e.1 % 2,e.2.1 % n,e.2.2 % n⟩
@[simp] theorem aHh(x:Dr)(n:Int)(i:Nat):(mE x n i).length=min i x.edges.length:=by simp[mE]
def iG(x:Dr):Gr:=⟨mN x 8,if x.nodes.length=0 then [] else mE x (mN x 8).length 10⟩
theorem aAU{α:Type}{r:List α}{v d:α}{j:Nat}(h:j<r.length):(r++[v]).getD j d=r.getD j d:=by
 simp[List.getD_eq_getElem?_getD,List.getElem?_append_left h]
theorem aBO{α:Type}{r:List α}{v d:α}:(r++[v]).getD r.length d=v:=by
 simp[List.getD_eq_getElem?_getD]
theorem mH{α:Type}{r t:List α}{d:α}{j:Nat}(h:j<r.length):(r++t).getD j d=r.getD j d:=by
 simp[List.getD_eq_getElem?_getD,List.getElem?_append_left h]
theorem aR{α:Type}{r:List α}{d:α}{j:Nat}(h:j<r.length):r.getD j d∈r:=by
 simp[List.getD_eq_getElem?_getD,List.getElem?_eq_getElem h]
theorem cS{n j:Nat}(h:j<n):(eW n).getD j 0=j:=by
 simp[eW,List.getD_eq_getElem?_getD,h]
def gT{α:Type}[Inhabited α](an bn:List α)(x:List Int):Nat->List α × List Int
 | 0=>(an,[])
 | i+1=>if x.getD i 0<0 then ((gT an bn x i).1++[bn.getD i default],(gT an bn x i).2++[((gT an bn x i).1.length:Int)]) else ((gT an bn x i).1,(gT an bn x i).2++[x.getD i 0])
theorem aFa(an bn l:List Int):∀i,bX an bn l i=gT an bn l i
 | 0=>rfl
 | i+1=>by
  simp only[bX,gT,aFa an bn l i];rfl
def tZ(rn:List Int)(e:E):E:=⟨e.ty,rn.getD e.fr.toNat 0,rn.getD e.to.toNat 0⟩
theorem aFl(ae be:List E)(rn l:List Int):∀i,i<=be.length->dS ae be rn l i=gT ae (be.map (tZ rn)) l i
 | 0,_=>rfl
 | i+1,h=>by
  have e:(be.map (tZ rn)).getD i default=tZ rn (be.getD i default):=by
   have:i<be.length:=by omega
   simp[List.getD_eq_getElem?_getD,this]
  simp only[dS,gT,aFl ae be rn l i (by omega),e];rfl
structure GI {α:Type} [Inhabited α] (an bn:List α) (x:List Int) (i:Nat) (rn:List α) (r:List Int):Prop where
 len:r.length=i
 pre:∃t,rn=an++t/\∀y∈t,y∈bn
 rng:∀j,j<i->0<=r.getD j 0/\r.getD j 0<rn.length
 val:∀j,j<i->rn.getD (r.getD j 0).toNat default=bn.getD j default
 neg:∀j,j<i->x.getD j 0<0->(an.length:Int)<=r.getD j 0
 pos:∀j,j<i->¬x.getD j 0<0->r.getD j 0=x.getD j 0
 dist:∀j k,j<k->k<i->r.getD j 0≠r.getD k 0
 cov:∀v:Nat,an.length<=v->v<rn.length->(v:Int)∈r
theorem aAN{α:Type}[Inhabited α]{an bn:List α}{x:List Int}{ok:Nat->Nat->Bool}(h:isM ok an.length bn.length x)(hok:∀i k,i<bn.length->k<an.length->ok i k=true->an.getD k default=bn.getD i default):
  ∀i,i<=bn.length->GI an bn x i (gT an bn x i).1 (gT an bn x i).2
 | 0,_=>⟨rfl,⟨[],by simp[gT],by simp⟩,fun j hj=>absurd hj (Nat.not_lt_zero _),fun j hj=>absurd hj (Nat.not_lt_zero _),fun j hj=>absurd hj (Nat.not_lt_zero _),fun j hj=>absurd hj (Nat.not_lt_zero _),fun j k _ hj=>absurd hj (Nat.not_lt_zero _),fun v h1 h2=>by simp only[gT] at h2;omega⟩
 | i+1,hi=>by
  have g:=aAN h hok i (by omega);simp only[gT];generalize hrn:(gT an bn x i).1=rn at g ⊢;generalize hr:(gT an bn x i).2=r at g ⊢;obtain⟨t,ht,htb⟩:=g.pre;have hlen:=g.len;have hal:an.length<=rn.length:=by rw[ht];simp
  have hib:i<bn.length:=by omega
  rcases h.2 i hib with hx|⟨k,hx,hk,hkok,hnot⟩
  .rw[if_pos (by omega)];have old:∀j,j<i->(r++[(rn.length:Int)]).getD j 0=r.getD j 0:=fun j hj=>aAU (by omega)
   have new:(r++[(rn.length:Int)]).getD i 0=rn.length:=by rw[<-hlen];exact aBO
   refine⟨by simp[hlen],⟨t++[bn.getD i default],by rw[ht,List.append_assoc],?_⟩,fun j hj=>?_,fun j hj=>?_,fun j hj=>?_,fun j hj=>?_,fun j k hjk hk=>?_,fun v h1 h2=>?_⟩
   .intro y hy;rcases List.mem_append.1 hy with hy|hy
    .exact htb y hy
    .simp only[List.mem_singleton] at hy;subst hy;exact aR hib
   .simp only[List.length_append,List.length_cons,List.length_nil];by_cases e:j=i
    .subst e;rw[new];omega
    .rw[old j (by omega)];have:=g.rng j (by omega);omega
   .by_cases e:j=i
    .subst e;rw[new,Int.toNat_natCast];exact aBO
    .rw[old j (by omega),aAU (by have:=g.rng j (by omega);omega)];exact g.val j (by omega)
   .by_cases e:j=i
    .subst e;intro _;rw[new];omega
    .rw[old j (by omega)];exact g.neg j (by omega)
   .by_cases e:j=i
    .subst e;intro hn;omega
    .rw[old j (by omega)];exact g.pos j (by omega)
   .by_cases e:k=i
    .subst e;rw[new,old j hjk];have:=g.rng j hjk;omega
    .rw[old j (by omega),old k (by omega)];exact g.dist j k hjk (by omega)
   .simp only[List.length_append,List.length_cons,List.length_nil] at h2;by_cases e:v=rn.length
    .subst e;simp
    .exact List.mem_append.2 (.inl (g.cov v h1 (by omega)))
  .rw[if_neg (by omega)];have old:∀j,j<i->(r++[x.getD i 0]).getD j 0=r.getD j 0:=fun j hj=>aAU (by omega)
   have new:(r++[x.getD i 0]).getD i 0=x.getD i 0:=by
    have:(r++[x.getD i 0]).getD r.length 0=x.getD i 0:=aBO
    rw[hlen] at this;exact this
   refine⟨by simp[hlen],⟨t,ht,htb⟩,fun j hj=>?_,fun j hj=>?_,fun j hj=>?_,fun j hj=>?_,fun j k' hjk hk'=>?_,fun v h1 h2=>?_⟩
   .by_cases e:j=i
    .subst e;have hkr:((k:Nat):Int)<rn.length:=by omega
     rw[new,hx];exact⟨by omega,hkr⟩
    .rw[old j (by omega)];exact g.rng j (by omega)
   .by_cases e:j=i
    .subst e;rw[new,hx,Int.toNat_natCast,ht,mH hk];exact hok j k hib hk hkok
    .rw[old j (by omega)];exact g.val j (by omega)
   .by_cases e:j=i
    .subst e;intro hn;omega
    .rw[old j (by omega)];exact g.neg j (by omega)
   .by_cases e:j=i
    .subst e;intro hn;exact new
    .rw[old j (by omega)];exact g.pos j (by omega)
   .by_cases e:k'=i
    .subst e;rw[new,old j hjk];by_cases hn:x.getD j 0<0
     .have:=g.neg j hjk hn
      omega
     .rw[g.pos j hjk hn];intro e2;have:=aJ4 h (show j<bn.length by omega) hib (by rw[e2];exact hx) hx
      omega
    .rw[old j (by omega),old k' (by omega)];exact g.dist j k' hjk (by omega)
   .exact List.mem_append.2 (.inl (g.cov v h1 h2))
theorem cU{f:Nat->Int}:∀n,(∀i,i<n->f i=0)->aA f n=0
 | 0,_=>rfl
 | n+1,h=>by
  simp only[aA,cU n fun i hi=>h i (by omega),↓reduceIte];exact h n (by omega)
theorem xV{l:List Int}{n:Nat}(h:∀j k,j<k->k<n->l.getD j 0≠l.getD k 0):eY l n=true:=by
 simp only[eY,List.all_eq_true,List.mem_range,decide_eq_true_eq];exact fun j hj k hk e=>h k j hk hj e.symm
theorem bG{g:Gr}(h:vG g=0):(g.nodes.length<=40/\g.edges.length<=80)/\(∀n∈g.nodes,bA n 99=true)/\∀e∈g.edges,dT e g.nodes.length=true:=by
 unfold vG at h;split at h
 .cases h
 .rename_i h0;split at h
  .cases h
  .rename_i h1;split at h
   .cases h
   .rename_i h2;simp only[bB,List.any_eq_true,not_exists,not_and,Bool.not_eq_true',Bool.not_eq_false] at h1 h2;exact⟨by omega,h1,h2⟩
theorem oF{g:Gr}(h0:g.nodes.length<=40/\g.edges.length<=80)(h1:∀n∈g.nodes,bA n 99=true)(h2:∀e∈g.edges,dT e g.nodes.length=true):vG g=0:=by
 unfold vG;rw[if_neg (by omega),if_neg,if_neg]
 .simp only[bB,List.any_eq_true,not_exists,not_and,Bool.not_eq_true',Bool.not_eq_false];exact h2
 .simp only[bB,List.any_eq_true,not_exists,not_and,Bool.not_eq_true',Bool.not_eq_false];exact h1
theorem fC(e:E)(n:Int):dT e n=true↔bA e.ty 99=true/\(0<=e.fr/\e.fr<n)/\(0<=e.to/\e.to<n):=by
 simp only[dT,bA,Bool.and_eq_true,decide_eq_true_eq];omega
structure aOe (a b:Gr) (x es:List Int):Prop where
 n:GI a.nodes b.nodes x b.nodes.length (bQ a b x es).g.nodes (bQ a b x es).r.nodes
 e:GI a.edges (b.edges.map (tZ (bQ a b x es).r.nodes)) es b.edges.length (bQ a b x es).g.edges (bQ a b x es).r.edges
theorem aCa{a b:Gr}(ha:EOk a)(hb:EOk b){x es:List Int}(h:rW a b (x,es)):aOe a b x es:=by
 obtain⟨h1,h2⟩:=h;simp only at h1 h2;have hxl:x.length=b.nodes.length:=h1.1
 have hel:es.length=b.edges.length:=h2.1
 have gn:GI a.nodes b.nodes x b.nodes.length (bQ a b x es).g.nodes (bQ a b x es).r.nodes:=by
  simp only[bQ,aFa,hxl];refine aAN h1 (fun i k hi hk hok=>?_) _ (nr0 _);unfold okN at hok;rw[decide_eq_true_eq] at hok;exact hok
 refine⟨gn,?_⟩;have key:isM (okE a b x) a.edges.length (b.edges.map (tZ (bQ a b x es).r.nodes)).length es:=by rw[List.length_map];exact h2
 have:=aAN (an:=a.edges) (bn:=b.edges.map (tZ (bQ a b x es).r.nodes)) (x:=es) (ok:=okE a b x) key (fun i k hi hk hok=>?_) b.edges.length (by simp)
 .have e0:(bQ a b x es).r.nodes=(bX a.nodes b.nodes x x.length).2:=rfl
  have e1:(bQ a b x es).g.edges=(dS a.edges b.edges (bX a.nodes b.nodes x x.length).2 es es.length).1:=rfl
  have e2:(bQ a b x es).r.edges=(dS a.edges b.edges (bX a.nodes b.nodes x x.length).2 es es.length).2:=rfl
  rw[e1,e2,<-e0,hel,aFl _ _ _ _ _ (nr0 _)];exact this
 .have hib:i<b.edges.length:=by simpa using hi
  unfold okE at hok;rw[decide_eq_true_eq] at hok;have g1:a.edges.getD k default=a.edges[k]:=by simp[hk]
  have g2:b.edges.getD i default=b.edges[i]:=by simp[hib]
  have g3:(b.edges.map (tZ (bQ a b x es).r.nodes)).getD i default=tZ (bQ a b x es).r.nodes b.edges[i]:=by simp[hib]
  rw[g1,g2] at hok;rw[g1,g3];obtain⟨a1,a2,a3,a4⟩:=ha _ (List.getElem_mem hk);obtain⟨b1,b2,b3,b4⟩:=hb _ (List.getElem_mem hib);have f1:a.edges[k].fr=x.getD b.edges[i].fr.toNat 0:=congrArg E.fr hok
  have f2:a.edges[k].to=x.getD b.edges[i].to.toNat 0:=congrArg E.to hok
  have p1:=gn.pos b.edges[i].fr.toNat (by omega) (by omega);have p2:=gn.pos b.edges[i].to.toNat (by omega) (by omega);unfold tZ;rw[p1,p2];exact hok
theorem aGE{a b:Gr}(hva:vG a=0)(hvb:vG b=0){x es:List Int}(h:rW a b (x,es))(hs:(bQ a b x es).g.nodes.length<=40/\(bQ a b x es).g.edges.length<=80):
  vG (bQ a b x es).g=0/\aG a (bQ a b x es).g (bQ a b x es).l=0/\aG b (bQ a b x es).g (bQ a b x es).r=0:=by
 have ha:=aE hva;have hb:=aE hvb;obtain⟨_,ta,tea⟩:=bG hva;obtain⟨_,tb,teb⟩:=bG hvb;obtain⟨gn,ge⟩:=aCa ha hb h;have hl:(bQ a b x es).l=idM a:=rfl
 rw[hl];generalize bQ a b x es=o at *;obtain⟨tn,htn,htnb⟩:=gn.pre;obtain⟨te,hte,hteb⟩:=ge.pre;have nl:a.nodes.length<=o.g.nodes.length:=by rw[htn];simp
 have el:a.edges.length<=o.g.edges.length:=by rw[hte];simp
 have hv:vG o.g=0:=by
  refine oF (by omega) (fun n hn=>?_) fun e he=>?_
  .rw[htn] at hn;rcases List.mem_append.1 hn with hn|hn
   .exact ta n hn
   .exact tb n (htnb n hn)
  .rw[hte] at he;rw[fC];rcases List.mem_append.1 he with he|he
   .have:=(fC _ _).1 (tea e he)
    exact⟨this.1,by omega,by omega⟩
   .obtain⟨y,hy,rfl⟩:=List.mem_map.1 (hteb e he);have:=(fC _ _).1 (teb y hy)
    obtain⟨y1,y2,y3,y4⟩:=hb y hy;have r1:=gn.rng y.fr.toNat (by omega);have r2:=gn.rng y.to.toNat (by omega);exact⟨this.1,r1,r2⟩
 refine⟨hv,?_,?_⟩
 .unfold aG;have z1:aA (cD a o.g (idM a)) a.nodes.length=0:=cU _ fun i hi=>by
   have e1:(idM a).nodes.getD i 0=i:=cS hi
   unfold cD;rw[e1,if_neg (by omega),Int.toNat_natCast,if_pos];rw[htn,mH hi]
  have z2:aA (bR a o.g (idM a)) a.edges.length=0:=cU _ fun i hi=>by
   have e1:(idM a).edges.getD i 0=i:=cS hi
   obtain⟨a1,a2,a3,a4⟩:=ha _ (aR (d:=default) hi);have e2:(idM a).nodes.getD (a.edges.getD i default).fr.toNat 0=(a.edges.getD i default).fr.toNat:=cS (by omega)
   have e3:(idM a).nodes.getD (a.edges.getD i default).to.toNat 0=(a.edges.getD i default).to.toNat:=cS (by omega)
   unfold bR;rw[e1,if_neg (by omega),Int.toNat_natCast];have e4:o.g.edges.getD i default=a.edges.getD i default:=by rw[hte,mH hi]
   simp only[e4,e2,e3,ne_eq,not_true_eq_false,↓reduceIte];rw[if_neg (by omega)]
  rw[if_neg (by simp[hva]),if_neg (by simp[hv]),if_neg (by simp[idM]),if_neg (by simp[z1]),z2]
 .unfold aG;have ln:=gn.len;have le:=ge.len;have z1:aA (cD b o.g o.r) b.nodes.length=0:=cU _ fun i hi=>by
   have r1:=gn.rng i hi;unfold cD;rw[if_neg (by omega),if_pos];exact gn.val i hi
  have z2:aA (bR b o.g o.r) b.edges.length=0:=cU _ fun i hi=>by
   have r1:=ge.rng i hi;have v1:=ge.val i hi;have g3:(b.edges.map (tZ o.r.nodes)).getD i default=tZ o.r.nodes (b.edges.getD i default):=by simp[hi]
   rw[g3] at v1;unfold bR;rw[if_neg (by omega)];simp only[v1,tZ,ne_eq,not_true_eq_false,or_self,↓reduceIte]
  rw[if_neg (by simp[hvb]),if_neg (by simp[hv]),if_neg (by omega),if_neg (by simp[z1]),z2]
theorem aCW{a b:Gr}(hva:vG a=0)(hvb:vG b=0)(hs:a.nodes.length+b.nodes.length<=40/\a.edges.length+b.edges.length<=80){x es:List Int}(h:rW a b (x,es)):
  vG (bQ a b x es).g=0/\aG a (bQ a b x es).g (bQ a b x es).l=0/\aG b (bQ a b x es).g (bQ a b x es).r=0:=by
 have hxl:x.length=b.nodes.length:=h.1.1
 have hel:es.length=b.edges.length:=h.2.1
 have l1:=(jY a.nodes b.nodes x x.length).1;have l2:=(kE a.edges b.edges (bX a.nodes b.nodes x x.length).2 es es.length).1;have m1:(bQ a b x es).g.nodes.length<=a.nodes.length+x.length:=l1
 have m2:(bQ a b x es).g.edges.length<=a.edges.length+es.length:=l2
 exact aGE hva hvb h (by omega)
theorem aF3{a b:Gr}(hva:vG a=0)(hvb:vG b=0)(hs:a.nodes.length+b.nodes.length<=40/\a.edges.length+b.edges.length<=80){x es:List Int}(h:rW a b (x,es)):
  fV a (bQ a b x es).g (bQ a b x es).l=true/\fV b (bQ a b x es).g (bQ a b x es).r=true/\aFH a b (bQ a b x es).g (bQ a b x es).l (bQ a b x es).r=true:=by
 obtain⟨hv,h1,h2⟩:=aCW hva hvb hs h;obtain⟨gn,ge⟩:=aCa (aE hva) (aE hvb) h;have i1:∀n,eY (eW n) n=true:=fun n=>xV fun j k hjk hk=>by
  rw[cS hk,cS (by omega)];omega
 have i2:∀l:List Int,∀n m:Nat,(∀v:Nat,n<=v->v<m->(v:Int)∈l)->aKw (eW n) l m=true:=fun l n m hc=>by
  simp only[aKw,List.all_eq_true,List.mem_range,Bool.or_eq_true,decide_eq_true_eq];intro v hv;by_cases hvn:v<n
  .left;simp only[eW,List.mem_map,List.mem_range];exact⟨v,hvn,rfl⟩
  .right;exact hc v (by omega) hv
 refine⟨?_,?_,?_⟩
 .have e1:(bQ a b x es).l=idM a:=rfl
  unfold fV;rw[h1,e1];simp[idM,i1]
 .unfold fV;rw[h2,gn.len,ge.len,xV gn.dist,xV ge.dist];rfl
 .unfold aFH;rw[h1,h2];have c1:=i2 _ _ _ gn.cov;have c2:=i2 _ _ _ ge.cov;have e1:(bQ a b x es).l.nodes=eW a.nodes.length:=rfl
  have e2:(bQ a b x es).l.edges=eW a.edges.length:=rfl
  rw[e1,e2,c1,c2];rfl
theorem aFR(x:Dr):(iG x).nodes.length<=8/\(iG x).edges.length<=10:=by
 refine⟨by simp only[iG,aEl];omega,?_⟩;simp only[iG];split
 .simp
 .simp only[aHh];omega
theorem aCh{x:Dr}(hx:x.U8):vG (iG x)=0:=by
 have hl:=aFR x;refine oF (by omega) (fun n hn=>?_) fun e he=>?_
 .simp only[iG,mN,List.mem_map] at hn;obtain⟨k,hk,rfl⟩:=hn;have:=hx.n k (List.mem_of_mem_take hk)
  simp only[bA,Bool.and_eq_true,decide_eq_true_eq];omega
 .simp only[iG] at he;split at he
  .simp at he
  .rename_i h0;simp only[mE,List.mem_map] at he;obtain⟨k,hk,rfl⟩:=he;have:=hx.e k (List.mem_of_mem_take hk)
   have hp:0<((mN x 8).length:Int):=by rw[aEl];omega
   rw[fC];simp only[bA,Bool.and_eq_true,decide_eq_true_eq,iG];have m1:=Int.emod_nonneg k.2.1 (show ((mN x 8).length:Int)≠0 by omega);have m2:=Int.emod_lt_of_pos k.2.1 hp;have m3:=Int.emod_nonneg k.2.2 (show ((mN x 8).length:Int)≠0 by omega);have m4:=Int.emod_lt_of_pos k.2.2 hp;exact⟨by omega,⟨m1,m2⟩,m3,m4⟩
end Go.AM
namespace Go.Proofs
open Go.Shelf
open Go.Proofs.Tryz
def Tryz.lays189_ren:Go.Shelf.Ren:=⟨fun|189=>205|125=>265|257=>264|128=>303|129=>290|294=>295|295=>296|296=>297|297=>298|298=>299|299=>300|216=>176|300=>301|301=>302|328=>326|329=>327|330=>328|331=>329|332=>330|215=>229|343=>336|n=>n,fun|28=>37|3=>3|46=>238|0=>0|51=>321|53=>129|4=>4|183=>332|182=>331|131=>208|5=>5|9=>9|218=>350|222=>354|228=>360|229=>361|n=>n,fun|n=>n⟩
theorem Tryz.lays189:Go.Proofs.Lays.n189 prog Tryz.lays189_ren:={
 mixed:=by kernel_rfl
 f125:=func265.trans (congrArg some (by kernel_rfl))
 f128:=func303.trans (congrArg some (by kernel_rfl))
 f129:=func290.trans (congrArg some (by kernel_rfl))
 f189:=func205.trans (congrArg some (by kernel_rfl))
 f215:=func229.trans (congrArg some (by kernel_rfl))
 f216:=func176.trans (congrArg some (by kernel_rfl))
 f257:=func264.trans (congrArg some (by kernel_rfl))
 f294:=func295.trans (congrArg some (by kernel_rfl))
 f295:=func296.trans (congrArg some (by kernel_rfl))
 f296:=func297.trans (congrArg some (by kernel_rfl))
 f297:=func298.trans (congrArg some (by kernel_rfl))
 f298:=func299.trans (congrArg some (by kernel_rfl))
 f299:=func300.trans (congrArg some (by kernel_rfl))
 f300:=func301.trans (congrArg some (by kernel_rfl))
 f301:=func302.trans (congrArg some (by kernel_rfl))
 f328:=func326.trans (congrArg some (by kernel_rfl))
 f329:=func327.trans (congrArg some (by kernel_rfl))
 f330:=func328.trans (congrArg some (by kernel_rfl))
 f331:=func329.trans (congrArg some (by kernel_rfl))
 f332:=func330.trans (congrArg some (by kernel_rfl))
 f343:=func336.trans (congrArg some (by kernel_rfl))
 t0:=underlying0
 a0:=isAgg0
 z0:=sizeOf0
 v0:=zeroValue0
 t3:=underlying3
 a3:=isAgg3
 z3:=sizeOf3
 v3:=zeroValue3
 t4:=underlying4
 a4:=isAgg4
 z4:=sizeOf4
 v4:=zeroValue4
 t5:=underlying5
 a5:=isAgg5
 z5:=sizeOf5
 v5:=zeroValue5
 t9:=underlying9
 a9:=isAgg9
 z9:=sizeOf9
 v9:=zeroValue9
 t28:=underlying37
 a28:=isAgg37
 z28:=sizeOf37
 v28:=zeroValue37
 t46:=underlying238
 a46:=isAgg238
 z46:=sizeOf238
 v46:=zeroValue238
 t51:=underlying321
 a51:=isAgg321
 z51:=sizeOf321
 v51:=zeroValue321
 t53:=underlying129
 a53:=isAgg129
 z53:=sizeOf129
 v53:=zeroValue129
 t131:=underlying208
 a131:=isAgg208
 z131:=sizeOf208
 v131:=zeroValue208
 t182:=underlying331
 a182:=isAgg331
 z182:=sizeOf331
 v182:=zeroValue331
 t183:=underlying332
 a183:=isAgg332
 z183:=sizeOf332
 v183:=zeroValue332
 t218:=underlying350
 a218:=isAgg350
 z218:=sizeOf350
 v218:=zeroValue350
 t222:=underlying354
 a222:=isAgg354
 z222:=sizeOf354
 v222:=zeroValue354
 t228:=underlying360
 a228:=isAgg360
 z228:=sizeOf360
 v228:=zeroValue360
 t229:=underlying361
 a229:=isAgg361
 z229:=sizeOf361
 v229:=zeroValue361 }
open Go.Sort Go.RowKit in
theorem Tryz.slices_Sort_int(blk off cap:Nat)(zs:List Int)(w:World)(hH:Holds (Value.int .i64) w blk off zs.toArray)(hblk:blk<w.heap.size)(hsz:zs.length<4611686018427387904):
  Calls prog 205 #[.slice (some ⟨blk,off,none⟩) zs.length cap] w fun e w' =>
   e=.returned (.tuple #[])/\∃n os,w'=grow (putRow (Value.int .i64) (Sort.ahead w n) blk off (zs.mergeSort fun x y=>decide (x<=y)).toArray) os:=Any.slices_Sort_int Tryz.lays189 blk off cap zs w hH hblk hsz
def Tryz.laysNm215_ren:Go.Shelf.Ren:=⟨fun|15=>83|n=>n,fun|22=>37|3=>3|4=>4|n=>n,fun|n=>n⟩
theorem Tryz.laysNm215:Go.Proofs.Lays2.n15 prog Tryz.laysNm215_ren:={
 mixed:=by kernel_rfl
 f15:=func83.trans (congrArg some (by kernel_rfl))
 t3:=underlying3
 a3:=isAgg3
 z3:=sizeOf3
 v3:=zeroValue3
 t4:=underlying4
 a4:=isAgg4
 z4:=sizeOf4
 v4:=zeroValue4
 t22:=underlying37
 a22:=isAgg37
 z22:=sizeOf37
 v22:=zeroValue37
 i3:=by kernel_rfl }
open Go.RowKit Go.Lib in
theorem Tryz.slices_Clone_int(b off n c:Nat)(zs:List Int)(w:World)(hz:n<=zs.length)(hbig:n*8<=140737488355328)(hc:∀j,j<zs.length->w.cell? ⟨b,off+j,none⟩=some (.int .i64 (zs.getD j 0))):
  Calls prog 83 #[.slice (some ⟨b,off,none⟩) n c] w fun e w'=>∃v',e=.returned v'/\w'.ownsRow w.heap.size 3 1 v' n ((zs.take n).map (Value.int .i64))/\v'≠.slice none 0 0/\Below w.heap.size w w':=Any.slices_Clone_int Tryz.laysNm215 b off n c zs w hz hbig hc
open Go.RowKit Go.Lib in
theorem Tryz.slices_Clone_int_nil(n c:Nat)(w:World):
  Calls prog 83 #[.slice none n c] w fun e w'=>e=.returned (.slice none 0 0)/\w'=w:=Any.slices_Clone_int_nil Tryz.laysNm215 n c w
open Go.RowKit Go.Lib in
theorem Tryz.slices_Clone_int_zero(a:Addr)(c:Nat)(w:World):
  Calls prog 83 #[.slice (some a) 0 c] w fun e w'=>∃v',e=.returned v'/\w'.ownsRow w.heap.size 3 1 v' 0 []/\v'≠.slice none 0 0/\Below w.heap.size w w':=Any.slices_Clone_int_zero Tryz.laysNm215 a c w
def Tryz.laysNm220_ren:Go.Shelf.Ren:=⟨fun|20=>213|n=>n,fun|22=>37|3=>3|4=>4|0=>0|n=>n,fun|n=>n⟩
theorem Tryz.laysNm220:Go.Proofs.Lays2.n20 prog Tryz.laysNm220_ren:={
 mixed:=by kernel_rfl
 f20:=func213.trans (congrArg some (by kernel_rfl))
 t0:=underlying0
 a0:=isAgg0
 z0:=sizeOf0
 v0:=zeroValue0
 t3:=underlying3
 a3:=isAgg3
 z3:=sizeOf3
 v3:=zeroValue3
 t4:=underlying4
 a4:=isAgg4
 z4:=sizeOf4
 v4:=zeroValue4
 t22:=underlying37
 a22:=isAgg37
 z22:=sizeOf37
 v22:=zeroValue37
 i3:=by kernel_rfl }
open Go.RowKit Go.Lib Go.Sort in
theorem Tryz.slices_Compact_int(blk off cap:Nat)(zs:List Int)(w:World)(hH:Holds (Value.int .i64) w blk off zs.toArray)(hsz:zs.length<=9223372036854775807)(hcap:zs.length<=cap):
  Calls prog 213 #[.slice (some ⟨blk,off,none⟩) zs.length cap] w fun e w'=>e=.returned (.slice (some ⟨blk,off,none⟩) (Lib.compact zs).length cap)/\∃q,w'=putRow (Value.int .i64) (Sort.ahead w q) blk off (Lib.compact zs++List.replicate (zs.length-(Lib.compact zs).length) 0).toArray:=Any.slices_Compact_int Tryz.laysNm220 blk off cap zs w hH hsz hcap
open Go.RowKit Go.Lib Go.Sort in
theorem Tryz.slices_Compact_int_empty(a:Option Addr)(cap:Nat)(w:World):
  Calls prog 213 #[.slice a 0 cap] w fun e w'=>e=.returned (.slice a 0 cap)/\w'=w:=Any.slices_Compact_int_empty Tryz.laysNm220 a cap w
open Go.RowKit Go.Sort in
theorem Tryz.slices_Sort_int_none(p:Option Addr)(cap:Nat)(w:World):
  Calls prog 205 #[.slice p 0 cap] w fun e w'=>e=.returned (.tuple #[])/\w'=w:=Any.slices_Sort_int_none Tryz.lays189 p cap w
end Go.Proofs
namespace Go.Proofs.YtchfmhhbiealcaaGreatDoor.images
open Go Go.Proofs Go.RowKit Go.Shelf Go.Sort
open Go.Proofs.Tryz
theorem aEg{B:Nat}{w0 w:World}{os:Array Obj}(h:Below B w0 w)(hB:B<=w.heap.size):Below B w0 (grow w os) :=
 ⟨h.os,h.tape,h.output,by simp[grow];have:=h.size;omega,fun k hk=>by
  rw[<-h.block k hk];exact heap_grow_old _ _ (by omega)⟩
set_option maxHeartbeats 2000000 in
set_option maxRecDepth 100000 in
theorem any(b off n c:Nat)(zs:List Int)(w:World)(hz:zs.length=n)(hbig:n*8<=140737488355328)(hc:∀j,j<zs.length->w.cell? ⟨b,off+j,none⟩=some (.int .i64 (zs.getD j 0))):
    Calls prog 244 #[.slice (some ⟨b,off,none⟩) n c] w fun e w'=>e=.returned (.int .i64 (Lib.compact (zs.mergeSort fun x y=>decide (x<=y))).length)/\Below w.heap.size w w':=by
  have hclone:=Tryz.slices_Clone_int b off n c zs w (by omega) hbig hc;rw[List.take_of_length_le (by omega)] at hclone;clear hc
  go_enter func244,ntmps244
  go_wp2_with (first
    | (go_at_call 83;refine hclone.mono ?_;rintro e w1 ⟨v1,rfl,hown,hnn,hbel⟩
       obtain⟨g,cap,rfl,hbg,hgl,hncap,hcm,hlen,hH⟩:=Lib.holds_of_ownsRow hown hnn;have hsort:=Tryz.slices_Sort_int g 0 cap zs w1 hH hgl (by omega);rw[hlen] at hsort;have X:Aside (Below w.heap.size w w1/\w.heap.size<=g/\g<w1.heap.size/\n<=cap/\cap<=maxLen/\Holds (Value.int .i64) w1 g 0 zs.toArray):=⟨hbel,hbg,hgl,hncap,hcm,hH⟩
       clear hown hbel hH hnn)
    | (go_at_call 205;refine hsort.mono ?_;rintro e w2 ⟨rfl,nn,os,rfl⟩
       have hl2:(zs.mergeSort fun x y=>decide (x<=y)).length=n:=by rw[List.length_mergeSort];exact hz
       have hH2:Holds (Value.int .i64) (grow (putRow (Value.int .i64) (Sort.ahead w1 nn) g 0 (zs.mergeSort fun x y=>decide (x<=y)).toArray) os) g 0 (zs.mergeSort fun x y=>decide (x<=y)).toArray :=
         holds_grow _ _ os g 0 _ (by simpa[putRow,mapBlock,Sort.ahead] using X.out.2.2.1) (holds_putRow _ _ g 0 _ _ (holds_ahead _ w1 nn g 0 _ X.out.2.2.2.2.2) (by simp))
       have hcomp:=Tryz.slices_Compact_int g 0 cap (zs.mergeSort fun x y=>decide (x<=y)) _ hH2 (by omega) (by have:=X.out.2.2.2.1;omega);rw[hl2] at hcomp;clear hH2 hsort)
    | (go_at_call 213;refine hcomp.mono ?_;rintro e w3 ⟨rfl,q,rfl⟩))
  go_ret
  exact⟨rfl,Lib.below_putRow (aEg (Lib.below_putRow X.out.1 X.out.2.1) (by have:=X.out.1.size;simp[putRow,mapBlock,Sort.ahead];omega)) X.out.2.1⟩
set_option maxHeartbeats 2000000 in
set_option maxRecDepth 100000 in
theorem zero(a:Addr)(c:Nat)(w:World):Calls prog 244 #[.slice (some a) 0 c] w fun e w'=>e=.returned (.int .i64 0)/\Below w.heap.size w w':=by
  have hclone:=Tryz.slices_Clone_int_zero a c w
  go_enter func244,ntmps244
  go_wp2_with (first
    | (go_at_call 83;refine hclone.mono ?_;rintro e w1 ⟨v1,rfl,hown,hnn,hbel⟩
       obtain⟨g,cap,rfl,_,_,_,_,_,_⟩:=Lib.holds_of_ownsRow (enc:=Value.int .i64) (zs:=[]) hown hnn;have X:Aside (Below w.heap.size w w1):=hbel
       clear hown hbel hnn)
    | (go_at_call 205;refine(Tryz.slices_Sort_int_none _ _ _).mono ?_;rintro e w2 ⟨rfl,rfl⟩)
    | (go_at_call 213;refine(Tryz.slices_Compact_int_empty _ _ _).mono ?_;rintro e w3 ⟨rfl,rfl⟩))
  go_ret
  exact⟨rfl,X.out⟩
set_option maxHeartbeats 2000000 in
set_option maxRecDepth 100000 in
theorem none(n c:Nat)(w:World):Calls prog 244 #[.slice none n c] w fun e w'=>e=.returned (.int .i64 0)/\Below w.heap.size w w':=by
 go_enter func244,ntmps244
 go_wp2_with (first
  | (go_at_call 83;refine(Tryz.slices_Clone_int_nil n c _).mono ?_;rintro e w1 ⟨rfl,rfl⟩)
  | (go_at_call 205;refine(Tryz.slices_Sort_int_none _ _ _).mono ?_;rintro e w2 ⟨rfl,rfl⟩)
  | (go_at_call 213;refine(Tryz.slices_Compact_int_empty _ _ _).mono ?_;rintro e w3 ⟨rfl,rfl⟩))
 go_ret
 exact⟨rfl,Below.refl _ _⟩
end Go.Proofs.YtchfmhhbiealcaaGreatDoor.images
namespace Go.AM
open Go Go.Proofs Go.RowKit
open Go.Proofs.Tryz
theorem gJ{G:Gh}{w w':World}{m:bH}(hm:aV G m w)(h:Below w.heap.size w w'):Le G w G w' where
 os:=h.os
 tape:=h.tape
 output:=h.output
 size:=h.size
 whole b hb hk:=⟨hk,h.block b hb⟩
 part b f c hk:=⟨⟨f,nr0 _,hk⟩,fun a ha _=>by
  have hb:a.block<w.heap.size:=by
   rcases Nat.lt_or_ge a.block w.heap.size with hb|hb
   .exact hb
   .have:=hm.fresh a.block hb
    rw[ha,hk] at this;cases this
  exact World.cell?_of_block (w:=w) (h.block _ hb)⟩
 bx _ _ h:=h
 ty b c0 T f0 hb:=⟨c0,f0,(h.block b (Array.getElem?_eq_some_iff.1 hb).1).trans hb⟩
 nt:=nr0 _
 tk t _:=.inr ⟨rfl,fun g hg=>⟨rfl,fun _=>h.block g (hm.tlt t g hg)⟩⟩
theorem aAj{w:World}{b:Nat}{o:Obj}(h:w.heap[b]?=some o):b<w.heap.size:=by
 rcases Nat.lt_or_ge b w.heap.size with hb|hb
 .exact hb
 .rw[Array.getElem?_eq_none hb] at h;cases h
theorem eV{G:Gh}{w w':World}{m:bH}(hm:aV G m w)(h:Below w.heap.size w w'):aV G m w':=by
 have hle:=gJ hm h;constructor
 case box =>
  intro k rows b sz h1 h2;obtain⟨g1,cs,e,g2,g3,g4,g5⟩:=hm.box k rows b sz h1 h2;exact⟨g1,cs,e,by rw[h.block b (aAj g2)];exact g2,g3,g4.mono hle,g5⟩
 case nobox=>exact hm.nobox
 case inj=>exact hm.inj
 case nb=>exact hm.nb
 case nt=>exact hm.nt
 case toks=>exact hm.toks
 case tokb =>
  intro t g hg;obtain⟨f,cur,e,g1,g2⟩:=hm.tokb t g hg;exact⟨f,cur,e,g1,by rw[h.block g (aAj g2)];exact g2⟩
 case tinj=>exact hm.tinj
 case tnt=>exact hm.tnt
 case glob=>exact hm.glob.mono hle.cells
 case fresh=>intro b hb;exact hm.fresh b (Nat.le_trans h.size hb)
theorem dI.of_below{P:Program}{f:FuncId}{args:List AV}{tok:Nat->Bool}{nt:Nat}{v:Value}(hE:iJ P f)(h1:v.oneCell'=true)(h:∀G w vals,RVs G w args vals->Calls P f vals.toArray w fun e w'=>e=.returned v/\Below w.heap.size w w'):dI P f args tok nt (.d (.raw v)) tok nt:=by
 intro box nb;refine⟨hE,fun G w vals hm hr=>(h G w vals hr).mono ?_⟩;rintro e w' ⟨rfl,hb⟩;exact⟨v,_,_,G,rfl,⟨rfl,rfl⟩,rfl,eV hm hb,.d (.raw h1),gJ hm hb,fun k hk=>⟨hk,rfl⟩⟩
theorem aDt{c:Addr->Option Value}{ps:Addr->Prop}{l:List Int}{v:Value}(h:RVd c ps (ints l) v):
  ∃A cap,v=.slice A l.length cap/\l.length<=cap/\cap<=maxLen/\(l≠[]->∃a,A=some a)/\∀a,A=some a->∀i,i<l.length->c (a.add i)=some (.int .i64 (l.getD i 0)):=by
 unfold ints at h;generalize hes:(l.map fun n=>[D.raw (.int .i64 n)])=es at h;cases h with
 | @sl _ _ A cap u hcap hmax hsz hA hc hr =>
  have hl:es.length=l.length:=by rw[<-hes];simp
  refine⟨A,cap,by rw[hl],by omega,hmax,fun hne=>hA (by intro e;rw[e] at hl;exact hne (List.length_eq_zero_iff.1 hl.symm)),fun a ha i hi=>?_⟩;have g:=(hc a ha i 0 (by omega) (by decide)).2;have r:=hr i 0 (by omega) (by rw[hsz _ (List.getElem_mem _)];decide);have e1:es[i][0]'(by rw[hsz _ (List.getElem_mem _)];decide)=D.raw (.int .i64 l[i]):=by
   subst hes;simp
  rw[e1] at r;have e2:u i 0=.int .i64 l[i]:=by
   generalize hu:u i 0=x at r;cases r;rfl
  rw[Nat.mul_one,Nat.add_zero,e2] at g;rw[g];simp[hi]
def kZ(l:List Int):Nat:=(Lib.compact (l.mergeSort fun x y=>decide (x<=y))).length
theorem tA:kZ []=0:=by
 simp[kZ,List.mergeSort,Lib.compact];rfl
theorem wY(l:List Int)(hl:l.length<=1000000)(tok:Tks)(nt:Nat):dI prog 244 [.d (ints l)] tok nt (I (kZ l)) tok nt:=by
 refine dI.of_below (iJ.mk func244 rfl (by kernel_rfl)) rfl fun G w vals hr=>?_
 obtain⟨hlen,hrv⟩:=hr
 match vals,hlen with
 | [v],_ =>
  have h0:=hrv 0 (by simp) (by simp);simp only[List.getElem_cons_zero] at h0;cases h0 with
  | d h0 =>
   obtain⟨A,cap,rfl,hcap,hmax,hA,hc⟩:=aDt h0;cases A with
   | none =>
    have:l=[]:=by
     by_cases e:l=[]
     .exact e
     .obtain⟨a,ha⟩:=hA e;cases ha
    subst this;exact(YtchfmhhbiealcaaGreatDoor.images.none _ cap w).mono fun e w' h=>by rw[tA];exact h
   | some a =>
    by_cases e:l=[]
    .subst e;exact(YtchfmhhbiealcaaGreatDoor.images.zero a cap w).mono fun e w' h=>by rw[tA];exact h
    .have hp:0<l.length:=List.length_pos_iff.2 e
     have hc':=hc a rfl
     have hs:a.spot=none:=by
      cases hsp:a.spot with
      | none=>rfl
      | some q =>
       exfalso
       have:=hc' 0 hp
       simp only[World.cell?,Addr.add,hsp,Option.isSome_some,↓reduceIte] at this;split at this<;>simp at this
     obtain⟨b,off,sp⟩:=a;simp only at hs;subst hs;refine(YtchfmhhbiealcaaGreatDoor.images.any b off l.length cap l w rfl (by omega) fun j hj=>?_).mono fun e w' h=>h
     have h1:=hc' j hj;unfold Addr.add at h1;split at h1
     .rename_i e;subst e;exact h1
     .exact h1
theorem wN(d:Array Int)(hs:∀i j,i<=j->j<d.size->d[i]!<=d[j]!):∀m,m<=d.size->(Lib.compactUpTo d m).Pairwise (· < ·)/\∀x,x∈Lib.compactUpTo d m↔∃j,j<m/\d[j]! =x
 | 0,_=>⟨List.Pairwise.nil,fun x=>⟨fun h=>by simp[Lib.compactUpTo] at h,fun ⟨j,hj,_⟩=>absurd hj (Nat.not_lt_zero _)⟩⟩
 | m+1,hm=>by
  obtain⟨h1,h2⟩:=wN d hs m (by omega);rw[Lib.compactUpTo_succ];by_cases hk:Lib.keeps d m=true
  .rw[if_pos hk];refine⟨List.pairwise_append.2 ⟨h1,List.pairwise_singleton _ _,fun x hx y hy=>?_⟩,fun x=>?_⟩
   .rw[List.mem_singleton] at hy;subst hy;obtain⟨j,hj,rfl⟩:=(h2 x).1 hx;simp only[Lib.keeps,decide_eq_true_eq] at hk;have a1:=hs j (m-1) (by omega) (by omega);have a2:=hs (m-1) m (by omega) (by omega);have a3:d[m]!≠d[m-1]!:=by rcases hk with hk|hk;omega;exact hk
    omega
   .rw[List.mem_append,List.mem_singleton,h2];constructor
    .rintro(⟨j,hj,e⟩|e)
     .exact⟨j,by omega,e⟩
     .exact⟨m,by omega,e.symm⟩
    .rintro⟨j,hj,e⟩;by_cases ej:j=m
     .subst ej;exact .inr e.symm
     .exact .inl ⟨j,by omega,e⟩
  .rw[if_neg hk,List.append_nil];refine⟨h1,fun x=>?_⟩;rw[h2];constructor
   .rintro⟨j,hj,e⟩;exact⟨j,by omega,e⟩
   .rintro⟨j,hj,e⟩;by_cases ej:j=m
    .subst ej;simp only[Lib.keeps,decide_eq_true_eq,not_or,Decidable.not_not] at hk;exact⟨j-1,by omega,by rw[<-hk.2];exact e⟩
    .exact⟨j,by omega,e⟩
def cX(l:List Int):List Int:=l.mergeSort fun x y=>decide (x<=y)
theorem vL(l:List Int):(cX l).Perm l:=List.mergeSort_perm l _
theorem aBx(l:List Int):(cX l).Pairwise (· <= ·):=by
 have:=List.pairwise_mergeSort (le:=fun x y:Int=>decide (x<=y)) (fun a b c h1 h2=>by simp only[decide_eq_true_eq] at *;omega) (fun a b=>by simp only[Bool.or_eq_true,decide_eq_true_eq];omega) l
 exact this.imp fun h=>by simpa using h
theorem aF6(l:List Int)(i j:Nat)(hij:i<=j)(hj:j<(cX l).toArray.size):(cX l).toArray[i]!<=(cX l).toArray[j]!:=by
 simp only[List.size_toArray] at hj;rw[getElem!_pos _ i (by simp;omega),getElem!_pos _ j (by simpa using hj)];by_cases e:i=j
 .subst e;omega
 .exact List.pairwise_iff_getElem.1 (aBx l) i j (by omega) hj (by omega)
def rH(l:List Int):List Int:=Lib.compact (cX l)
theorem uZ(l:List Int):(rH l).Pairwise (· < ·):=(wN (cX l).toArray (aF6 l) (cX l).length (by simp)).1
theorem aCN(l:List Int):kZ l=(rH l).length:=rfl
theorem aDa(l:List Int):kZ l=l.length↔l.Nodup:=by
 have hl:(cX l).length=l.length:=(vL l).length_eq
 rw[aCN,<-(vL l).nodup_iff,<-hl];constructor
 .intro h;have h2:∀j,j<(cX l).length->Lib.keeps (cX l).toArray j=true:=by
   unfold rH Lib.compact Lib.compactUpTo at h;rw[List.length_map] at h;have h3:(List.range (cX l).length).filter (Lib.keeps (cX l).toArray)=List.range (cX l).length:=List.filter_sublist.eq_of_length (by rw[h,List.length_range])
   intro j hj;exact(List.filter_eq_self.1 h3) j (List.mem_range.2 hj)
  have h4:rH l=cX l:=Lib.compact_all _ h2
  have h5:=uZ l;rw[h4] at h5;exact h5.imp fun h=>by omega
 .intro h;have h4:rH l=cX l:=Lib.compact_all _ fun j hj=>by
   by_cases e:j=0
   .simp[Lib.keeps,e]
   .apply Lib.keeps_pos;rw[getElem!_pos _ j (by simpa using hj),getElem!_pos _ (j-1) (by simp;omega)];intro e2;exact List.pairwise_iff_getElem.1 h (j-1) j (by omega) hj (by omega) e2.symm
  rw[h4]
theorem tG(l:List Int):eY l l.length=true↔l.Nodup:=by
 simp only[eY,List.all_eq_true,List.mem_range,decide_eq_true_eq];rw[List.Nodup,List.pairwise_iff_getElem];constructor
 .intro h i j hi hj hij e;apply h j hj i hij;rw[List.getD_eq_getElem?_getD,List.getD_eq_getElem?_getD,List.getElem?_eq_getElem hj,List.getElem?_eq_getElem hi];exact e.symm
 .intro h j hj k hkj e;rw[List.getD_eq_getElem?_getD,List.getD_eq_getElem?_getD,List.getElem?_eq_getElem hj,List.getElem?_eq_getElem (show k<l.length by omega)] at e;exact h k j (by omega) hj hkj e.symm
theorem aDo(l:List Int):decide (kZ l=l.length)=eY l l.length:=by
 rw[Bool.eq_iff_iff,decide_eq_true_eq,aDa,tG]
theorem vP(l:List Int):((kZ l:Int)==(l.length:Int))=eY l l.length:=by
 rw[<-aDo,aP5];simp;omega
theorem jV(a b:Gr)(m:Mo)(ha:a.Fit)(hb:b.Fit)(hm:m.Fit):DC 186 [a.av,b.av,m.av] (B (fV a b m)):=by
 intro tok nt box nb;have i1:=vP m.nodes;have i2:=vP m.edges;refine sI func186 ntmps186 fun Hb Ht=>?_
 refine sR ?_;simp;refine sR ?_;simp;refine sD (kF a b m ha hb _ _) ?_;simp;by_cases h1:aG a b m=0
 .simp[h1];refine sD (wY m.nodes hm.n _ _) ?_;simp[h1];simp only[i1];by_cases h2:eY m.nodes m.nodes.length=true
  .simp[h2];refine sD (wY m.edges hm.e _ _) ?_;simp[h1,h2,i2];refine sT (sH Hb Ht ?_);simp[fV,h1,h2]
  .have h3:eY m.nodes m.nodes.length=false:=by simpa using h2
   simp only[h3];simp;refine sT (sH Hb Ht ?_);simp[fV,h1,h3]
 .have hb1:(aG a b m==0)=false:=by simp[h1]
  simp only[hb1];try simp
  refine sT (sH Hb Ht ?_);simp[fV,h1]
def aE3(l h:List Int)(i:Nat):List Int:=(l.take i).map (aU h)
@[simp] theorem aMk(l h:List Int)(i:Nat):(aE3 l h i).length=min i l.length:=by simp[aE3]
def byK(l by':List Int)(i:Nat):List Int:=(l.take i).map fun x=>by'.getD x.toNat 0
@[simp] theorem aQm(l h:List Int)(i:Nat):(byK l h i).length=min i l.length:=by simp[byK]
def oW(m n:Mo):Mo:=⟨byK m.nodes n.nodes m.nodes.length,byK m.edges n.edges m.edges.length⟩
theorem dY{f:Nat->Int}:∀n,aA f n=0->∀i,i<n->f i=0
 | 0,_,i,hi=>absurd hi (Nat.not_lt_zero _)
 | n+1,h,i,hi=>by
  simp only[aA] at h;split at h
  .rename_i h0;by_cases e:i=n
   .subst e;exact h
   .exact dY n h0 i (by omega)
  .contradiction
structure VM (a b:Gr) (m:Mo):Prop where
 va:vG a=0
 vb:vG b=0
 ln:m.nodes.length=a.nodes.length
 le:m.edges.length=a.edges.length
 n:∀x∈m.nodes,0<=x/\x<b.nodes.length
 e:∀x∈m.edges,0<=x/\x<b.edges.length
 nt:∀i,i<a.nodes.length->b.nodes.getD (m.nodes.getD i 0).toNat 0=a.nodes.getD i 0
 et:∀i,i<a.edges.length->b.edges.getD (m.edges.getD i 0).toNat default=⟨(a.edges.getD i default).ty,m.nodes.getD (a.edges.getD i default).fr.toNat 0,m.nodes.getD (a.edges.getD i default).to.toNat 0⟩
theorem kL{a b:Gr}{m:Mo}(h:aG a b m=0):VM a b m:=by
 unfold aG at h;split at h
 .omega
 .rename_i h1;split at h
  .omega
  .rename_i h2;split at h
   .cases h
   .rename_i h3;have hl1:m.nodes.length=a.nodes.length:=by omega
    have hl2:m.edges.length=a.edges.length:=by omega
    split at h
    .contradiction
    .rename_i h4;have h4':aA (cD a b m) a.nodes.length=0:=Decidable.not_not.1 h4
     have n1:=dY _ h4';have n2:=dY _ h;refine⟨by omega,by omega,hl1,hl2,fun x hx=>?_,fun x hx=>?_,fun i hi=>?_,fun i hi=>?_⟩
     .obtain⟨i,hi,rfl⟩:=List.getElem_of_mem hx;have:=n1 i (by omega)
      have e:m.nodes.getD i 0=m.nodes[i]:=by simp[hi]
      unfold cD at this;rw[e] at this;split at this
      .cases this
      .omega
     .obtain⟨i,hi,rfl⟩:=List.getElem_of_mem hx;have:=n2 i (by omega)
      have e:m.edges.getD i 0=m.edges[i]:=by simp[hi]
      unfold bR at this;rw[e] at this;split at this
      .cases this
      .omega
     .have:=n1 i hi
      unfold cD at this;split at this
      .cases this
      .split at this
       .assumption
       .cases this
     .have:=n2 i hi
      unfold bR at this;split at this
      .cases this
      .simp only at this;split at this
       .cases this
       .rename_i t1;split at this
        .cases this
        .rename_i t2;have t1':=Decidable.not_not.1 t1
         simp only[ne_eq,not_or,Decidable.not_not] at t2;rw[t1',t2.1,t2.2]
theorem nJ{h:List Int}(hn:h.Nodup){i j:Nat}(hi:i<h.length)(hj:j<h.length)(e:h.getD i 0=h.getD j 0):i=j:=by
 rw[List.getD_eq_getElem?_getD,List.getD_eq_getElem?_getD,List.getElem?_eq_getElem hi,List.getElem?_eq_getElem hj] at e;rcases Nat.lt_trichotomy i j with h1|h1|h1
 .exact absurd e (List.pairwise_iff_getElem.1 hn i j hi hj h1)
 .exact h1
 .exact absurd e.symm (List.pairwise_iff_getElem.1 hn j i hj hi h1)
theorem aC2(a b:Gr)(m:Mo):fV a b m=true↔aG a b m=0/\m.nodes.Nodup/\m.edges.Nodup:=by
 simp only[fV,Bool.and_eq_true,decide_eq_true_eq,tG]
theorem oA{a b:Gr}{m:Mo}(h:VM a b m):aG a b m=0:=by
 have z1:aA (cD a b m) a.nodes.length=0:=cU _ fun i hi=>by
  have:=h.n _ (aR (d:=0) (show i<m.nodes.length by rw[h.ln];exact hi))
  unfold cD;rw[if_neg (by omega),if_pos (h.nt i hi)]
 have z2:aA (bR a b m) a.edges.length=0:=cU _ fun i hi=>by
  have:=h.e _ (aR (d:=0) (show i<m.edges.length by rw[h.le];exact hi))
  unfold bR;rw[if_neg (by omega)];simp only[h.et i hi,ne_eq,not_true_eq_false,or_self,↓reduceIte]
 unfold aG;rw[if_neg (by simp[h.va]),if_neg (by simp[h.vb]),if_neg (by have:=h.ln;have:=h.le;omega),if_neg (by simp[z1]),z2]
theorem eH{l:List Int}{v:Int}(h:v∈l):∃j,j<l.length/\l.getD j 0=v:=by
 obtain⟨j,hj,e⟩:=List.getElem_of_mem h;exact⟨j,hj,by rw[List.getD_eq_getElem?_getD,List.getElem?_eq_getElem hj];exact e⟩
def chN(ns:List Int)(bit:Nat->Bool):Nat->List Int × List Int
 | 0=>([],[])
 | i+1=>if bit i=true then ((chN ns bit i).1++[ns.getD i 0],(chN ns bit i).2++[(i:Int)]) else chN ns bit i
def atK(ns:List Int)(bit:Nat->Bool):Nat->List Int
 | 0=>[]
 | i+1=>if bit i=true then atK ns bit i++[((chN ns bit i).1.length:Int)] else atK ns bit i++[-1]
def atR(ns:List Int)(bit:Nat->Bool)(i:Nat):List Int:=atK ns bit i++List.replicate (ns.length-i) 0
theorem aFP(ns:List Int)(bit:Nat->Bool):∀i,(atK ns bit i).length=i
 | 0=>rfl
 | i+1=>by
  simp only[atK];split<;>simp[aFP ns bit i]
@[simp] theorem aQw(ns:List Int)(bit:Nat->Bool){i:Nat}(h:i<=ns.length):(atR ns bit i).length=ns.length:=by simp[atR,aFP];omega
def aO7(xs:List Ov)(f:FuncId)(caps:List AV)(nb:Nat)(box:Bxs)(tok:Tks)(nt:Nat)(i:Nat):AS:=⟨tl [(0,.d (ovs xs)),(1,.fn (.func f) caps),(7,I xs.length),(8,I i)],lb nb box [],tok,nt⟩
theorem aBl(xs:List Ov)(f:FuncId)(caps:List AV)(p:Ov->Bool)(hx:xs.length<=1000000)(box:Bxs)(nb:Nat)(tok:Tks)(nt:Nat)(hc:∀c∈caps,bF (fun k=>box k≠none) (fun _=>True) c)(hf:∀x∈xs,∀box' nb',Ext box box'->aD prog f (x.av::caps) ⟨box',nb',tok,nt⟩ fun v m=>v=B (p x)/\m=⟨box',nb',tok,nt⟩):
  aD prog 204 [.d (ovs xs),.fn (.func f) caps] ⟨box,nb,tok,nt⟩ fun v m=>v=I (fB p xs)/\m=⟨box,nb,tok,nt⟩:=by
 refine sI func204 ntmps204 fun Hb Ht=>?_
 refine sR ?_;simp;refine sR ?_;simp;refine sN ?_;refine sL (aO7 xs f caps nb box tok nt) (fun i=>i<=xs.length/\∀x∈xs.take i,p x=false) (fun i=>xs.length-i) 0 ⟨Nat.zero_le _,by simp⟩ (wM (nr0 _) rfl (by simp[ToL];exact .same (lC hc Hb [] (by simp) rfl _)) trivial) ?_;rintro i S ⟨hi,htk⟩ hS;simp only[aO7] at hS;subst hS;have hw:=sW (i:=i) (by omega);refine sR ?_;simp;refine sC ?_;simp;refine⟨fun hlt=>?_,fun hge=>?_⟩
 .refine sR ?_;simp;refine sR ?_;simp[hlt];refine aN.of_b (hf xs[i] (List.getElem_mem _) _ _ ((Ext.refl box).lb Hb [])) ?_;simp;refine sC ?_;simp;refine⟨fun he=>?_,fun hne=>?_⟩
  .refine sR ?_;simp;obtain⟨h1,h2⟩:=xB hlt htk he;refine sT (sH Hb Ht ?_);simp[fB,h1,h2]
  .refine sR ?_;simp[hw];refine sE ?_;refine⟨i+1,⟨hlt,?_⟩,by omega,wM (nr0 _) rfl (by simp[ToL];exact .same (lC hc Hb [] (by simp) rfl _)) trivial⟩;rw[List.take_succ_eq_append_getElem hlt];intro x hx;rcases List.mem_append.1 hx with hx|hx
   .exact htk x hx
   .simp at hx;rw[hx];exact hne
 .refine sX ?_;simp only[AU,↓reduceIte];refine sR ?_;simp;have hn:xs.any p=false:=by
   rw[List.take_of_length_le hge] at htk;simpa using htk
  refine sT (sH Hb Ht ?_);simp[fB,hn]
end Go.AM
namespace Go.Proofs.YtchfmhhbiealcaaGreatDoor.values
open Go Go.Proofs Go.RowKit Go.Shelf
open Go.Proofs.Tryz
attribute [local go_sem] Oper.semAt_some
def oJ{α:Type}(f:Nat->α)(k:Nat):List α:=(List.range k).map f
theorem aC4{α:Type}(f:Nat->α)(k:Nat):(oJ f k).length=k:=by simp[oJ]
theorem aIb(zs:List Int):oJ (fun j=>zs[j]?.getD 0) zs.length=zs:=by
 apply List.ext_getElem
 .simp[oJ]
 .intro i h1 h2;simp[oJ,h2]
theorem info3:(prog.info? 3).map (fun i=>(i.zero,i.size,i.bytes))=some (some (.int .i64 0),1,8):=by kernel_rfl
end Go.Proofs.YtchfmhhbiealcaaGreatDoor.values
namespace Go.Proofs.YtchfmhhbiealcaaGreatDoor.values
open Go Go.Proofs Go.RowKit Go.Shelf Go.Sort
open Go.Proofs.Tryz
end Go.Proofs.YtchfmhhbiealcaaGreatDoor.values
namespace Go.AM
open Go Go.Proofs Go.RowKit
open Go.Proofs.Tryz
theorem mT{G:Gh}{w w':World}{m:bH}(hm:aV G m w){v:Value}{xs:List Int}(h:w'.ownsRow w.heap.size 3 1 v xs.length (xs.map (Value.int .i64))):RVd w'.cell? G.ps (ints xs) v:=by
 rcases h.2 with ⟨rfl,h0⟩|⟨g,cap,cur,rfl,hb,hg,h1,h2,h3,h4⟩
 .obtain rfl:xs=[]:=List.length_eq_zero_iff.1 h0;exact .sl (es:=[]) (fun _ _=>default) (nr0 _) (by decide) (by simp) (by simp) (by simp) (by simp)
 .have hl:xs.length=(xs.map fun n=>[D.raw (.int .i64 n)]).length:=by simp
  have hat:∀i,i<xs.length->cur[i]?=some (.int .i64 (xs.getD i 0)):=fun i hi=>by
   have e:(cur.toList.take (xs.length*1))[i]?=(xs.map (Value.int .i64))[i]?:=by rw[h4]
   rw[List.getElem?_take,if_pos (by omega),Array.getElem?_toList,List.getElem?_map,List.getElem?_eq_getElem hi] at e;rw[e];simp[hi]
  unfold ints
  conv=>rhs;rw[hl]
  refine .sl (fun i _=>.int .i64 (xs.getD i 0)) (by simpa using h1) h2 (fun e he=>?_) (fun _=>⟨_,rfl⟩) (fun a ha i j hi hj=>?_) (fun i j hi hj=>?_)
  .obtain⟨y,_,rfl⟩:=List.mem_map.1 he;rfl
  .cases ha;have hi':i<xs.length:=by simpa using hi
   have hj0:j=0:=by omega
   subst hj0;refine⟨?_,?_⟩
   .unfold Gh.ps;have hbl:(Addr.add ⟨g,0,none⟩ (i*1+0)).block=g:=by unfold Addr.add;split<;>rfl
    rw[hbl,hm.fresh g hb];trivial
   .have ha:Addr.add ⟨g,0,none⟩ (i*1+0)=⟨g,i,none⟩:=by
     unfold Addr.add;split
     .rename_i h0;congr 1;omega
     .simp
    rw[ha];simp only[World.cell?,hg,Option.isSome_none,Bool.false_eq_true,if_false];exact hat i hi'
  .simp only[List.length_map] at hi;simp only[List.getElem_map,List.length_cons,List.length_nil] at hj ⊢;have hj0:j=0:=by omega
   subst hj0;have e:xs.getD i 0=xs[i]:=by simp[hi]
   simp only[List.getElem_cons_zero,e];exact .raw rfl
end Go.AM
namespace Go.Proofs.YtchfmhhbiealcaaGreatDoor.sorted34
open Go Go.Proofs Go.RowKit Go.Shelf Go.Sort
open Go.Proofs.Tryz
end Go.Proofs.YtchfmhhbiealcaaGreatDoor.sorted34
namespace Go.AM
open Go Go.Proofs Go.RowKit
open Go.Proofs.Tryz
end Go.AM
