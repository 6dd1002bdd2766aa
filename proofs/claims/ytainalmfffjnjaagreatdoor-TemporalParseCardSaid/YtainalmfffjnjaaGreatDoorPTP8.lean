/-
 Parts of the proof, as merged from many texts: a machine over data, what the functions compute, plain laws.
-/
import Derived.Test.YtainalmfffjnjaaGreatDoorPTP7
import Derived.Shelf.Spec.SlicesGrow
import Derived.Deep.AppendLies
set_option linter.unusedSimpArgs false
set_option linter.unusedVariables false
namespace Go.AM
open Go
open Go.Proofs.Tryz
variable {P:Program}
theorem EffV.val{o:Oper}{ρ:Operand->AV}{box box':Bxs}{tok tok':Nat->Bool}{nt nt':Nat}{v:AV}(h:EffV P o ρ box tok nt v box' tok' nt'):isVal o.op=true:=by
 unfold EffV at h;split at h
 .rename_i c ho;split at h
  .rename_i f hf;rw[ho];obtain⟨cal,args,tys⟩:=c;simp only at hf;subst hf;rfl
  .exact h.elim
 .exact h.elim
theorem EffV.spec{o:Oper}{ρ:Operand->AV}{box box':Bxs}{tok tok':Nat->Bool}{nt nt':Nat}{v:AV}(h:EffV P o ρ box tok nt v box' tok' nt'):
  ∃x k i off rows,callPtr o.op=some x/\ρ x=.ptr k i off/\box'=upd box k (some rows):=by
 unfold EffV at h;split at h
 .split at h
  .split at h
   .obtain⟨x,k,i,off,rows,g1,g2,g3,g4,g5⟩:=h;exact⟨x,k,i,off,rows,g1,g2,g4⟩
   .exact h.elim
  .exact h.elim
 .exact h.elim
theorem Eff.up{wr:Bool}{base:Nat}{o:Oper}{ρ:Operand->AV}{box box':Bxs}{tok tok':Nat->Bool}{nt nt':Nat}{v:AV}(h:Eff P false base o ρ box tok nt v box' tok' nt'):Eff P wr base o ρ box tok nt v box' tok' nt':=by
 unfold Eff at h ⊢;cases hc:cls o.op<;>simp only[hc] at h ⊢<;>first|exact h|exact .inl (t_false h)
theorem Eff.down{wr:Bool}{base:Nat}{o:Oper}{ρ:Operand->AV}{box box':Bxs}{tok tok':Nat->Bool}{nt nt':Nat}{v:AV}(hv:isVal o.op=false)(h:Eff P wr base o ρ box tok nt v box' tok' nt'):Eff P false base o ρ box tok nt v box' tok' nt':=by
 unfold Eff at h ⊢;cases hc:cls o.op<;>simp only[hc] at h ⊢<;>first|exact h|skip
 rcases h with h|⟨_,h⟩
 .exact .inl h
 .rw[h.val] at hv;cases hv
theorem Step.up{wr:Bool}{base:Nat}{o:Oper}{S S':AS}(h:Step P false base o S S'):Step P wr base o S S':=by
 obtain⟨v,b,t,n,h1,h2⟩:=h;exact⟨v,b,t,n,h1.up,h2⟩
def ptrOp3(o:Op):Option Operand:=match ptrOp o with
 | some p=>some p
 | none=>callPtr o
def calm(x y:Oper):Bool:=match isVal x.op,isVal y.op with
 | true,true=>false
 | true,false=>decide (cls y.op=.n)||decide (cls y.op=.r)
 | false,true=>decide (cls x.op=.n)||decide (cls x.op=.r)
 | false,false=>!clash x y||isPtr x.op&&isPtr y.op
theorem load_ptr{o:Oper}(h:cls o.op=.r):∃p,ptrOp o.op=some p:=by
 cases hop:o.op<;>rw[hop] at h<;>simp only[cls,reduceCtorEq] at h
 .exact⟨_,rfl⟩
 .split at h<;>first|(rename_i e;cases e;done)|(cases h;done)|simp_all
theorem val_cls{o:Op}(h:isVal o=true):cls o=.t/\ptrOp o=none:=by
 unfold isVal at h;split at h
 .exact⟨rfl,rfl⟩
 .cases h
theorem calm_swap{base:Nat}{x y:Oper}{ρ:Operand->AV}{b0 b1 b2:Bxs}{t0 t1 t2:Nat->Bool}{n0 n1 n2:Nat}{vx vy:AV}(hc:calm x y=true)(hk:∀p q,ptrOp3 x.op=some p->ptrOp3 y.op=some q->(cls x.op≠.r∨cls y.op≠.r)->∀k i off k' i' off',ρ p=.ptr k i off->ρ q=.ptr k' i' off'->k≠k')(hx:Eff P true base x ρ b0 t0 n0 vx b1 t1 n1)(hy:Eff P true base y ρ b1 t1 n1 vy b2 t2 n2):∃c t n,Eff P true base y ρ b0 t0 n0 vy c t n/\Eff P true base x ρ c t n vx b2 t2 n2:=by
 unfold calm at hc;cases vx':isVal x.op<;>cases vy':isVal y.op<;>simp only[vx',vy'] at hc
 .have dx:=hx.down vx';have dy:=hy.down vy';cases hcl:clash x y with
  | false =>
   obtain⟨c,t,n,h1,h2⟩:=eff_swap hcl dx dy;exact⟨c,t,n,h1.up,h2.up⟩
  | true =>
   rw[hcl] at hc;simp only[Bool.not_true,Bool.false_or,Bool.and_eq_true] at hc;obtain⟨p,hp⟩:=Option.isSome_iff_exists.1 hc.1;obtain⟨q,hq⟩:=Option.isSome_iff_exists.1 hc.2;have hp3:ptrOp3 x.op=some p:=by unfold ptrOp3;rw[hp]
   have hq3:ptrOp3 y.op=some q:=by unfold ptrOp3;rw[hq]
   have hr:cls x.op≠.r∨cls y.op≠.r:=by
    by_cases e1:cls x.op=.r
    .by_cases e2:cls y.op=.r
     .simp[clash,e1,e2] at hcl
     .exact .inr e2
    .exact .inl e1
   obtain⟨c,t,n,h1,h2⟩:=eff_far hp hq (hk p q hp3 hq3 hr) dx dy;exact⟨c,t,n,h1.up,h2.up⟩
 .-- the call comes second
  obtain⟨cy,py⟩:=val_cls vy';unfold Eff at hx hy ⊢;simp only[Bool.or_eq_true,decide_eq_true_eq] at hc;rcases hc with hc|hc<;>simp only[hc,cy] at hx hy ⊢
  .obtain⟨e,rfl,rfl,rfl⟩:=hx;exact⟨_,_,_,hy,e,rfl,rfl,rfl⟩
  .obtain⟨e,rfl,rfl,rfl⟩:=hx;obtain⟨p,hp⟩:=load_ptr hc;refine⟨_,_,_,hy,?_,rfl,rfl,rfl⟩;rcases hy with ⟨_,rfl⟩|⟨_,hv⟩
   .exact e
   .obtain⟨z,k,i,off,rows,g1,g2,rfl⟩:=hv.spec;refine effR_ptr hp hc e fun k1 i1 off1 h1=>?_
    exact hk p z (by unfold ptrOp3;rw[hp]) (by unfold ptrOp3;rw[py];exact g1) (.inr (by rw[cy];decide)) _ _ _ _ _ _ h1 g2
 .-- the call comes first
  obtain⟨cx,px⟩:=val_cls vx';unfold Eff at hx hy ⊢;simp only[Bool.or_eq_true,decide_eq_true_eq] at hc;rcases hc with hc|hc<;>simp only[hc,cx] at hx hy ⊢
  .obtain⟨e,rfl,rfl,rfl⟩:=hy;exact⟨_,_,_,⟨e,rfl,rfl,rfl⟩,hx⟩
  .obtain⟨e,rfl,rfl,rfl⟩:=hy;obtain⟨q,hq⟩:=load_ptr hc;refine⟨_,_,_,⟨?_,rfl,rfl,rfl⟩,hx⟩;rcases hx with ⟨_,rfl⟩|⟨_,hv⟩
   .exact e
   .obtain⟨z,k,i,off,rows,g1,g2,rfl⟩:=hv.spec;refine effR_back hq hc (fun k1 i1 off1 h1=>?_) e;exact Ne.symm (hk z q (by unfold ptrOp3;rw[px];exact g1) (by unfold ptrOp3;rw[hq]) (.inl (by rw[cx];decide)) _ _ _ _ _ _ g2 h1)
 .cases hc
def regOk3(ops:Array Oper):Bool :=
 let an:=ancs ops.toList []
 dstUniq ops&&(List.range ops.size).all fun i=>(match ops[i]? with|some o=>(direct o).all fun j=>decide (j<i)|none=>true) &&
  (List.range i).all fun j=>(an.getD i 0).testBit j||(match ops[j]?,ops[i]? with
   | some x,some y=>Oper.apart ops x y&&calm x y
   | _,_=>false)
def unPairs(ops:Array Oper):List (Operand × Operand) :=
 let an:=ancs ops.toList []
 (List.range ops.size).flatMap fun i=>(List.range i).filterMap fun j=>if (an.getD i 0).testBit j then none else match ops[j]?,ops[i]? with
  | some x,some y=>match ptrOp3 x.op,ptrOp3 y.op with
   | some p,some q=>if cls x.op=.r/\cls y.op=.r then none else some (p,q)
   | _,_=>none
  | _,_=>none
def FarP(S:AS):List (Operand × Operand)->Prop
 | []=>True
 | (p,q)::r=>NK (S.ev p) (S.ev q)/\FarP S r
theorem FarP.at{S:AS}{p q:Operand}:∀{L:List (Operand × Operand)},FarP S L->(p,q)∈L->NK (S.ev p) (S.ev q)
 | (a,b)::r,h,hm=>by
  rcases List.mem_cons.1 hm with e|hm
  .cases e;exact h.1
  .exact FarP.at h.2 hm
theorem unPairs_mem{ops:Array Oper}{i j:Nat}{x y:Oper}{p q:Operand}(hx:ops[j]?=some x)(hy:ops[i]?=some y)(hij:j<i)(hb:((ancs ops.toList []).getD i 0).testBit j=false)(hp:ptrOp3 x.op=some p)(hq:ptrOp3 y.op=some q)(hr:cls x.op≠.r∨cls y.op≠.r):(p,q)∈unPairs ops:=by
 have his:i<ops.size:=(Array.getElem?_eq_some_iff.1 hy).1
 unfold unPairs;simp only[List.mem_flatMap,List.mem_range,List.mem_filterMap];refine⟨i,his,j,hij,?_⟩;have hnr:¬(cls x.op=.r/\cls y.op=.r):=fun h=>by rcases hr with hr|hr;exact hr h.1;exact hr h.2
 rw[hb,hx,hy];simp[hp,hq,hnr]
theorem any_sound3{n nb base:Nat}{ops:Array Oper}{Q:Exit->Act->World->Prop}{Sf:AS}{G0:Gh}{w0:World}{b0:Bxs}(hreg:regOk3 ops=true)(hal:allocOk ops=true)(hdst:dstOk n ops=true)(hnb:base+n<=nb)(hfar:FarP Sf (unPairs ops))(hQ:∀a' w' G',RelS n nb G' Sf a' w'->LeK base G0 w0 b0 G' w' Sf.box->Q .normal a' w')(fuel:Nat)(listed:Array Bool)(rem:List Nat)(S:AS)(a:Act)(w:World)(G:Gh)(hrem:rem=List.range ops.size)(hside:Side ops S)(h1:listed.size=ops.size)(h2:rem=(List.range ops.size).filter (fun i=>!listed.getD i true))(h3:rem.length=fuel)(h4:∀i o,ops[i]?=some o->listed.getD i false=true->∀j∈direct o,listed.getD j false=true)(h5:IRun P true base ops rem S Sf)(h6:RelS n nb G S a w)(h7:∀i∈rem,∀o,ops[i]?=some o->Pend P base o G S.box)(h8:LeK base G0 w0 b0 G w S.box):wpAny P .any ops Q fuel listed a w:=by
 unfold regOk3 at hreg;simp only[Bool.and_eq_true] at hreg;obtain⟨hu,hreg⟩:=hreg;have key:∀(i:Nat) (o:Oper),ops[i]?=some o->(∀j∈direct o,j<i)/\∀j x,ops[j]?=some x->j<i->((ancs ops.toList []).getD i 0).testBit j=true∨x.apart ops o=true/\calm x o=true:=by
  intro i o ho;have his:i<ops.size:=(Array.getElem?_eq_some_iff.1 ho).1
  have hall:=List.all_eq_true.1 hreg i (by simpa using his);rw[ho] at hall;simp only[Bool.and_eq_true] at hall;refine⟨fun j hj=>by simpa using List.all_eq_true.1 hall.1 j hj,fun j x hx hj=>?_⟩;have h2:=List.all_eq_true.1 hall.2 j (by simpa using hj);rw[hx] at h2;simpa only[Bool.or_eq_true,Bool.and_eq_true] using h2
 have start:Ivs Sf S:=by
  intro t;by_cases hd:∃o∈ops.toList,o.dst=some t
  .obtain⟨o,ho,hd⟩:=hd;exact .inr (hside o ho t hd)
  .refine .inl (irun_keeps (fun j _ x hx hxd=>hd ⟨x,by simpa using Array.mem_of_getElem? hx,hxd⟩) h5).symm
 refine any_sound' (wr:=true) (fun i o ho=>(key i o ho).1) (Iv:=Ivs Sf) (fun i o S' S'' rest ho hni hst hrun hiv=>ivs_step hu i o S' S'' rest ho hni hst hrun hiv) ?_ hal hdst hnb hQ fuel listed rem S a w G h1 h2 h3 h4 start h5 h6 h7 h8;intro i j o x ho hx hj hb S' S1 S2 hiv g1 g2;rcases (key i o ho).2 j x hx hj with h|⟨h,h'⟩
 .rw[hb] at h;cases h
 .refine gstep_swap' h (fun {c0 c1 c2 s0 s1 s2 m0 m1 m2 vx vy} e1 e2=>?_) g1 g2;have back:∀(z:Operand) k i off,S'.ev z=.ptr k i off->Sf.ev z=.ptr k i off:=by
   intro z k i off hz;cases z with
   | tmp t =>
    rcases hiv t with e|e
    .exact e.symm.trans hz
    .have hz':S'.tmps t=.ptr k i off:=hz
     rw[hz'] at e;exact e.elim
   | const c=>exact hz
   | global c=>exact hz
   | func c=>exact hz
  refine calm_swap h' (fun p q hp hq hr k i1 off k' i2 off' hk hk'=>?_) e1 e2;have hnk:=hfar.at (unPairs_mem hx ho hj hb hp hq hr);rw[back p _ _ _ hk,back q _ _ _ hk'] at hnk;exact hnk
def StopW(P:Program)(o:Oper)(fid:FuncId)(args:List AV)(S:AS)(K:AS->Prop):Prop :=
 (∃v tok' nt',RCall P fid args S.box S.tok S.nt v tok' nt'/\K ⟨putT S.tmps o.dst v,S.box,tok',nt'⟩) ∨
 ∃x k i off rows v tok' nt',callPtr o.op=some x/\S.ev x=.ptr k i off/\S.box k≠none/\WCall P fid args k S.box S.tok S.nt v rows tok' nt'/\K ⟨putT S.tmps o.dst v,upd S.box k (some rows),tok',nt'⟩
def FOneW(P:Program)(cx:Cx)(o:Oper)(K:AS->Prop)(S:AS):Prop:=match callFn o S.ev with
 | some (fid,args)=>StopW P o fid args S K
 | none=>FOne P cx true o K S
def FOpsW(P:Program)(cx:Cx)(ops:Array Oper):List Oper->(AS->Prop)->AS->Prop
 | [],K,S=>K S
 | o::r,K,S=>match o.guard with
  | none=>FOneW P cx o (FOpsW P cx ops r K) S
  | some (j,want)=>match yieldA ops S j with
   | some (some b)=>Gd b want (FOneW P cx o (FOpsW P cx ops r K)) (FSkip o.dst (FOpsW P cx ops r K)) S
   | some none=>FSkip o.dst (FOpsW P cx ops r K) S
   | none=>False
theorem fOpsW_true{cx:Cx}{ops:Array Oper}{K:AS->Prop}:∀(l:List Oper) (S:AS),FOpsW P cx ops l K S->∃S',ARun P true cx.base ops l S S'/\K S'
 | [],S,h=>⟨S,rfl,h⟩
 | o::r,S,h=>by
  have one:FOneW P cx o (FOpsW P cx ops r K) S->∃S1 S',Step P true cx.base o S S1/\ARun P true cx.base ops r S1 S'/\K S':=by
   intro h1;unfold FOneW at h1;split at h1
   .rename_i fid args hc;unfold callFn at hc;split at hc
    .rename_i c ho;split at hc
     .rename_i f hcal;split at hc
      .rename_i fid' caps hf;simp only[Option.some.injEq,Prod.mk.injEq] at hc;obtain⟨rfl,rfl⟩:=hc;have hcl:cls o.op=.t:=by
        rw[ho];obtain⟨cal,args,tys⟩:=c;simp only at hcal;subst hcal;rfl
       rcases h1 with ⟨v,tok',nt',hd,hk'⟩|⟨x,k,i,off,rows,v,tok',nt',g1,g2,g3,hw,hk'⟩
       .obtain⟨S',h2,h3⟩:=fOpsW_true r _ hk';refine⟨_,S',⟨v,S.box,tok',nt',?_,rfl⟩,h2,h3⟩;unfold Eff;rw[hcl];refine .inl ⟨.inr ?_,rfl⟩;unfold EffC;simp only[ho,hcal,hf];exact hd
       .obtain⟨S',h2,h3⟩:=fOpsW_true r _ hk';refine⟨_,S',⟨v,upd S.box k (some rows),tok',nt',?_,rfl⟩,h2,h3⟩;unfold Eff;rw[hcl];refine .inr ⟨rfl,?_⟩;unfold EffV;rw[ho] at g1 ⊢;simp only[hcal,hf];exact⟨x,k,i,off,rows,g1,g2,g3,rfl,hw⟩
      .cases hc
     .cases hc
    .cases hc
   .rename_i hc;rcases fOne_cases h1 with ⟨_,S1,hs,hk⟩|⟨hdr,_⟩|⟨fid,args,hc',hk⟩
    .obtain⟨S',h2,h3⟩:=fOpsW_true r S1 hk;exact⟨S1,S',hs.up,h2,h3⟩
    .cases hdr
    .rw[hc] at hc';cases hc'
  unfold FOpsW at h;unfold ARun;split at h
  .rename_i hg;obtain⟨S1,S',h1,h2,h3⟩:=one h;exact⟨S',⟨S1,by unfold GStep;rw[hg];exact h1,h2⟩,h3⟩
  .rename_i j want hg;split at h
   .rename_i b hy;by_cases e:b=want
    .obtain⟨S1,S',h1,h2,h3⟩:=one (h.1 e);exact⟨S',⟨S1,by unfold GStep;rw[hg];simp only[hy,e,↓reduceIte];exact h1,h2⟩,h3⟩
    .obtain⟨S',h2,h3⟩:=fOpsW_true r _ (h.2 (by cases b<;>cases want<;>simp_all));exact⟨S',⟨_,by unfold GStep;rw[hg];simp only[hy,Option.some.injEq,e,↓reduceIte],h2⟩,h3⟩
   .rename_i hy;obtain⟨S',h2,h3⟩:=fOpsW_true r _ h;exact⟨S',⟨_,by unfold GStep;rw[hg];simp only[hy,reduceCtorEq,↓reduceIte],h2⟩,h3⟩
   .exact h.elim
def FRegW(P:Program)(cx:Cx)(ops:Array Oper)(K:AS->Prop)(S:AS):Prop:=match preF P cx.base ops.toList S.box with
 | some b=>FOpsW P cx ops ops.toList K ⟨S.tmps,b,S.tok,S.nt⟩
 | none=>False
theorem AL.region3{cx:Cx}{nt0:Nat}{K:Exit->AS->Prop}{r:List CI}{S:AS}{id:Nat}{ops:Array Oper}(hf:P.follows .mixedOrders=true)(hnb:cx.base+cx.n<=cx.nb)(hok:(allocOk ops&&dstOk cx.n ops&&regOk3 ops)=true)(hside:Side ops S)(L:List (Operand × Operand))(hL:unPairs ops=L)(h:FRegW P cx ops (fun S'=>FarP S' L/\AL P cx nt0 K r S') S):AL P cx nt0 K (.c (.region id ops true)::r) S:=by
 simp only[AL];simp only[Bool.and_eq_true] at hok;obtain⟨⟨hal,hdst⟩,hreg⟩:=hok;intro G0 w0 he hn G a w hr hl;have hd:=dstOk_spec hdst;have hpre:PreB P cx.base ops.toList S.box fun b=>∃S',ARun P true cx.base ops ops.toList { S with box:=b } S'/\FarP S' L/\AL P cx nt0 K r S':=by
  unfold FRegW at h;split at h
  .rename_i b hb;exact preF_sound _ _ b hb (fOpsW_true _ _ h)
  .exact h.elim
 obtain⟨b,hb,hr1,hp,hkeep⟩:=preB_sound hnb ops.toList S.box (S:=S) hr (fun o ho d hod=>hd o d (by simpa using ho) hod) (allocOk_nodup hal) hpre;have hl1:LeC cx G0 w0 G w { S with box:=b }:=⟨hl.1,fun k hk hg=>by
  rw[<-hl.2 k hk hg];refine hkeep k fun hm=>?_
  obtain⟨o,ho,he⟩:=List.mem_filterMap.1 hm;split at he
  .rename_i T s h1 h2;simp only[Option.some.injEq] at he;subst he;exact absurd hk (by simp)
  .cases he⟩
 obtain⟨S',hrun,hfar,hK⟩:=hb;refine wp_region_any hf ?_;have hrd:RelS cx.n cx.nb G { S with box:=b } a w.drew:=hr1.drew
 have hld:LeC cx G0 w0 G w.drew { S with box:=b }:=hl1.step ⟨Le.drew,fun k _ hg=>⟨hg,rfl⟩⟩
 refine any_sound3 (n:=cx.n) (nb:=cx.nb) (base:=cx.base) (Sf:=S') (G0:=G) (w0:=w.drew) (b0:=b) hreg hal hdst hnb (by rw[hL];exact hfar) (fun a' w' G' h1 h2=>⟨S',G',hK,h1,hld.step h2⟩) ops.size (Array.replicate ops.size false) (List.range ops.size) { S with box:=b } a w.drew G rfl hside (by simp) ?_ (by simp) ?_ (IRun.of_all hrun) hrd ?_ (LeK.refl _ _ _ _)
 .rw[List.filter_eq_self.2];intro i hi;simp at hi;simp[Array.getD,hi]
 .intro i o ho hlst;have hi:=(Array.getElem?_eq_some_iff.1 ho).1;simp[Array.getD,hi] at hlst
 .intro i _ o ho;exact hp o (by simpa using Array.mem_of_getElem? ho)
theorem StopW.of_r{o:Oper}{fid:FuncId}{args:List AV}{S:AS}{K:AS->Prop}{v:AV}{tok':Nat->Bool}{nt':Nat}(h:RCall P fid args S.box S.tok S.nt v tok' nt')(hk:K ⟨putT S.tmps o.dst v,S.box,tok',nt'⟩):StopW P o fid args S K:=.inl ⟨v,tok',nt',h,hk⟩
theorem StopW.of_d{o:Oper}{fid:FuncId}{args:List AV}{S:AS}{K:AS->Prop}{v:AV}{tok':Nat->Bool}{nt':Nat}(h:DCall P fid args S.tok S.nt v tok' nt')(hk:K ⟨putT S.tmps o.dst v,S.box,tok',nt'⟩):StopW P o fid args S K:=.of_r (h.r _) hk
theorem StopW.of_w{o:Oper}{fid:FuncId}{args:List AV}{S:AS}{K:AS->Prop}{v:AV}{tok':Nat->Bool}{nt':Nat}{x:Operand}{k i off:Nat}{rows:List (List AV)}(hx:callPtr o.op=some x)(hp:S.ev x=.ptr k i off)(hb:S.box k≠none)(h:WCall P fid args k S.box S.tok S.nt v rows tok' nt')(hk:K ⟨putT S.tmps o.dst v,upd S.box k (some rows),tok',nt'⟩):StopW P o fid args S K:=.inr ⟨x,k,i,off,rows,v,tok',nt',hx,hp,hb,h,hk⟩
attribute [simp] FRegW FOneW callFn FarP
@[simp] theorem FOpsW_nil{cx:Cx}{ops:Array Oper}{K:AS->Prop}{t:Nat->AV}{b:Bxs}{k:Nat->Bool}{n:Nat}:FOpsW P cx ops [] K ⟨t,b,k,n⟩=K ⟨t,b,k,n⟩:=by simp only[FOpsW]
@[simp] theorem FOpsW_cons{cx:Cx}{ops:Array Oper}{o:Oper}{r:List Oper}{K:AS->Prop}{t:Nat->AV}{b:Bxs}{k:Nat->Bool}{n:Nat}:FOpsW P cx ops (o::r) K ⟨t,b,k,n⟩=match o.guard with
  | none=>FOneW P cx o (FOpsW P cx ops r K) ⟨t,b,k,n⟩
  | some (j,want)=>match yieldA ops ⟨t,b,k,n⟩ j with
   | some (some g)=>Gd g want (FOneW P cx o (FOpsW P cx ops r K)) (FSkip o.dst (FOpsW P cx ops r K)) ⟨t,b,k,n⟩
   | some none=>FSkip o.dst (FOpsW P cx ops r K) ⟨t,b,k,n⟩
   | none=>False:=by
 simp only[FOpsW]
open Go Go.Proofs
open Go.Proofs.Tryz
abbrev nilS:AV:=.osl 0 [] .full
abbrev z0i:AV:=.d (.raw (.int .i64 0))
theorem fit_nil:Gr.Fit ⟨[],[]⟩:=⟨by simp,by simp⟩
theorem fit_nilM:Mo.Fit ⟨[],[]⟩:=⟨by simp,by simp⟩
def lst{β:Type}(ok:Nat->Nat->Bool)(m:Nat)(fin:List Int->List β):Nat->List Int->List β
 | 0,L=>fin L
 | r+1,L=>(List.range m).flatMap fun (k:Nat)=>if (!decide ((k:Int)∈L)&&ok L.length k)=true then lst ok m fin r (L++[(k:Int)]) else []
def atB(by' of:List Int)(i k:Nat):Bool:=decide (indexI by' i<0)||decide (of.getD (indexI by' i).toNat 0=k)
def okXE(p g:Gr)(x m:Mo)(N:List Int)(i k:Nat):Bool:=decide (g.edges.getD k default=wantX p N i)&&atB x.edges m.edges i k
def okXN(p g:Gr)(x m:Mo)(i k:Nat):Bool:=decide (g.nodes.getD k 0=p.nodes.getD i 0)&&atB x.nodes m.nodes i k
def exE(p g:Gr)(x m:Mo)(N:List Int)(r:Nat)(L:List Int):List Mo:=lst (okXE p g x m N) g.edges.length (fun E=>[⟨N,E⟩]) r L
def exN(p g:Gr)(x m:Mo)(r:Nat)(L:List Int):List Mo:=lst (okXN p g x m) g.nodes.length (fun N=>exE p g x m N p.edges.length []) r L
def exts(p g:Gr)(x m:Mo):List Mo:=exN p g x m p.nodes.length []
abbrev Mo.cells(m:Mo):List D:=[ints m.nodes,ints m.edges]
structure Ls (ok:Nat->Nat->Bool) (m r:Nat) (L L':List Int):Prop where
 len:L'.length=L.length+r
 pre:∀j,j<L.length->L'.getD j 0=L.getD j 0
 new:∀j,L.length<=j->j<L'.length->∃k:Nat,L'.getD j 0=k/\k<m/\ok j k=true/\∀i,i<j->L'.getD i 0≠k
theorem Ls.nodup{ok:Nat->Nat->Bool}{m r:Nat}{L':List Int}(h:Ls ok m r [] L'):L'.Nodup:=by
 rw[nodup_getD];intro i j hij hj e;obtain⟨k,k1,_,_,k4⟩:=h.new j (Nat.zero_le _) hj;exact k4 i hij (by rw[e,k1])
inductive Cd.Bare:Cd->Prop
 | mk {c:Cd} (hs:c.sl=[]) (ht:c.te=[]) (h:∀x∈c.kids,Cd.Bare x):Cd.Bare c
theorem Cd.Bare.sl{c:Cd}(h:c.Bare):c.sl=[]:=by cases h;assumption
theorem Cd.Bare.te{c:Cd}(h:c.Bare):c.te=[]:=by cases h;assumption
theorem Cd.Bare.kid{c:Cd}(h:c.Bare):∀x∈c.kids,Cd.Bare x:=by cases h;assumption
@[simp] theorem lb_base(base:Nat)(out:Bxs)(loc:List (Nat × List (List AV))):lb base out loc base=lk loc 0:=lb_at base 0 out loc
@[simp] theorem upd_lb_base(base:Nat)(out:Bxs)(loc:List (Nat × List (List AV)))(rows:List (List AV)):upd (lb base out loc) base (some rows)=lb base out ((0,rows)::loc):=upd_lb base 0 out loc rows
@[simp] theorem to_ptr_base{q:Nat->Prop}{fz:Option (Nat × Nat × List (List D))}{base i off:Nat}{out:Bxs}{loc:List (Nat × List (List AV))}:To (fun k=>lb base out loc k≠none) q fz (.ptr base i off) (.ptr base i off)↔lk loc 0≠none:=to_ptr_lb (s:=0)
abbrev bytes(l:List Int):D:=.sl 1 (l.map fun n=>[u8 n])
def U8s(l:List Int):Prop:=∀c∈l,0<=c/\c<256
theorem bytes_at{l:List Int}{i:Nat}(h:i<l.length):(l.map fun n=>[u8 n])[i]?=some [u8 l[i]]:=by simp[h]
theorem AL.midT{cx:Cx}{nt0:Nat}{K:Exit->AS->Prop}{r:List CI}{S:AS}{x y:Code}{α:Type}(T:α->AS)(inv:α->Prop)(h1:AL prog cx nt0 (fun e S'=>match e with
   | .normal=>∃a,inv a/\Weaks cx nt0 S' (T a)
   | e=>AU prog cx nt0 K (.c y::r) e S') [.c x] S)(h2:∀a,inv a->AL prog cx nt0 K (.c y::r) (T a)):AL prog cx nt0 K (.c x::.c y::r) S:=by
 have h3:=AL.start h1;simp only[AL] at h2 ⊢;refine h3.mono fun e S' h=>?_
 cases e with
 | normal =>
  obtain⟨a,ha,hw⟩:=h;exact AT.weaks hw (h2 a ha)
 | _=>exact h
theorem Pre.trans{a b c:Gr}(h:Pre a b)(k:Pre b c):Pre a c:=by
 obtain⟨t,ht⟩:=h.n;obtain⟨u,hu⟩:=h.e;obtain⟨t',ht'⟩:=k.n;obtain⟨u',hu'⟩:=k.e;exact⟨h.va,k.vb,⟨t++t',by rw[ht',ht,List.append_assoc]⟩,⟨u++u',by rw[hu',hu,List.append_assoc]⟩⟩
structure Sp where
 l:Gr
 r:Gr
 k:Mo
 i:Mo
structure SpOk (s:Sp):Prop where
 k:VP s.l s.k
 i:Emb (exG s.l s.k) s.r s.i
def Sp.z(s:Sp)(m:Mo)(x:Gr):Mo:=cmpl x (imgP s.r s.i) m
def Sp.go(s:Sp)(m:Mo)(x:Gr):Mo:=liftM (s.z m x) (thenM s.i m)
theorem VP.sub{g:Gr}{p:Mo}(h:VP g p):Emb (exG g p) g p:=h.emb
structure At where
 name:ByteArray
 lo:Int
 hi:Int
 names:List ByteArray
structure NT where
 name:ByteArray
 par:Int
 abs:Bool
 own:List At
structure ET where
 name:ByteArray
 fr:Int
 to:Int
 ol:Int
 oh:Int
 il:Int
 ih:Int
structure Ty where
 nodes:List NT
 edges:List ET
abbrev At.cells(a:At):List D:=[.raw (.string a.name),.raw (.int .i64 a.lo),.raw (.int .i64 a.hi),strs a.names]
abbrev atts(l:List At):D:=.sl 4 (l.map At.cells)
abbrev NT.cells(n:NT):List D:=[.raw (.string n.name),.raw (.int .i64 n.par),.raw (.bool n.abs),atts n.own]
abbrev ET.cells(e:ET):List D:=[.raw (.string e.name),.raw (.int .i64 e.fr),.raw (.int .i64 e.to),.raw (.int .i64 e.ol),.raw (.int .i64 e.oh),.raw (.int .i64 e.il),.raw (.int .i64 e.ih)]
abbrev nts(l:List NT):D:=.sl 4 (l.map NT.cells)
abbrev ets(l:List ET):D:=.sl 7 (l.map ET.cells)
abbrev Ty.av(t:Ty):AV:=.agg [.d (nts t.nodes),.d (ets t.edges)]
instance:Inhabited ByteArray:=⟨⟨#[]⟩⟩
abbrev eB:ByteArray:=⟨#[]⟩
def nmsAt(l:List ByteArray)(i:Nat):Int:=if nameB (l.getD i eB)=false then 2 else if memS (l.take i) (l.getD i eB)=true then 5 else 0
def nmsE(l:List ByteArray):Int:=if 20<l.length then 3 else firstE (nmsAt l) l.length
structure NmFit (l:List ByteArray):Prop where
 n:l.length<=1000000
 s:∀x∈l,x.size<=1000000000000
theorem strs_take(l:List ByteArray)(i:Nat):strs (l.take i)=.sl 1 (List.take i (l.map fun s=>[D.raw (.string s)])):=by rw[strs,List.map_take]
def stNm(l:List ByteArray)(nb:Nat)(box:Bxs)(tok:Tks)(nt:Nat)(i:Nat):AS:=⟨tl [(10,I i),(9,I l.length),(8,.d (strs l)),(0,.d (strs l))],lb nb box [],tok,nt⟩
theorem names_c(l:List ByteArray)(hl:NmFit l):DC 262 [.d (strs l)] (I (nmsE l)):=by
 intro tok nt box nb;have hln:=hl.n;by_cases h20:20<l.length
 .have h20':(20:Int)<l.length:=by omega
  rw[show nmsE l=3 from if_pos h20];refine sI func262 ntmps262 fun Hb Ht=>?_
  repeat first|simp[h20']|refine sR ?_
  refine sC ?_;repeat first|simp|refine sR ?_
  refine sT (sH Hb Ht ?_);simp
 .have h20':¬(20:Int)<l.length:=by omega
  have hE:nmsE l=firstE (nmsAt l) l.length:=if_neg h20
  refine sI func262 ntmps262 fun Hb Ht=>?_
  repeat first|simp[h20']|refine sR ?_
  refine sC ?_;repeat first|simp|refine sR ?_
  refine sN ?_;refine sL (stNm l nb box tok nt) (fun i=>i<=l.length/\firstE (nmsAt l) i=0) (fun i=>l.length-i) 0 ⟨Nat.zero_le _,rfl⟩ (wM (nr _) rfl (by simp[ToL,lk]) trivial) ?_;rintro i S' ⟨hi,hok⟩ hS;simp only[stNm] at hS;subst hS;have hw:=sW (i:=i) (by omega);have hR:i<l.length->nmsAt l i≠0->firstE (nmsAt l) l.length=nmsAt l i:=fun hlt h0=>firstE_stop hok h0 l.length hlt
  repeat first|simp|refine sR ?_|refine sC ?_
  refine⟨fun hlt=>?_,fun hge=>?_⟩
  .have hg:l.getD i eB=l[i]:=by simp[hlt]
   have hA:nmsAt l i=if nameB l[i]=false then 2 else if memS (l.take i) l[i]=true then 5 else 0:=by rw[nmsAt,hg]
   have hn:=isName_c l[i] (Nat.le_trans (hl.s _ (List.getElem_mem hlt)) (by decide));have hc:=containsS_c (l.take i) l[i] (by simp;omega);have hR:=hR hlt;repeat first|simp[hlt,strs_at hlt]|refine sR ?_
   refine sD (hn _ _) ?_;simp;cases e1:nameB l[i]
   .rw[e1,if_pos rfl] at hA;rw[hA] at hR;have hR:=hR (by decide);repeat first|simp|refine sR ?_
    refine sC ?_;repeat first|simp|refine sR ?_
    refine sT (sH Hb Ht ?_);simp[hE,hR]
   .rw[e1,if_neg (by simp)] at hA;repeat first|simp|refine sR ?_
    refine sC ?_;repeat first|simp|refine sR ?_
    refine⟨by omega,?_⟩;rw[strs_take] at hc;refine sD (hc _ _) ?_;simp;cases e2:memS (l.take i) l[i]
    .rw[e2,if_neg (by simp)] at hA;repeat first|simp[hw]|refine sR ?_|refine sC ?_
     refine sE ?_;exact⟨i+1,⟨hlt,by simp only[firstE,hok,hA,↓reduceIte]⟩,by omega,wM (nr _) rfl (by simp[ToL,lk]) trivial⟩
    .rw[e2,if_pos rfl] at hA;rw[hA] at hR;have hR:=hR (by decide);repeat first|simp|refine sR ?_
     refine sC ?_;repeat first|simp|refine sR ?_
     refine sT (sH Hb Ht ?_);simp[hE,hR]
  .refine sX ?_;simp only[AU,↓reduceIte];repeat first|simp|refine sR ?_
   have:i=l.length:=by omega
   subst this;refine sT (sH Hb Ht ?_);simp[hE,hok]
abbrev At.av(a:At):AV:=.agg [Sb a.name,I a.lo,I a.hi,.d (strs a.names)]
abbrev NT.av(n:NT):AV:=.agg [Sb n.name,I n.par,B n.abs,.d (atts n.own)]
abbrev ET.av(e:ET):AV:=.agg [Sb e.name,I e.fr,I e.to,I e.ol,I e.oh,I e.il,I e.ih]
theorem any_takeG{α:Type}{p:α->Bool}{xs:List α}{i:Nat}(h:i<xs.length)(h1:∀x∈xs.take i,p x=false)(h2:p xs[i]=true):anyB p xs=true/\xs.findIdx p=i:=by
 refine⟨List.any_eq_true.2 ⟨_,List.getElem_mem h,h2⟩,?_⟩;rw[List.findIdx_eq h];refine⟨h2,fun j hj=>?_⟩;have:=h1 xs[j] (by
  rw[List.mem_take_iff_getElem];exact⟨j,by omega,rfl⟩)
 simpa using this
def stIA(xs:List At)(f:FuncId)(caps:List AV)(nb:Nat)(box:Bxs)(tok:Tks)(nt:Nat)(i:Nat):AS:=⟨tl [(0,.d (atts xs)),(1,.fn (.func f) caps),(7,I xs.length),(8,I i)],lb nb box [],tok,nt⟩
theorem indexFuncA_c(xs:List At)(f:FuncId)(caps:List AV)(p:At->Bool)(hx:xs.length<=1000000)(box:Bxs)(nb:Nat)(tok:Tks)(nt:Nat)(hc:∀c∈caps,OkIn (fun k=>box k≠none) (fun _=>True) c)(hf:∀x∈xs,∀box' nb',Ext box box'->ACalls prog f (x.av::caps) ⟨box',nb',tok,nt⟩ fun v m=>v=B (p x)/\m=⟨box',nb',tok,nt⟩):
  ACalls prog 292 [.d (atts xs),.fn (.func f) caps] ⟨box,nb,tok,nt⟩ fun v m=>v=I (if anyB p xs=true then (xs.findIdx p:Nat) else -1)/\m=⟨box,nb,tok,nt⟩:=by
 refine sI func292 ntmps292 fun Hb Ht=>?_
 repeat first|simp|refine sR ?_
 refine sN ?_;refine sL (stIA xs f caps nb box tok nt) (fun i=>i<=xs.length/\∀x∈xs.take i,p x=false) (fun i=>xs.length-i) 0 ⟨Nat.zero_le _,by simp⟩ (wM (nr _) rfl (by simp[ToL];exact .same (okFn hc Hb [] (by simp) rfl _)) trivial) ?_;rintro i S' ⟨hi,htk⟩ hS;simp only[stIA] at hS;subst hS;have hw:=sW (i:=i) (by omega);repeat first|simp|refine sR ?_|refine sC ?_
 refine⟨fun hlt=>?_,fun hge=>?_⟩
 .have hfx:=hf xs[i] (List.getElem_mem _);have hpx:p xs[i]=true->anyB p xs=true/\(xs.findIdx p=i):=fun he=>any_takeG hlt htk he
  have hmore:p xs[i]=false->∀x∈xs.take (i+1),p x=false:=fun he x hx=>by
   rw[List.take_succ_eq_append_getElem hlt] at hx;rcases List.mem_append.1 hx with hx|hx
   .exact htk x hx
   .simp at hx;rw[hx];exact he
  repeat first|simp[hlt]|refine sR ?_
  generalize xs[i]=x at *;refine Stop.of_b (hfx _ _ ((Ext.refl box).lb Hb [])) ?_;simp;cases he:p x
  .refine sC ?_;simp;repeat first|simp[hw]|refine sR ?_
   refine sE ?_;refine⟨i+1,⟨hlt,?_⟩,by omega,wM (nr _) rfl (by simp[ToL];exact .same (okFn hc Hb [] (by simp) rfl _)) trivial⟩;exact hmore he
  .obtain⟨h1,h2⟩:=hpx he;refine sC ?_;repeat first|simp|refine sR ?_
   refine sT (sH Hb Ht ?_);simp[h1,h2]
 .have hn:anyB p xs=false:=by
   rw[List.take_of_length_le hge] at htk;simpa[anyB] using htk
  refine sX ?_;simp only[AU,↓reduceIte];repeat first|simp|refine sR ?_
  refine sT (sH Hb Ht ?_);simp[hn]
theorem containsFuncA_c(xs:List At)(f:FuncId)(caps:List AV)(p:At->Bool)(hx:xs.length<=1000000)(box:Bxs)(nb:Nat)(tok:Tks)(nt:Nat)(hc:∀c∈caps,OkIn (fun k=>box k≠none) (fun _=>True) c)(hf:∀x∈xs,∀box' nb',Ext box box'->ACalls prog f (x.av::caps) ⟨box',nb',tok,nt⟩ fun v m=>v=B (p x)/\m=⟨box',nb',tok,nt⟩):
  ACalls prog 260 [.d (atts xs),.fn (.func f) caps] ⟨box,nb,tok,nt⟩ fun v m=>v=B (anyB p xs)/\m=⟨box,nb,tok,nt⟩:=by
 obtain⟨A,hany⟩:∃A,anyB p xs=A:=⟨_,rfl⟩
 have hi:=fun b nb' h1 h2=>indexFuncA_c xs f caps p hx b nb' tok nt h1 h2
 rw[hany];simp only[hany] at hi;refine sI func260 ntmps260 fun Hb Ht=>?_
 repeat first|simp|refine sR ?_
 refine Stop.of_b (hi (lb nb box []) _ (fun c h=>(hc c h).mono (fun k hk=>by rw[Hb];exact hk) fun _ h=>h) (fun x hx' box' nb' he=>hf x hx' box' nb' (by rw[Hb] at he;exact he))) ?_;simp;cases A
 .repeat first|simp|refine sR ?_
  refine sT (sH Hb Ht ?_);simp
 .have h0:(0:Int)<=(xs.findIdx p:Nat):=by omega
  repeat first|simp|refine sR ?_
  refine sT (sH Hb Ht ?_);simp[h0]
def stIN(xs:List NT)(f:FuncId)(caps:List AV)(nb:Nat)(box:Bxs)(tok:Tks)(nt:Nat)(i:Nat):AS:=⟨tl [(0,.d (nts xs)),(1,.fn (.func f) caps),(7,I xs.length),(8,I i)],lb nb box [],tok,nt⟩
theorem indexFuncN_c(xs:List NT)(f:FuncId)(caps:List AV)(p:NT->Bool)(hx:xs.length<=1000000)(box:Bxs)(nb:Nat)(tok:Tks)(nt:Nat)(hc:∀c∈caps,OkIn (fun k=>box k≠none) (fun _=>True) c)(hf:∀x∈xs,∀box' nb',Ext box box'->ACalls prog f (x.av::caps) ⟨box',nb',tok,nt⟩ fun v m=>v=B (p x)/\m=⟨box',nb',tok,nt⟩):
  ACalls prog 234 [.d (nts xs),.fn (.func f) caps] ⟨box,nb,tok,nt⟩ fun v m=>v=I (if anyB p xs=true then (xs.findIdx p:Nat) else -1)/\m=⟨box,nb,tok,nt⟩:=by
 refine sI func234 ntmps234 fun Hb Ht=>?_
 repeat first|simp|refine sR ?_
 refine sN ?_;refine sL (stIN xs f caps nb box tok nt) (fun i=>i<=xs.length/\∀x∈xs.take i,p x=false) (fun i=>xs.length-i) 0 ⟨Nat.zero_le _,by simp⟩ (wM (nr _) rfl (by simp[ToL];exact .same (okFn hc Hb [] (by simp) rfl _)) trivial) ?_;rintro i S' ⟨hi,htk⟩ hS;simp only[stIN] at hS;subst hS;have hw:=sW (i:=i) (by omega);repeat first|simp|refine sR ?_|refine sC ?_
 refine⟨fun hlt=>?_,fun hge=>?_⟩
 .have hfx:=hf xs[i] (List.getElem_mem _);have hpx:p xs[i]=true->anyB p xs=true/\(xs.findIdx p=i):=fun he=>any_takeG hlt htk he
  have hmore:p xs[i]=false->∀x∈xs.take (i+1),p x=false:=fun he x hx=>by
   rw[List.take_succ_eq_append_getElem hlt] at hx;rcases List.mem_append.1 hx with hx|hx
   .exact htk x hx
   .simp at hx;rw[hx];exact he
  repeat first|simp[hlt]|refine sR ?_
  generalize xs[i]=x at *;refine Stop.of_b (hfx _ _ ((Ext.refl box).lb Hb [])) ?_;simp;cases he:p x
  .refine sC ?_;simp;repeat first|simp[hw]|refine sR ?_
   refine sE ?_;refine⟨i+1,⟨hlt,?_⟩,by omega,wM (nr _) rfl (by simp[ToL];exact .same (okFn hc Hb [] (by simp) rfl _)) trivial⟩;exact hmore he
  .obtain⟨h1,h2⟩:=hpx he;refine sC ?_;repeat first|simp|refine sR ?_
   refine sT (sH Hb Ht ?_);simp[h1,h2]
 .have hn:anyB p xs=false:=by
   rw[List.take_of_length_le hge] at htk;simpa[anyB] using htk
  refine sX ?_;simp only[AU,↓reduceIte];repeat first|simp|refine sR ?_
  refine sT (sH Hb Ht ?_);simp[hn]
theorem containsFuncN_c(xs:List NT)(f:FuncId)(caps:List AV)(p:NT->Bool)(hx:xs.length<=1000000)(box:Bxs)(nb:Nat)(tok:Tks)(nt:Nat)(hc:∀c∈caps,OkIn (fun k=>box k≠none) (fun _=>True) c)(hf:∀x∈xs,∀box' nb',Ext box box'->ACalls prog f (x.av::caps) ⟨box',nb',tok,nt⟩ fun v m=>v=B (p x)/\m=⟨box',nb',tok,nt⟩):
  ACalls prog 169 [.d (nts xs),.fn (.func f) caps] ⟨box,nb,tok,nt⟩ fun v m=>v=B (anyB p xs)/\m=⟨box,nb,tok,nt⟩:=by
 obtain⟨A,hany⟩:∃A,anyB p xs=A:=⟨_,rfl⟩
 have hi:=fun b nb' h1 h2=>indexFuncN_c xs f caps p hx b nb' tok nt h1 h2
 rw[hany];simp only[hany] at hi;refine sI func169 ntmps169 fun Hb Ht=>?_
 repeat first|simp|refine sR ?_
 refine Stop.of_b (hi (lb nb box []) _ (fun c h=>(hc c h).mono (fun k hk=>by rw[Hb];exact hk) fun _ h=>h) (fun x hx' box' nb' he=>hf x hx' box' nb' (by rw[Hb] at he;exact he))) ?_;simp;cases A
 .repeat first|simp|refine sR ?_
  refine sT (sH Hb Ht ?_);simp
 .have h0:(0:Int)<=(xs.findIdx p:Nat):=by omega
  repeat first|simp|refine sR ?_
  refine sT (sH Hb Ht ?_);simp[h0]
def stIE2(xs:List ET)(f:FuncId)(caps:List AV)(nb:Nat)(box:Bxs)(tok:Tks)(nt:Nat)(i:Nat):AS:=⟨tl [(0,.d (ets xs)),(1,.fn (.func f) caps),(7,I xs.length),(8,I i)],lb nb box [],tok,nt⟩
theorem indexFuncE2_c(xs:List ET)(f:FuncId)(caps:List AV)(p:ET->Bool)(hx:xs.length<=1000000)(box:Bxs)(nb:Nat)(tok:Tks)(nt:Nat)(hc:∀c∈caps,OkIn (fun k=>box k≠none) (fun _=>True) c)(hf:∀x∈xs,∀box' nb',Ext box box'->ACalls prog f (x.av::caps) ⟨box',nb',tok,nt⟩ fun v m=>v=B (p x)/\m=⟨box',nb',tok,nt⟩):
  ACalls prog 263 [.d (ets xs),.fn (.func f) caps] ⟨box,nb,tok,nt⟩ fun v m=>v=I (if anyB p xs=true then (xs.findIdx p:Nat) else -1)/\m=⟨box,nb,tok,nt⟩:=by
 refine sI func263 ntmps263 fun Hb Ht=>?_
 repeat first|simp|refine sR ?_
 refine sN ?_;refine sL (stIE2 xs f caps nb box tok nt) (fun i=>i<=xs.length/\∀x∈xs.take i,p x=false) (fun i=>xs.length-i) 0 ⟨Nat.zero_le _,by simp⟩ (wM (nr _) rfl (by simp[ToL];exact .same (okFn hc Hb [] (by simp) rfl _)) trivial) ?_;rintro i S' ⟨hi,htk⟩ hS;simp only[stIE2] at hS;subst hS;have hw:=sW (i:=i) (by omega);repeat first|simp|refine sR ?_|refine sC ?_
 refine⟨fun hlt=>?_,fun hge=>?_⟩
 .have hfx:=hf xs[i] (List.getElem_mem _);have hpx:p xs[i]=true->anyB p xs=true/\(xs.findIdx p=i):=fun he=>any_takeG hlt htk he
  have hmore:p xs[i]=false->∀x∈xs.take (i+1),p x=false:=fun he x hx=>by
   rw[List.take_succ_eq_append_getElem hlt] at hx;rcases List.mem_append.1 hx with hx|hx
   .exact htk x hx
   .simp at hx;rw[hx];exact he
  repeat first|simp[hlt]|refine sR ?_
  generalize xs[i]=x at *;refine Stop.of_b (hfx _ _ ((Ext.refl box).lb Hb [])) ?_;simp;cases he:p x
  .refine sC ?_;simp;repeat first|simp[hw]|refine sR ?_
   refine sE ?_;refine⟨i+1,⟨hlt,?_⟩,by omega,wM (nr _) rfl (by simp[ToL];exact .same (okFn hc Hb [] (by simp) rfl _)) trivial⟩;exact hmore he
  .obtain⟨h1,h2⟩:=hpx he;refine sC ?_;repeat first|simp|refine sR ?_
   refine sT (sH Hb Ht ?_);simp[h1,h2]
 .have hn:anyB p xs=false:=by
   rw[List.take_of_length_le hge] at htk;simpa[anyB] using htk
  refine sX ?_;simp only[AU,↓reduceIte];repeat first|simp|refine sR ?_
  refine sT (sH Hb Ht ?_);simp[hn]
theorem containsFuncE2_c(xs:List ET)(f:FuncId)(caps:List AV)(p:ET->Bool)(hx:xs.length<=1000000)(box:Bxs)(nb:Nat)(tok:Tks)(nt:Nat)(hc:∀c∈caps,OkIn (fun k=>box k≠none) (fun _=>True) c)(hf:∀x∈xs,∀box' nb',Ext box box'->ACalls prog f (x.av::caps) ⟨box',nb',tok,nt⟩ fun v m=>v=B (p x)/\m=⟨box',nb',tok,nt⟩):
  ACalls prog 215 [.d (ets xs),.fn (.func f) caps] ⟨box,nb,tok,nt⟩ fun v m=>v=B (anyB p xs)/\m=⟨box,nb,tok,nt⟩:=by
 obtain⟨A,hany⟩:∃A,anyB p xs=A:=⟨_,rfl⟩
 have hi:=fun b nb' h1 h2=>indexFuncE2_c xs f caps p hx b nb' tok nt h1 h2
 rw[hany];simp only[hany] at hi;refine sI func215 ntmps215 fun Hb Ht=>?_
 repeat first|simp|refine sR ?_
 refine Stop.of_b (hi (lb nb box []) _ (fun c h=>(hc c h).mono (fun k hk=>by rw[Hb];exact hk) fun _ h=>h) (fun x hx' box' nb' he=>hf x hx' box' nb' (by rw[Hb] at he;exact he))) ?_;simp;cases A
 .repeat first|simp|refine sR ?_
  refine sT (sH Hb Ht ?_);simp
 .have h0:(0:Int)<=(xs.findIdx p:Nat):=by omega
  repeat first|simp|refine sR ?_
  refine sT (sH Hb Ht ?_);simp[h0]
abbrev At.row(a:At):List AV:=[Sb a.name,I a.lo,I a.hi,.d (strs a.names)]
theorem attr1_c(x y:At)(box:Bxs)(nb k:Nat)(tok:Tks)(nt:Nat)(h1:box k=some [x.row]):
  ACalls prog 261 [y.av,.ptr k 0 0] ⟨box,nb,tok,nt⟩ fun v m=>v=B (decide (y.name=x.name))/\m=⟨box,nb,tok,nt⟩:=by
 refine sI func261 ntmps261 fun Hb Ht=>?_
 have k1n:=key_lt Hb h1;rw[<-seq_dec];repeat first|simp[lO k1n,h1]|refine sR ?_
 refine sT (sH Hb Ht ?_);simp
def rngA(x:At):Bool:=if x.names.length=0 then decide (-1000000<=x.lo/\x.lo<=x.hi/\x.hi<=1000000) else decide (x.lo=0/\x.hi=(x.names.length:Int)-1)
def attE(x:At)(before:List At):Int:=if nameB x.name=false then 2 else if anyB (fun y=>decide (y.name=x.name)) before=true then 5 else if nmsE x.names≠0 then nmsE x.names else if rngA x=true then 0 else 6
structure At.Fit (a:At):Prop where
 n:a.name.size<=1000000000000
 l:NmFit a.names
theorem attribute_c(x:At)(before:List At)(hx:x.Fit)(hb:before.length<=1000000):DC 213 [x.av,.d (atts before)] (I (attE x before)):=by
 intro tok nt box nb;have h1:=isName_c x.name (Nat.le_trans hx.n (by decide));have h3:=names_c x.names hx.l;cases e1:nameB x.name
 .rw[e1] at h1;rw[show attE x before=2 by rw[attE,if_pos e1]];refine sI func213 ntmps213 fun Hb Ht=>?_
  repeat first|simp|refine sR ?_
  refine sD (h1 _ _) ?_;repeat first|simp|refine sR ?_
  refine sC ?_;repeat first|simp|refine sR ?_
  refine sT (sH Hb Ht ?_);simp
 .rw[e1] at h1;have hA:attE x before=if anyB (fun y=>decide (y.name=x.name)) before=true then 5 else if nmsE x.names≠0 then nmsE x.names else if rngA x=true then 0 else 6:=by rw[attE,if_neg (by simp[e1])]
  obtain⟨N,hN⟩:∃N,attE x before=N:=⟨_,rfl⟩
  rw[hN] at hA ⊢;obtain⟨p,hp⟩:∃p:At->Bool,(fun y=>decide (y.name=x.name))=p:=⟨_,rfl⟩
  have h2:=fun y box nb k h=>attr1_c x y box nb k tok nt h
  have hpp:∀y:At,decide (y.name=x.name)=p y:=fun y=>by rw[<-hp]
  simp only[hpp] at h2;rw[hp] at hA;have hcap:∀c∈[AV.ptr (nb+2) 0 0],OkIn (fun k=>(lb nb box [(2,[x.row])]) k≠none) (fun _=>True) c:=by
   intro c hc;rw[List.mem_singleton.1 hc];simp[lb_at]
  refine sI func213 ntmps213 fun Hb Ht=>?_
  repeat first|simp|refine sR ?_
  refine sD (h1 _ _) ?_;repeat first|simp|refine sR ?_
  refine sC ?_;repeat first|simp|refine sR ?_
  refine Stop.of_b (containsFuncA_c before 261 [.ptr (nb+2) 0 0] p hb _ _ _ _ hcap (fun y hy box' nb' he=>h2 y box' nb' _ (he _ _ (by simp[lb_at])))) ?_;repeat first|simp|refine sR ?_
  cases e2:anyB p before
  .rw[e2,if_neg (by simp)] at hA;refine sC ?_;repeat first|simp|refine sR ?_
   refine sD (h3 _ _) ?_;repeat first|simp|refine sR ?_
   by_cases e3:nmsE x.names=0
   .rw[if_neg (by simp[e3])] at hA;simp only[e3];refine sC ?_;simp;by_cases c1 : -1000000<=x.lo
    .by_cases c2:x.lo<=x.hi
     .by_cases c3:x.hi<=1000000
      .repeat first|simp[c1,c2,c3]|refine sR ?_
       by_cases z:x.names.length=0
       .have z2:¬0<x.names.length:=by omega
        have hr:rngA x=true:=by rw[rngA,if_pos z];simp only[decide_eq_true_eq,decide_eq_false_iff_not];omega
        rw[hr] at hA;refine sC ?_;simp[z2];repeat first|simp|refine sR ?_
        refine sC ?_;repeat first|simp|refine sR ?_
        refine sT (sH Hb Ht ?_);simp[hA]
       .have z2:0<x.names.length:=by omega
        have hr:rngA x=decide (x.lo=0/\x.hi=(x.names.length:Int)-1):=if_neg z
        rw[hr] at hA;have hln:=hx.l.n;have w:IntKind.i64.wrap ((x.names.length:Int)-1)=(x.names.length:Int)-1:=wrap_in (by omega) (by omega)
        by_cases l0:x.lo=0
        .have b0:(x.lo==0)=true:=by simp[l0]
         by_cases h0:x.hi=(x.names.length:Int)-1
         .have b1:(x.hi==(x.names.length:Int)-1)=true:=by simp[h0]
          refine sC ?_;simp[z2];repeat first|simp[w,b0,b1]|refine sR ?_
          refine sC ?_;repeat first|simp|refine sR ?_
          refine sT (sH Hb Ht ?_);simp[hA,l0,h0]
         .have b1:(x.hi==(x.names.length:Int)-1)=false:=by simp[h0]
          refine sC ?_;simp[z2];repeat first|simp[w,b0,b1]|refine sR ?_
          refine sC ?_;repeat first|simp|refine sR ?_
          refine sT (sH Hb Ht ?_);simp[hA,l0,h0]
        .have b0:(x.lo==0)=false:=by simp[l0]
         refine sC ?_;simp[z2];repeat first|simp[w,b0]|refine sR ?_
         refine sC ?_;repeat first|simp|refine sR ?_
         refine sT (sH Hb Ht ?_);simp[hA,l0]
      .repeat first|simp[c1,c2,c3]|refine sR ?_
       by_cases z:x.names.length=0
       .have z2:¬0<x.names.length:=by omega
        have hr:rngA x=false:=by rw[rngA,if_pos z];simp only[decide_eq_true_eq,decide_eq_false_iff_not];omega
        rw[hr] at hA;refine sC ?_;simp[z2];repeat first|simp|refine sR ?_
        refine sC ?_;repeat first|simp|refine sR ?_
        refine sT (sH Hb Ht ?_);simp[hA]
       .have z2:0<x.names.length:=by omega
        have hr:rngA x=decide (x.lo=0/\x.hi=(x.names.length:Int)-1):=if_neg z
        rw[hr] at hA;have hln:=hx.l.n;have w:IntKind.i64.wrap ((x.names.length:Int)-1)=(x.names.length:Int)-1:=wrap_in (by omega) (by omega)
        by_cases l0:x.lo=0
        .have b0:(x.lo==0)=true:=by simp[l0]
         by_cases h0:x.hi=(x.names.length:Int)-1
         .have b1:(x.hi==(x.names.length:Int)-1)=true:=by simp[h0]
          refine sC ?_;simp[z2];repeat first|simp[w,b0,b1]|refine sR ?_
          refine sC ?_;repeat first|simp|refine sR ?_
          refine sT (sH Hb Ht ?_);simp[hA,l0,h0]
         .have b1:(x.hi==(x.names.length:Int)-1)=false:=by simp[h0]
          refine sC ?_;simp[z2];repeat first|simp[w,b0,b1]|refine sR ?_
          refine sC ?_;repeat first|simp|refine sR ?_
          refine sT (sH Hb Ht ?_);simp[hA,l0,h0]
        .have b0:(x.lo==0)=false:=by simp[l0]
         refine sC ?_;simp[z2];repeat first|simp[w,b0]|refine sR ?_
         refine sC ?_;repeat first|simp|refine sR ?_
         refine sT (sH Hb Ht ?_);simp[hA,l0]
     .repeat first|simp[c1,c2]|refine sR ?_
      by_cases z:x.names.length=0
      .have z2:¬0<x.names.length:=by omega
       have hr:rngA x=false:=by rw[rngA,if_pos z];simp only[decide_eq_true_eq,decide_eq_false_iff_not];omega
       rw[hr] at hA;refine sC ?_;simp[z2];repeat first|simp|refine sR ?_
       refine sC ?_;repeat first|simp|refine sR ?_
       refine sT (sH Hb Ht ?_);simp[hA]
      .have z2:0<x.names.length:=by omega
       have hr:rngA x=decide (x.lo=0/\x.hi=(x.names.length:Int)-1):=if_neg z
       rw[hr] at hA;have hln:=hx.l.n;have w:IntKind.i64.wrap ((x.names.length:Int)-1)=(x.names.length:Int)-1:=wrap_in (by omega) (by omega)
       by_cases l0:x.lo=0
       .have b0:(x.lo==0)=true:=by simp[l0]
        by_cases h0:x.hi=(x.names.length:Int)-1
        .have b1:(x.hi==(x.names.length:Int)-1)=true:=by simp[h0]
         refine sC ?_;simp[z2];repeat first|simp[w,b0,b1]|refine sR ?_
         refine sC ?_;repeat first|simp|refine sR ?_
         refine sT (sH Hb Ht ?_);simp[hA,l0,h0]
        .have b1:(x.hi==(x.names.length:Int)-1)=false:=by simp[h0]
         refine sC ?_;simp[z2];repeat first|simp[w,b0,b1]|refine sR ?_
         refine sC ?_;repeat first|simp|refine sR ?_
         refine sT (sH Hb Ht ?_);simp[hA,l0,h0]
       .have b0:(x.lo==0)=false:=by simp[l0]
        refine sC ?_;simp[z2];repeat first|simp[w,b0]|refine sR ?_
        refine sC ?_;repeat first|simp|refine sR ?_
        refine sT (sH Hb Ht ?_);simp[hA,l0]
    .repeat first|simp[c1]|refine sR ?_
     by_cases z:x.names.length=0
     .have z2:¬0<x.names.length:=by omega
      have hr:rngA x=false:=by rw[rngA,if_pos z];simp only[decide_eq_true_eq,decide_eq_false_iff_not];omega
      rw[hr] at hA;refine sC ?_;simp[z2];repeat first|simp|refine sR ?_
      refine sC ?_;repeat first|simp|refine sR ?_
      refine sT (sH Hb Ht ?_);simp[hA]
     .have z2:0<x.names.length:=by omega
      have hr:rngA x=decide (x.lo=0/\x.hi=(x.names.length:Int)-1):=if_neg z
      rw[hr] at hA;have hln:=hx.l.n;have w:IntKind.i64.wrap ((x.names.length:Int)-1)=(x.names.length:Int)-1:=wrap_in (by omega) (by omega)
      by_cases l0:x.lo=0
      .have b0:(x.lo==0)=true:=by simp[l0]
       by_cases h0:x.hi=(x.names.length:Int)-1
       .have b1:(x.hi==(x.names.length:Int)-1)=true:=by simp[h0]
        refine sC ?_;simp[z2];repeat first|simp[w,b0,b1]|refine sR ?_
        refine sC ?_;repeat first|simp|refine sR ?_
        refine sT (sH Hb Ht ?_);simp[hA,l0,h0]
       .have b1:(x.hi==(x.names.length:Int)-1)=false:=by simp[h0]
        refine sC ?_;simp[z2];repeat first|simp[w,b0,b1]|refine sR ?_
        refine sC ?_;repeat first|simp|refine sR ?_
        refine sT (sH Hb Ht ?_);simp[hA,l0,h0]
      .have b0:(x.lo==0)=false:=by simp[l0]
       refine sC ?_;simp[z2];repeat first|simp[w,b0]|refine sR ?_
       refine sC ?_;repeat first|simp|refine sR ?_
       refine sT (sH Hb Ht ?_);simp[hA,l0]
   .rw[if_pos e3] at hA;have b3:(nmsE x.names != 0)=true:=by simp[e3]
    simp only[b3];refine sC ?_;repeat first|simp|refine sR ?_
    refine sT (sH Hb Ht ?_);simp[hA]
  .rw[e2,if_pos rfl] at hA;refine sC ?_;repeat first|simp|refine sR ?_
   refine sT (sH Hb Ht ?_);simp[hA]
instance:Inhabited NT:=⟨⟨eB,0,false,[]⟩⟩
def Ty.nd(t:Ty)(i:Nat):NT:=t.nodes.getD i default
def atsL(t:Ty)(i:Nat):List At:=if h:0<=(t.nd i).par/\(t.nd i).par.toNat<i then atsL t (t.nd i).par.toNat++(t.nd i).own else (t.nd i).own
termination_by i
decreasing_by exact h.2
theorem atsL_up{t:Ty}{i:Nat}(h:0<=(t.nd i).par)(h2:(t.nd i).par.toNat<i):atsL t i=atsL t (t.nd i).par.toNat++(t.nd i).own:=by rw[atsL,dif_pos ⟨h,h2⟩]
theorem atsL_top{t:Ty}{i:Nat}(h:¬0<=(t.nd i).par):atsL t i=(t.nd i).own:=by rw[atsL,dif_neg fun h2=>h h2.1]
theorem atsL_len{t:Ty}{M:Nat}(hM:∀i,(t.nd i).own.length<=M):∀n i,i<n->(atsL t i).length<=(i+1)*M
 | 0,i,hi=>absurd hi (Nat.not_lt_zero _)
 | n+1,i,hi=>by
  have hm:=hM i;by_cases h:0<=(t.nd i).par/\(t.nd i).par.toNat<i
  .have ih:=atsL_len hM n (t.nd i).par.toNat (by omega);rw[atsL_up h.1 h.2,List.length_append];have:((t.nd i).par.toNat+1)*M<=i*M:=Nat.mul_le_mul_right _ (by omega)
   rw[Nat.add_mul,Nat.one_mul];omega
  .rw[atsL,dif_neg h];have:M<=(i+1)*M:=Nat.le_mul_of_pos_left _ (by omega)
   omega
structure Ty.Fit (t:Ty):Prop where
 n:t.nodes.length<=1000
 e:t.edges.length<=1000
 nn:∀x∈t.nodes,x.name.size<=1000000000000
 en:∀x∈t.edges,x.name.size<=1000000000000
 a:∀x∈t.nodes,x.own.length<=1000/\∀y∈x.own,y.Fit
theorem nd_at{t:Ty}{i:Nat}(h:i<t.nodes.length):t.nd i=t.nodes[i]:=by simp[Ty.nd,h]
theorem attrs_c(t:Ty)(ht:t.Fit)(hM:∀i,(t.nd i).own.length<=1000):∀(n i:Nat),i<n->i<t.nodes.length->(∀j,j<=i->(t.nd j).par<j)->∀(tok:Tks) (nt:Nat),∃tok' nt' o,((∀q,tok q=true->q<nt)->TK tok nt tok' nt' [o]) /\
  DCall prog 212 [t.av,I i] tok nt (.osl 4 ((atsL t i).map At.cells) o) tok' nt'
 | 0,i,hi,_,_,_,_=>absurd hi (Nat.not_lt_zero _)
 | n+1,i,hi,hlt,hp,tok,nt=>by
  have hnd:=nd_at hlt;by_cases h0:0<=(t.nd i).par
  .have hpi:=hp i (nr _);obtain⟨tok1,nt1,o1,hk,hc⟩:=attrs_c t ht hM n (t.nd i).par.toNat (by omega) (by omega) (fun j hj=>hp j (by omega)) tok nt;have hL:=atsL_up h0 (by omega);have hl1:=atsL_len hM (i+1) (t.nd i).par.toNat (by omega);have hl2:=hM i;have hb:((t.nd i).par.toNat+1)*1000<=1000*1000:=Nat.mul_le_mul_right _ (by have:=ht.n;omega)
   refine⟨_,_,.tok nt1,fun h=>(hk h).app,?_⟩;rw[hL];rw[Int.toNat_of_nonneg h0] at hc;generalize atsL t (t.nd i).par.toNat=Q at *;rw[hnd] at h0 hc hl2 ⊢;intro box nb;have hc:=hc;refine sI func212 ntmps212 fun Hb Ht=>?_
   have hkk:=hk Ht;repeat first|simp[hlt]|refine sR ?_
   refine sC ?_;simp[h0];repeat first|simp|refine sR ?_
   refine sD (hc) ?_;simp;repeat first|simp[hlt]|refine sR ?_
   refine⟨⟨by omega,hkk.live⟩,?_⟩;refine sN ?_;refine AL.ret ?_;try simp only[AU]
   refine⟨by simp,Fin.own (by simp[resAs,resA];rfl) Hb rfl hkk.app.le ?_⟩;simp
  .have hL:=atsL_top h0;have hl2:=hM i;refine⟨_,_,.tok nt,fun h=>(TK.start h).full.app,?_⟩;rw[hL];rw[hnd] at h0 hl2 ⊢;intro box nb;refine sI func212 ntmps212 fun Hb Ht=>?_
   have hkk:=(TK.start Ht).full;repeat first|simp[hlt]|refine sR ?_
   refine sC ?_;simp[h0];repeat first|simp[hlt]|refine sR ?_
   refine⟨by omega,?_⟩;refine sN ?_;refine AL.ret ?_;try simp only[AU]
   refine⟨by simp,Fin.own (by simp[resAs,resA];rfl) Hb rfl (by simp) ?_⟩;simp
def bndB(lo hi:Int):Bool:=decide (0<=lo/\lo<=40)&&(hi == -1||decide (lo<=hi/\hi<=40))
theorem bounded_c(lo hi:Int):DC 217 [I lo,I hi] (B (bndB lo hi)):=by
 intro tok nt box nb;by_cases h1:0<=lo
 .by_cases h2:lo<=40
  .cases h3:(hi == -1)
   .by_cases h4:lo<=hi
    .by_cases h5:hi<=40
     .refine sI func217 ntmps217 fun Hb Ht=>?_
      repeat first|simp[h1,h2,h3,h4,h5]|refine sR ?_
      refine sT (sH Hb Ht ?_);simp[bndB,h1,h2,h3,h4,h5]
     .refine sI func217 ntmps217 fun Hb Ht=>?_
      repeat first|simp[h1,h2,h3,h4,h5]|refine sR ?_
      refine sT (sH Hb Ht ?_);simp[bndB,h1,h2,h3,h4,h5]
    .refine sI func217 ntmps217 fun Hb Ht=>?_
     repeat first|simp[h1,h2,h3,h4]|refine sR ?_
     refine sT (sH Hb Ht ?_);simp[bndB,h1,h2,h3,h4]
   .refine sI func217 ntmps217 fun Hb Ht=>?_
    repeat first|simp[h1,h2,h3]|refine sR ?_
    refine sT (sH Hb Ht ?_);simp[bndB,h1,h2,h3]
  .refine sI func217 ntmps217 fun Hb Ht=>?_
   repeat first|simp[h1,h2]|refine sR ?_
   refine sT (sH Hb Ht ?_);simp[bndB,h1,h2]
 .refine sI func217 ntmps217 fun Hb Ht=>?_
  repeat first|simp[h1]|refine sR ?_
  refine sT (sH Hb Ht ?_);simp[bndB,h1]
abbrev NT.row(n:NT):List AV:=[Sb n.name,I n.par,B n.abs,.d (atts n.own)]
abbrev ET.row(e:ET):List AV:=[Sb e.name,I e.fr,I e.to,I e.ol,I e.oh,I e.il,I e.ih]
theorem node1_c(x y:NT)(box:Bxs)(nb k:Nat)(tok:Tks)(nt:Nat)(h1:box k=some [x.row]):
  ACalls prog 211 [y.av,.ptr k 0 0] ⟨box,nb,tok,nt⟩ fun v m=>v=B (decide (y.name=x.name))/\m=⟨box,nb,tok,nt⟩:=by
 refine sI func211 ntmps211 fun Hb Ht=>?_
 have k1n:=key_lt Hb h1;rw[<-seq_dec];repeat first|simp[lO k1n,h1]|refine sR ?_
 refine sT (sH Hb Ht ?_);simp
theorem edge2_c(x y:ET)(box:Bxs)(nb k:Nat)(tok:Tks)(nt:Nat)(h1:box k=some [x.row]):
  ACalls prog 216 [y.av,.ptr k 0 0] ⟨box,nb,tok,nt⟩ fun v m=>v=B (decide (y.name=x.name))/\m=⟨box,nb,tok,nt⟩:=by
 refine sI func216 ntmps216 fun Hb Ht=>?_
 have k1n:=key_lt Hb h1;rw[<-seq_dec];repeat first|simp[lO k1n,h1]|refine sR ?_
 refine sT (sH Hb Ht ?_);simp
def insB(t:Ty)(n:Int):Bool:=decide (0<=n/\n<t.nodes.length)
theorem edge1_c(t:Ty)(n:Int)(box:Bxs)(nb k:Nat)(tok:Tks)(nt:Nat)(h1:box k=some [[.d (nts t.nodes),.d (ets t.edges)]]):
  ACalls prog 214 [I n,.ptr k 0 0] ⟨box,nb,tok,nt⟩ fun v m=>v=B (insB t n)/\m=⟨box,nb,tok,nt⟩:=by
 by_cases h0:0<=n
 .refine sI func214 ntmps214 fun Hb Ht=>?_
  have k1n:=key_lt Hb h1;repeat first|simp[lO k1n,h1,h0]|refine sR ?_
  refine sT (sH Hb Ht ?_);simp[insB,h0]
 .refine sI func214 ntmps214 fun Hb Ht=>?_
  have k1n:=key_lt Hb h1;repeat first|simp[lO k1n,h1,h0]|refine sR ?_
  refine sT (sH Hb Ht ?_);simp[insB,h0]
def atAt(L:List At)(k:Nat):Int:=attE (L.getD k ⟨eB,0,0,[]⟩) (L.take k)
def ownAt(L:List At)(M k:Nat):Int:=if k+M<L.length then 0 else atAt L k
def ownE(L:List At)(M:Nat):Int:=firstE (ownAt L M) L.length
theorem ownAt_zero(L:List At)(M:Nat):∀k,k+M<=L.length->firstE (ownAt L M) k=0
 | 0,_=>rfl
 | k+1,h=>by
  simp only[firstE,ownAt_zero L M k (by omega),↓reduceIte,ownAt];rw[if_pos (by omega)]
theorem atsL_own{t:Ty}{i:Nat}:(t.nd i).own.length<=(atsL t i).length:=by
 rw[atsL];split
 .rw[List.length_append];omega
 .exact nr _
theorem atsL_fit{t:Ty}(ht:t.Fit):∀n i,i<n->∀x∈atsL t i,x.Fit
 | 0,i,hi=>absurd hi (Nat.not_lt_zero _)
 | n+1,i,hi=>by
  have hown:∀x∈(t.nd i).own,x.Fit:=by
   by_cases h:i<t.nodes.length
   .rw[nd_at h];exact(ht.a _ (List.getElem_mem h)).2
   .intro x hx;simp only[Ty.nd,List.getD_eq_getElem?_getD,List.getElem?_eq_none (Nat.le_of_not_lt h),Option.getD_none] at hx;cases hx
  rw[atsL];split
  .rename_i h;intro x hx;rcases List.mem_append.1 hx with hx|hx
   .exact atsL_fit ht n _ (by omega) x hx
   .exact hown x hx
  .exact hown
theorem at_getD{L:List At}{k:Nat}(h:k<L.length):atAt L k=attE L[k] (L.take k):=by simp[atAt,h]
theorem atts_take(L:List At)(k:Nat):atts (L.take k)=.sl 4 (List.take k (L.map At.cells)):=by rw[atts,List.map_take]
theorem atts_at{L:List At}{k:Nat}(h:k<L.length):(L.map At.cells)[k]?=some L[k].cells:=by simp[h]
def nodE(t:Ty)(i:Nat):Int :=
 if nameB (t.nd i).name=false then 2 else if anyB (fun y=>decide (y.name=(t.nd i).name)) (t.nodes.take i)=true then 5
 else if (t.nd i).par < -1∨(i:Int)<=(t.nd i).par then 6 else if 4<(t.nd i).own.length then 3
 else if 8<(atsL t i).length then 3 else ownE (atsL t i) (t.nd i).own.length
def stNo(L:List At)(nb:Nat)(box:Bxs)(tok:Tks)(nt:Nat)(k:Nat):AS:=⟨tl [(7,I k),(6,.d (atts L))],lb nb box [],tok,nt⟩
theorem node_c(t:Ty)(ht:t.Fit)(hM:∀i,(t.nd i).own.length<=1000)(i:Nat)(hi:i<t.nodes.length)(hp:∀j,j<i->(t.nd j).par<j):DC 133 [t.av,I i] (I (nodE t i)):=by
 intro tok nt box nb;have hnd:=nd_at hi;have hmem:=List.getElem_mem hi;have h1:=isName_c (t.nd i).name (by rw[hnd];exact Nat.le_trans (ht.nn _ hmem) (by decide));obtain⟨N,hN⟩:∃N,nodE t i=N:=⟨_,rfl⟩
 rw[hN];unfold nodE at hN;rw[hnd] at h1 hN;cases e1:nameB t.nodes[i].name
 .rw[e1] at h1 hN;rw[if_pos rfl] at hN;refine sI func133 ntmps133 fun Hb Ht=>?_
  repeat first|simp[hi]|refine sR ?_
  refine sD (h1 _ _) ?_;repeat first|simp|refine sR ?_
  refine sC ?_;repeat first|simp|refine sR ?_
  refine sT (sH Hb Ht ?_);simp[<-hN]
 .rw[e1] at h1 hN;rw[if_neg (by simp)] at hN;obtain⟨p,hpp⟩:∃p:NT->Bool,(fun y=>decide (y.name=t.nodes[i].name))=p:=⟨_,rfl⟩
  have h2:=fun y box nb k (hbk:box k=some [(t.nodes[i]'hi).row])=>node1_c (t.nodes[i]'hi) y box nb k tok nt hbk
  have hpy:∀y:NT,decide (y.name=t.nodes[i].name)=p y:=fun y=>by rw[<-hpp]
  simp only[hpy] at h2;rw[hpp] at hN;refine sI func133 ntmps133 fun Hb Ht=>?_
  repeat first|simp[hi]|refine sR ?_
  refine sD (h1 _ _) ?_;repeat first|simp[hi]|refine sR ?_|refine sC ?_
  refine⟨by omega,?_⟩;have hcf:=fun (b:Bxs) nb' h3 h4=>containsFuncN_c (t.nodes.take i) 211 [.ptr (nb+5) 0 0] p (by simp;have:=ht.n;omega) b nb' tok nt h3 h4
  rw[show nts (t.nodes.take i)=.sl 4 (List.take i (t.nodes.map NT.cells)) by rw[nts,List.map_take]] at hcf;refine Stop.of_b (hcf _ _ (fun c hc=>by rw[List.mem_singleton.1 hc];simp[lb_at]) (fun y hy box' nb' he=>h2 y box' nb' _ (he _ _ (by simp[lb_at])))) ?_;simp;cases e2:anyB p (t.nodes.take i)
  .rw[e2,if_neg (by simp)] at hN;refine sC ?_;simp;by_cases e3:t.nodes[i].par < -1
   .rw[if_pos (.inl e3)] at hN;repeat first|simp[e3]|refine sR ?_
    refine sC ?_;repeat first|simp|refine sR ?_
    refine sT (sH Hb Ht ?_);simp[<-hN]
   .by_cases e4:(i:Int)<=t.nodes[i].par
    .rw[if_pos (.inr e4)] at hN;repeat first|simp[e3,e4]|refine sR ?_
     refine sC ?_;repeat first|simp|refine sR ?_
     refine sT (sH Hb Ht ?_);simp[<-hN]
    .rw[if_neg (by omega)] at hN;repeat first|simp[e3,e4]|refine sR ?_
     refine sC ?_;repeat first|simp|refine sR ?_
     by_cases e5:4<t.nodes[i].own.length
     .have e5':(4:Int)<t.nodes[i].own.length:=by omega
      rw[if_pos e5] at hN;refine sC ?_;simp[e5,e5'];repeat first|simp|refine sR ?_
      refine sT (sH Hb Ht ?_);simp[<-hN]
     .have e5':¬(4:Int)<t.nodes[i].own.length:=by omega
      rw[if_neg e5] at hN;obtain⟨tok1,nt1,o1,hk,hc⟩:=attrs_c t ht hM (i+1) i (Nat.lt_succ_self _) hi (fun j hj=>by
       by_cases e:j=i
       .subst e;rw[hnd];omega
       .exact hp j (by omega)) tok nt
      have hal:=atsL_len hM (i+1) i (Nat.lt_succ_self _);have haf:=atsL_fit ht (i+1) i (Nat.lt_succ_self _);have hml:=atsL_own (t:=t) (i:=i);rw[hnd] at hml;have htn:=ht.n;have hal2:(atsL t i).length<=1000000:=Nat.le_trans hal (by have:(i+1)*1000<=1000*1000:=Nat.mul_le_mul_right _ (by omega);omega)
      clear hal;generalize atsL t i=L at *;refine sC ?_;simp[e5,e5'];repeat first|simp|refine sR ?_
      refine sD (hc) ?_;simp;have hkk:=hk Ht;repeat first|simp|refine sR ?_
      by_cases e6:8<L.length
      .have e6':(8:Int)<L.length:=by omega
       rw[if_pos e6] at hN;refine sC ?_;simp[e6,e6'];repeat first|simp|refine sR ?_
       refine sT (sG Hb Ht hkk.old hkk.le ?_);simp[<-hN]
      .have e6':¬(8:Int)<L.length:=by omega
       rw[if_neg e6] at hN;have hw0:IntKind.i64.wrap ((L.length:Int)-(t.nodes[i].own.length:Nat))=((L.length-t.nodes[i].own.length:Nat):Int):=by rw[wrap_in (by omega) (by omega)];omega
       have hz:=ownAt_zero L t.nodes[i].own.length (L.length-t.nodes[i].own.length) (by omega);unfold ownE at hN;obtain⟨f,hf⟩:∃f,ownAt L t.nodes[i].own.length=f:=⟨_,rfl⟩
       have hfk:∀k,(hk:k<L.length)->L.length-t.nodes[i].own.length<=k->f k=attE L[k] (L.take k):=fun k hk hge=>by
        rw[<-hf,ownAt,if_neg (by omega),at_getD hk]
       rw[hf] at hN hz;refine sC ?_;simp[e6,e6'];repeat first|simp[hi,lb_at,hw0]|refine sR ?_
       have hal3:L.length-t.nodes[i].own.length<=L.length:=Nat.sub_le _ _
       generalize L.length-t.nodes[i].own.length=a at *;refine sN ?_;refine sL (stNo L nb box tok1 nt1) (fun k=>a<=k/\k<=L.length/\firstE f k=0) (fun k=>L.length-k) a ⟨nr _,by omega,hz⟩ (wM (by have:=hkk.le;omega) rfl (by simp[ToL,lk,To.data]) trivial) ?_;rintro k S' ⟨hak,hkl,hok⟩ hS;simp only[stNo] at hS;subst hS;have hw:=sW (i:=k) (by omega);repeat first|simp|refine sR ?_|refine sC ?_
       refine⟨fun hlt=>?_,fun hge=>?_⟩
       .have hA:=hfk k hlt hak;have hc2:=attribute_c L[k] (L.take k) (haf _ (List.getElem_mem hlt)) (by simp;omega);rw[atts_take,<-hA] at hc2;have hR:f k≠0->firstE f L.length=f k:=fun h0=>firstE_stop hok h0 L.length hlt
        have hnx:f k=0->firstE f (k+1)=0:=fun h0=>by simp only[firstE,hok,h0,↓reduceIte]
        generalize f k=E at *;repeat first|simp[hlt,atts_at hlt]|refine sR ?_
        try refine⟨by omega,?_⟩
        refine sD (hc2 _ _) ?_;repeat first|simp|refine sR ?_
        by_cases e7:E=0
        .refine sC ?_;simp[e7];repeat first|simp[hw]|refine sR ?_
         refine sE ?_;exact⟨k+1,⟨by omega,hlt,hnx e7⟩,by omega,wM (by have:=hkk.le;omega) rfl (by simp[ToL,lk]) trivial⟩
        .have b7:(E != 0)=true:=by simp[e7]
         refine sC ?_;simp[e7,b7];repeat first|simp|refine sR ?_
         refine sT (sG Hb Ht hkk.old hkk.le ?_);simp[<-hN,hR e7]
       .refine sX ?_;simp only[AU,↓reduceIte];repeat first|simp|refine sR ?_
        have:k=L.length:=by omega
        subst this;refine sT (sG Hb Ht hkk.old hkk.le ?_);simp[<-hN,hok]
  .rw[e2,if_pos rfl] at hN;refine sC ?_;repeat first|simp|refine sR ?_
   refine sT (sH Hb Ht ?_);simp[<-hN]
instance:Inhabited ET:=⟨⟨eB,0,0,0,0,0,0⟩⟩
def Ty.ed(t:Ty)(i:Nat):ET:=t.edges.getD i default
theorem ed_at{t:Ty}{i:Nat}(h:i<t.edges.length):t.ed i=t.edges[i]:=by simp[Ty.ed,h]
def anyE(l:List ET)(s:ByteArray):Bool:=anyB (fun y=>decide (y.name=s)) l
def edR(t:Ty)(x:ET):Int:=if insB t x.fr=false then 6 else if insB t x.to=false then 6 else if bndB x.ol x.oh=false then 6 else if bndB x.il x.ih=false then 6 else 0
def edgE(t:Ty)(i:Nat):Int :=
 if nameB (t.ed i).name=false then 2 else if anyE (t.edges.take i) (t.ed i).name=true then 5 else edR t (t.ed i)
set_option maxRecDepth 100000 in
theorem edge_c(t:Ty)(ht:t.Fit)(i:Nat)(hi:i<t.edges.length):DC 134 [t.av,I i] (I (edgE t i)):=by
 intro tok nt box nb;have hnd:=ed_at hi;have hmem:=List.getElem_mem hi;have hte:=ht.e;have h1:=isName_c (t.ed i).name (by rw[hnd];exact Nat.le_trans (ht.en _ hmem) (by decide));obtain⟨N,hN⟩:∃N,edgE t i=N:=⟨_,rfl⟩
 rw[hN];unfold edgE at hN;rw[hnd] at h1 hN;cases e1:nameB t.edges[i].name
 .rw[e1] at h1 hN;rw[if_pos rfl] at hN;refine sI func134 ntmps134 fun Hb Ht=>?_
  repeat first|simp[hi]|refine sR ?_
  refine sD (h1 _ _) ?_;repeat first|simp|refine sR ?_
  refine sC ?_;repeat first|simp|refine sR ?_
  refine sT (sH Hb Ht ?_);simp[<-hN]
 .rw[e1] at h1 hN;rw[if_neg (by simp)] at hN;unfold anyE at hN;obtain⟨p,hpp⟩:∃p:ET->Bool,(fun y=>decide (y.name=t.edges[i].name))=p:=⟨_,rfl⟩
  have h2:=fun y box nb k (hbk:box k=some [(t.edges[i]'hi).row])=>edge2_c (t.edges[i]'hi) y box nb k tok nt hbk
  have hpy:∀y:ET,decide (y.name=t.edges[i].name)=p y:=fun y=>by rw[<-hpp]
  simp only[hpy] at h2;rw[hpp] at hN;refine sI func134 ntmps134 fun Hb Ht=>?_
  repeat first|simp[hi]|refine sR ?_
  refine sD (h1 _ _) ?_;repeat first|simp[hi]|refine sR ?_|refine sC ?_
  try refine⟨by omega,?_⟩
  have hcf:=fun (b:Bxs) nb' h3 h4=>containsFuncE2_c (t.edges.take i) 216 [.ptr (nb+5) 0 0] p (by simp;have:=ht.e;omega) b nb' tok nt h3 h4
  rw[show ets (t.edges.take i)=.sl 7 (List.take i (t.edges.map ET.cells)) by rw[ets,List.map_take]] at hcf;refine Stop.of_b (hcf _ _ (fun c hc=>by rw[List.mem_singleton.1 hc];simp[lb_at]) (fun y hy box' nb' he=>h2 y box' nb' _ (he _ _ (by simp[lb_at])))) ?_;simp;cases e2:anyB p (t.edges.take i)
  .rw[e2,if_neg (by simp)] at hN;unfold edR at hN;have b1:=bounded_c t.edges[i].ol t.edges[i].oh;have b2:=bounded_c t.edges[i].il t.edges[i].ih;refine sC ?_;repeat first|simp|refine sR ?_
   refine Stop.of_b (edge1_c t t.edges[i].fr _ _ (nb+2) _ _ (by simp[lb_at])) ?_;simp;cases g1:insB t t.edges[i].fr
   .rw[g1,if_pos rfl] at hN;repeat first|simp|refine sR ?_
    refine sC ?_;repeat first|simp|refine sR ?_
    refine sC ?_;repeat first|simp|refine sR ?_
    refine sT (sH Hb Ht ?_);simp[<-hN]
   .rw[g1,if_neg (by simp)] at hN;repeat first|simp|refine sR ?_
    refine Stop.of_b (edge1_c t t.edges[i].to _ _ (nb+2) _ _ (by simp[lb_at])) ?_;simp;cases g2:insB t t.edges[i].to
    .rw[g2,if_pos rfl] at hN;repeat first|simp|refine sR ?_
     refine sC ?_;repeat first|simp|refine sR ?_
     refine sC ?_;repeat first|simp|refine sR ?_
     refine sT (sH Hb Ht ?_);simp[<-hN]
    .rw[g2,if_neg (by simp)] at hN;repeat first|simp|refine sR ?_
     refine sC ?_;repeat first|simp|refine sR ?_
     refine sD (b1 _ _) ?_;simp;cases g3:bndB t.edges[i].ol t.edges[i].oh
     .rw[g3,if_pos rfl] at hN;repeat first|simp|refine sR ?_
      refine sC ?_;repeat first|simp|refine sR ?_
      refine sT (sH Hb Ht ?_);simp[<-hN]
     .rw[g3,if_neg (by simp)] at hN;repeat first|simp|refine sR ?_
      refine sD (b2 _ _) ?_;simp;cases g4:bndB t.edges[i].il t.edges[i].ih
      .rw[g4,if_pos rfl] at hN;repeat first|simp|refine sR ?_
       refine sC ?_;repeat first|simp|refine sR ?_
       refine sT (sH Hb Ht ?_);simp[<-hN]
      .rw[g4,if_neg (by simp)] at hN;repeat first|simp|refine sR ?_
       refine sC ?_;repeat first|simp|refine sR ?_
       refine sT (sH Hb Ht ?_);simp[<-hN]
  .rw[e2,if_pos rfl] at hN;refine sC ?_;repeat first|simp|refine sR ?_
   refine sT (sH Hb Ht ?_);simp[<-hN]
theorem xx:True:=trivial
def firstN(f:Nat->Int)(g:Nat->ByteArray):Nat->ByteArray
 | 0=>eB
 | n+1=>if firstE f n=0 then (if f n=0 then eB else g n) else firstN f g n
theorem firstN_stop{f:Nat->Int}{g:Nat->ByteArray}{i:Nat}(h0:firstE f i=0)(h:f i≠0):∀n,i<n->firstN f g n=g i
 | 0,hi=>absurd hi (Nat.not_lt_zero _)
 | n+1,hi=>by
  simp only[firstN];by_cases e:i=n
  .subst e;rw[if_pos h0,if_neg h]
  .have:=firstE_stop h0 h n (by omega)
   rw[if_neg (by rw[this];exact h),firstN_stop h0 h n (by omega)]
theorem firstN_none{f:Nat->Int}{g:Nat->ByteArray}:∀n,firstE f n=0->firstN f g n=eB
 | 0,_=>rfl
 | n+1,h=>by
  simp only[firstE] at h;split at h
  .rename_i h1;rw[firstN,if_pos h1,if_pos h]
  .rename_i h1;exact absurd h h1
def tyE(t:Ty):Int :=
 if t.nodes.length=0 then 7 else if 12<t.nodes.length then 3 else if 20<t.edges.length then 3
 else if firstE (nodE t) t.nodes.length≠0 then firstE (nodE t) t.nodes.length else firstE (edgE t) t.edges.length
def tyN(t:Ty):ByteArray :=
 if t.nodes.length=0 then eB else if 12<t.nodes.length then eB else if 20<t.edges.length then eB
 else if firstE (nodE t) t.nodes.length≠0 then firstN (nodE t) (fun i=>(t.nd i).name) t.nodes.length else firstN (edgE t) (fun i=>(t.ed i).name) t.edges.length
theorem nodE_par{t:Ty}{i:Nat}(h:nodE t i=0):(t.nd i).par<i:=by
 unfold nodE at h;split at h
 .cases h
 .split at h
  .cases h
  .split at h
   .cases h
   .omega
theorem firstE_allZ{f:Nat->Int}:∀n,firstE f n=0->∀i,i<n->f i=0
 | 0,_,i,hi=>absurd hi (Nat.not_lt_zero _)
 | n+1,h,i,hi=>by
  simp only[firstE] at h;split at h
  .rename_i h1;by_cases e:i=n
   .subst e;exact h
   .exact firstE_allZ n h1 i (by omega)
  .rename_i h1;exact absurd h h1
def stVn(t:Ty)(nb:Nat)(box:Bxs)(tok:Tks)(nt:Nat)(i:Nat):AS:=⟨tl [(29,I i),(28,I t.nodes.length),(27,.d (nts t.nodes)),(1,.ptr (nb+1) 0 0)],lb nb box [(1,[[.d (nts t.nodes),.d (ets t.edges)]])],tok,nt⟩
def stVe(t:Ty)(nb:Nat)(box:Bxs)(tok:Tks)(nt:Nat)(i:Nat):AS:=⟨tl [(46,I i),(45,I t.edges.length),(44,.d (ets t.edges)),(1,.ptr (nb+1) 0 0)],lb nb box [(1,[[.d (nts t.nodes),.d (ets t.edges)]])],tok,nt⟩
theorem valid_c4(t:Ty)(ht:t.Fit)(hM:∀i,(t.nd i).own.length<=1000):DC 66 [t.av] (.tup [Sb (tyN t),I (tyE t)]):=by
 intro tok nt box nb;have htn:=ht.n;have hte:=ht.e;obtain⟨N,hN⟩:∃N,tyE t=N:=⟨_,rfl⟩
 obtain⟨Z,hZ⟩:∃Z,tyN t=Z:=⟨_,rfl⟩
 rw[hN,hZ];unfold tyE at hN;unfold tyN at hZ;by_cases e1:t.nodes.length=0
 .have e1':t.nodes=[]:=List.length_eq_zero_iff.1 e1
  rw[if_pos e1] at hN hZ;refine sI func66 ntmps66 fun Hb Ht=>?_
  repeat first|simp[e1']|refine sR ?_|refine sC ?_
  refine sT (sH Hb Ht ?_);simp[<-hN,<-hZ]
 .have e1':¬t.nodes=[]:=fun h=>e1 (by rw[h];rfl)
  rw[if_neg e1] at hN hZ;by_cases e2:12<t.nodes.length
  .have e2':(12:Int)<t.nodes.length:=by omega
   rw[if_pos e2] at hN hZ;refine sI func66 ntmps66 fun Hb Ht=>?_
   repeat first|simp[e1',e2,e2']|refine sR ?_
   refine sC ?_;simp[e1',e2,e2'];repeat first|simp[e2,e2']|refine sR ?_|refine sC ?_
   refine sT (sH Hb Ht ?_);simp[<-hN,<-hZ]
  .have e2':¬(12:Int)<t.nodes.length:=by omega
   rw[if_neg e2] at hN hZ;by_cases e3:20<t.edges.length
   .have e3':(20:Int)<t.edges.length:=by omega
    rw[if_pos e3] at hN hZ;refine sI func66 ntmps66 fun Hb Ht=>?_
    repeat first|simp[e1',e2,e2',e3,e3']|refine sR ?_
    refine sC ?_;simp[e1',e2,e2'];repeat first|simp[e2,e2',e3,e3']|refine sR ?_|refine sC ?_
    refine sT (sH Hb Ht ?_);simp[<-hN,<-hZ]
   .have e3':¬(20:Int)<t.edges.length:=by omega
    rw[if_neg e3] at hN hZ;refine sI func66 ntmps66 fun Hb Ht=>?_
    repeat first|simp[e1',e2,e2',e3,e3']|refine sR ?_
    refine sC ?_;simp[e1',e2,e2'];repeat first|simp[e2,e2',e3,e3']|refine sR ?_|refine sC ?_
    refine sN ?_;refine sL (stVn t nb box tok nt) (fun i=>i<=t.nodes.length/\firstE (nodE t) i=0) (fun i=>t.nodes.length-i) 0 ⟨Nat.zero_le _,rfl⟩ wkA ?_;rintro i S' ⟨hi,hok⟩ hS;simp only[stVn] at hS;subst hS;have hw:=sW (i:=i) (by omega);repeat first|simp|refine sR ?_|refine sC ?_
    refine⟨fun hlt=>?_,fun hge=>?_⟩
    .have hc:=node_c t ht hM i hlt (fun j hj=>nodE_par (firstE_allZ i hok j hj));have hR:nodE t i≠0->firstE (nodE t) t.nodes.length=nodE t i:=fun h0=>firstE_stop hok h0 _ hlt
     have hR2:nodE t i≠0->firstN (nodE t) (fun i=>(t.nd i).name) t.nodes.length=t.nodes[i].name:=fun h0=>by rw[firstN_stop hok h0 _ hlt,nd_at hlt]
     have hnx:nodE t i=0->firstE (nodE t) (i+1)=0:=fun h0=>by simp only[firstE,hok,h0,↓reduceIte]
     generalize nodE t i=E at *;repeat first|simp[hlt]|refine sR ?_
     refine sD (hc _ _) ?_;repeat first|simp|refine sR ?_
     by_cases e7:E=0
     .refine sC ?_;simp[e7];repeat first|simp[hw]|refine sR ?_
      refine sE ?_;exact⟨i+1,⟨hlt,hnx e7⟩,by omega,wkA⟩
     .have b7:(E != 0)=true:=by simp[e7]
      rw[hR e7,if_pos e7] at hN hZ;rw[hR2 e7] at hZ;refine sC ?_;simp[e7,b7];repeat first|simp[hlt]|refine sR ?_
      refine sT (sH Hb Ht ?_);simp[<-hN,<-hZ]
    .refine sX ?_;simp only[AU,↓reduceIte];have:i=t.nodes.length:=by omega
     subst this;rw[if_neg (by rw[hok];simp)] at hN hZ;repeat first|simp|refine sR ?_
     refine sN ?_;refine sL (stVe t nb box tok nt) (fun i=>i<=t.edges.length/\firstE (edgE t) i=0) (fun i=>t.edges.length-i) 0 ⟨Nat.zero_le _,rfl⟩ wkA ?_;rintro i S' ⟨hi,hok2⟩ hS;simp only[stVe] at hS;subst hS;have hw:=sW (i:=i) (by omega);repeat first|simp|refine sR ?_|refine sC ?_
     refine⟨fun hlt=>?_,fun hge=>?_⟩
     .have hc:=edge_c t ht i hlt;have hR:edgE t i≠0->firstE (edgE t) t.edges.length=edgE t i:=fun h0=>firstE_stop hok2 h0 _ hlt
      have hR2:edgE t i≠0->firstN (edgE t) (fun i=>(t.ed i).name) t.edges.length=t.edges[i].name:=fun h0=>by rw[firstN_stop hok2 h0 _ hlt,ed_at hlt]
      have hnx:edgE t i=0->firstE (edgE t) (i+1)=0:=fun h0=>by simp only[firstE,hok2,h0,↓reduceIte]
      generalize edgE t i=E at *;repeat first|simp[hlt]|refine sR ?_
      refine sD (hc _ _) ?_;repeat first|simp|refine sR ?_
      by_cases e7:E=0
      .refine sC ?_;simp[e7];repeat first|simp[hw]|refine sR ?_
       refine sE ?_;exact⟨i+1,⟨hlt,hnx e7⟩,by omega,wkA⟩
      .have b7:(E != 0)=true:=by simp[e7]
       rw[hR e7] at hN;rw[hR2 e7] at hZ;refine sC ?_;simp[e7,b7];repeat first|simp[hlt]|refine sR ?_
       refine sT (sH Hb Ht ?_);simp[<-hN,<-hZ]
     .refine sX ?_;simp only[AU,↓reduceIte];have:i=t.edges.length:=by omega
      subst this;rw[hok2] at hN;rw[firstN_none _ hok2] at hZ;repeat first|simp|refine sR ?_
      refine sT (sH Hb Ht ?_);simp[<-hN,<-hZ]
structure Ru where
 name:ByteArray
 lg:Gr
 lsl:List Sl
 lv:Int
 lte:List Te
 rg:Gr
 rsl:List Sl
 rv:Int
 rte:List Te
 k:Mo
 i:Mo
 inj:Bool
 c:Cd
abbrev Ru.row(r:Ru):List AV:=[.d (.raw (.string r.name)),.d (ints r.lg.nodes),.d (AM.edges r.lg.edges),.d (slots r.lsl),I r.lv,.d (tests r.lte),.d (ints r.rg.nodes),.d (AM.edges r.rg.edges),.d (slots r.rsl),I r.rv,.d (tests r.rte),
 .d (ints r.k.nodes),.d (ints r.k.edges),.d (ints r.i.nodes),.d (ints r.i.edges),B r.inj,I r.c.kind,.d (conds r.c.kids),.d (ints r.c.m.nodes),.d (ints r.c.m.edges),.d (ints r.c.g.nodes),.d (AM.edges r.c.g.edges),.d (slots r.c.sl),I r.c.vars,.d (tests r.c.te)]
abbrev Ru.av(r:Ru):AV:=.agg r.row
structure Ru.Fit (r:Ru):Prop where
 lg:r.lg.Fit
 rg:r.rg.Fit
 k:r.k.Fit
 i:r.i.Fit
 ls:r.lsl.length<=bigN
 lt:r.lte.length<=bigN
 rs:r.rsl.length<=bigN
 rt:r.rte.length<=bigN
def Ru.sp(r:Ru):Sp:=⟨r.lg,r.rg,r.k,r.i⟩
def Ru.plainL(r:Ru):Prop:=r.lsl.length+r.lte.length=0/\r.lv=0
def Ru.plainR(r:Ru):Prop:=r.rsl.length+r.rte.length=0/\r.rv=0
instance (r:Ru):Decidable r.plainL:=inferInstanceAs (Decidable (_/\_))
instance (r:Ru):Decidable r.plainR:=inferInstanceAs (Decidable (_/\_))
def strR(r:Ru):Int :=
 if vG r.lg≠0 then vG r.lg else if vG r.rg≠0 then vG r.rg else if validP r.lg r.k≠0 then validP r.lg r.k
 else if validM (exG r.lg r.k) r.rg r.i≠0 then validM (exG r.lg r.k) r.rg r.i else if injM (exG r.lg r.k) r.rg r.i=false then 11
 else if r.plainL/\r.plainR/\r.inj=true then 0 else 8
def rowsB(bs:List Bool):List (List AV):=bs.map fun b=>[AV.d (.raw (.bool b))]
theorem rowsB_eq(bs:List Bool):rowsB bs=rowsD (bs.map fun b=>[D.raw (.bool b)]):=by simp[rowsB,rowsD]
@[simp] theorem set_rB(bs:List Bool)(i:Nat)(v:Bool):(rowsB bs).set i [AV.d (.raw (.bool v))]=rowsB (bs.set i v):=by simp[rowsB,List.map_set]
@[simp] theorem rowsB_length(bs:List Bool):(rowsB bs).length=bs.length:=by simp[rowsB]
@[simp high] theorem rowsB_get{bs:List Bool}{i:Nat}(h:i<bs.length):(rowsB bs)[i]?=some [AV.d (.raw (.bool bs[i]))]:=by simp[rowsB,h]
@[simp] theorem rowsTo_B{p q:Nat->Prop}{fz:Option (Nat × Nat × List (List D))}(bs:List Bool):RowsTo p q fz (rowsB bs) (rowsB bs):=by rw[rowsB_eq];simp
def pickN(ns:List Int)(js:List Int)(i:Nat):List Int:=(js.take i).map fun j=>ns.getD j.toNat 0
@[simp] theorem pickN_len(l h:List Int)(i:Nat):(pickN l h i).length=min i h.length:=by simp[pickN]
def pickE(es:List E)(ns js:List Int)(i:Nat):List E:=(js.take i).map fun j=>⟨(es.getD j.toNat default).ty,indexI ns (es.getD j.toNat default).fr,indexI ns (es.getD j.toNat default).to⟩
@[simp] theorem pickE_len(l:List E)(ns h:List Int)(i:Nat):(pickE l ns h i).length=min i h.length:=by simp[pickE]
def rkK(ns:List Int)(bit:Nat->Bool):Nat->List Int
 | 0=>[]
 | i+1=>if bit i=true then rkK ns bit i++[((chN ns bit i).1.length:Int)] else rkK ns bit i++[0]
def rkR(ns:List Int)(bit:Nat->Bool)(n i:Nat):List Int:=rkK ns bit i++List.replicate (n-i) 0
theorem rkK_len(ns:List Int)(bit:Nat->Bool):∀i,(rkK ns bit i).length=i
 | 0=>rfl
 | i+1=>by
  simp only[rkK];split<;>simp[rkK_len ns bit i]
@[simp] theorem rkR_len(ns:List Int)(bit:Nat->Bool){n i:Nat}(h:i<=n):(rkR ns bit n i).length=n:=by simp[rkR,rkK_len];omega
def sameAt(a b:List Int)(i k:Nat):Bool:=decide (a.getD i 0=a.getD k 0)==decide (b.getD i 0=b.getD k 0)
def mrgK(l:List Int)(lo hi:Int)(i:Nat):List Int:=(l.take i).map fun k=>if k=hi then lo else k
@[simp] theorem mrgK_len(l:List Int)(lo hi:Int)(i:Nat):(mrgK l lo hi i).length=min i l.length:=by simp[mrgK]
def preK(l:List Int)(i:Nat):List Int:=l.take i
@[simp] theorem preK_len(l:List Int)(i:Nat):(preK l i).length=min i l.length:=by simp[preK]
theorem Emb.fit{a b:Gr}{m:Mo}(h:Emb a b m):m.Fit/\a.Fit/\b.Fit:=by
 have v:=h.vm;have h1:=(validG_types v.va).1;have h2:=(validG_types v.vb).1;have h3:=v.ln;have h4:=v.le;exact⟨⟨by omega,by omega⟩,⟨by omega,by omega⟩,⟨by omega,by omega⟩⟩
end Go.AM
namespace Go.Proofs
open Go.Shelf
open Go.Proofs.Tryz
end Go.Proofs
namespace Go.AM
open Go Go.Proofs Go.RowKit Go.Lib
open Go.Proofs.Tryz
theorem SpOk.fit{s:Sp}(h:SpOk s):s.l.Fit/\s.r.Fit/\s.k.Fit/\s.i.Fit:=⟨h.k.emb.fit.2.2,h.i.fit.2.2,h.k.emb.fit.1,h.i.fit.1⟩
def Sp.ru(s:Sp):Ru:=⟨⟨#[]⟩,s.l,[],0,[],s.r,[],0,[],s.k,s.i,true,cdOf 0 []⟩
structure Ru.Big (r:Ru):Prop where
 k:r.k.nodes.length<=bigN/\r.k.edges.length<=bigN
 i:r.i.nodes.length<=bigN/\r.i.edges.length<=bigN
 ls:r.lsl.length<=bigN
 lt:r.lte.length<=bigN
 rs:r.rsl.length<=bigN
 rt:r.rte.length<=bigN
 c:r.c.Big
def backL(l:List Int)(n:Nat):List Int:=(List.range n).map fun (k:Nat)=>indexI l (k:Int)
theorem backL_succ(l:List Int)(k:Nat):backL l (k+1)=backL l k++[indexI l k]:=by simp[backL,List.range_succ]
def backS(l:List Int)(k j:Nat):List Int:=backL l k++[indexI (l.take j) k]
theorem backS_len(l:List Int)(k j:Nat):(backS l k j).length=k+1:=by simp[backS,backL]
theorem backS_zero(l:List Int)(k:Nat):backS l k 0=backL l k++[-1]:=by simp[backS,indexI]
theorem backS_all(l:List Int)(k:Nat):backS l k l.length=backL l (k+1):=by simp[backS,backL_succ]
theorem indexI_none{l:List Int}{v:Int}(h:v∉l):indexI l v = -1:=by
 rcases indexI_spec l v with ⟨h1,_⟩|⟨k,_,h3,h4⟩
 .exact h1
 .exact absurd (h4 ▸ getD_mem h3) h
theorem take_mem{l:List Int}{j:Nat}(h:j<l.length){v:Int}:v∈l.take (j+1)↔v∈l.take j∨v=l.getD j 0:=by
 rw[<-List.take_append_getElem h,List.mem_append,List.mem_singleton];simp[h]
theorem index_no{l:List Int}{j:Nat}(h:j<l.length){v:Int}(hv:l.getD j 0≠v)(hn:l.Nodup):indexI (l.take (j+1)) v=indexI (l.take j) v:=by
 by_cases hm:v∈l.take j
 .obtain⟨a1,a2,a3⟩:=indexI_in hm;obtain⟨b1,b2,b3⟩:=indexI_in ((take_mem h).2 (.inl hm));have hnd:(l.take (j+1)).Nodup:=hn.sublist (List.take_sublist _ _)
  have hl:(l.take j).length<=(l.take (j+1)).length:=by simp;omega
  have e:(l.take (j+1)).getD (indexI (l.take j) v).toNat 0=v:=by
   have q:(indexI (l.take j) v).toNat<(l.take j).length:=by omega
   have q1:(indexI (l.take j) v).toNat<j:=by simp at q;omega
   have q2:(l.take (j+1)).getD (indexI (l.take j) v).toNat 0=(l.take j).getD (indexI (l.take j) v).toNat 0:=by
    simp only[List.getD_eq_getElem?_getD,List.getElem?_take];rw[if_pos (by omega),if_pos q1]
   rw[q2];exact a3
  have:=getD_inj hnd (show (indexI (l.take j) v).toNat<(l.take (j+1)).length by omega) (show (indexI (l.take (j+1)) v).toNat<(l.take (j+1)).length by omega) (e.trans b3.symm)
  omega
 .rw[indexI_none hm,indexI_none fun hm2=>by
   rcases (take_mem h).1 hm2 with h1|h1
   .exact hm h1
   .exact hv h1.symm]
theorem index_yes{l:List Int}{j:Nat}(h:j<l.length)(hn:l.Nodup):indexI (l.take (j+1)) (l.getD j 0)=j:=by
 have hnd:(l.take (j+1)).Nodup:=hn.sublist (List.take_sublist _ _)
 have hj:j<(l.take (j+1)).length:=by simp;omega
 have e:(l.take (j+1)).getD j 0=l.getD j 0:=by
  simp only[List.getD_eq_getElem?_getD,List.getElem?_take];rw[if_pos (by omega)]
 have:=indexI_gd hnd hj
 rwa [e] at this
theorem backS_no{l:List Int}{k j:Nat}(h:j<l.length)(hv:l.getD j 0≠k)(hn:l.Nodup):backS l k (j+1)=backS l k j:=by rw[backS,backS,index_no h hv hn]
theorem backS_yes{l:List Int}{k j:Nat}(h:j<l.length)(hv:l.getD j 0=k)(hn:l.Nodup):backS l k (j+1)=(backS l k j).set k j:=by
 have h2:=index_yes h hn;rw[hv] at h2;have hl:(backL l k).length=k:=by simp[backL]
 rw[backS,backS,h2,List.set_append_right _ _ (by omega),hl];simp
end Go.AM
namespace Go.Proofs.YtainalmfffjnjaaGreatDoor.back
open Go Go.Proofs Go.RowKit Go.AM
open Go.Proofs.Tryz
theorem info3:(prog.info? 3).map (fun i=>(i.zero,i.size,i.bytes))=some (some (.int .i64 0),1,8):=by kernel_rfl
set_option maxHeartbeats 2000000 in
set_option maxRecDepth 100000 in
theorem any(b off n c m:Nat)(zs:List Int)(w:World)(hz:zs.length=n)(hn:n<=1000000)(hm:m<=1000000)(hd:zs.Nodup)(hb:b<w.heap.size)(hc:∀j,j<zs.length->w.cell? ⟨b,off+j,none⟩=some (.int .i64 (zs.getD j 0))):
  Calls prog 146 #[.slice (some ⟨b,off,none⟩) n c,.int .i64 m] w fun e w'=>∃v,e=.returned v/\w'.ownsRow w.heap.size 3 1 v m ((backL zs m).map (Value.int .i64))/\Below w.heap.size w w':=by
 obtain⟨i0,hi,hz0,hz1,hz2⟩:=info_parts info3
 go_enter func146,ntmps146
 go_wp2
 go_loopw [5,6] (fun v i wr=>∃k:Nat,k<=m/\i=.int .i64 k/\wr.ownsRow w.heap.size 3 1 v k ((backL zs k).map (Value.int .i64))/\Below w.heap.size w wr) (fun _ i _=>m-(intOf i).toNat)
 case atStart=>exact⟨0,Nat.zero_le _,rfl,World.ownsRow_nil _ _ _ _,Below.refl _ _⟩
 case round =>
  obtain⟨k,hk,rfl,hown,hnx⟩:=hrel
  go_wp2_with (first
   | (at_builtin;refine wpList_append_own _ rfl _ _ 26 rfl w.heap.size 3 i0 (.int .i64 0) 1 8 underlying26 hi hz0 hz1 hz2 rfl (by decide) _ _ _ rfl (hown.alloc _) ⟨wr.heap.size,0,none⟩ 1 1 [.int .i64 (-1)] rfl rfl ?c1 ?c2 ?c3 ?c4 ?c5 ?_)
   | go_in)
  case c1 =>
   intro j u hj
   match j,hj with
   | 0,hj=>simp at hj;subst hj;simp[Addr.add]
  case c2=>intro u hu;simp at hu;subst hu;rfl
  case c3=>unfold maxLen;omega
  case c4=>omega
  case c5=>have:=hnx.size;simp;omega
  .intro v' w1 hown' hgrow hne;have hk':k<m:=by assumption
   obtain⟨g,cap,rfl,hg1,hg2⟩:=hown'.form (by omega);have hnx1:Below w.heap.size w w1:=(hnx.alloc (by have:=hnx.size;omega) _).grown hgrow (by have:=hnx.size;simp;omega) (fun q hq=>(hown.lt q hq).1)
   rw[show List.map (Value.int .i64) (backL zs k)++[Value.int .i64 (-1)]=(backS zs k 0).map (Value.int .i64) by rw[backS_zero];simp] at hown';clear hgrow hown hnx hne
   go_wp2
   go_loopw [7] (fun i wr=>∃j:Nat,j<=n/\i=.int .i64 j/\wr.ownsRow w.heap.size 3 1 (.slice (some ⟨g,0,none⟩) (k+1) cap) (k+1) ((backS zs k j).map (Value.int .i64))/\Below w.heap.size w wr) (fun i _=>n-(intOf i).toNat)
   case atStart=>exact⟨0,Nat.zero_le _,rfl,hown',hnx1⟩
   case round =>
    clear hown' hnx1;obtain⟨j,hj,rfl,hown,hnx⟩:=hrel;have hcx:j<n->wr.cell? ⟨b,off+j,none⟩=some (.int .i64 (zs.getD j 0)):=fun h=>(hnx.cell (by exact hb)).trans (hc j (by omega))
    have hst:=hown.stored k (.int .i64 j);have hfz:=hown.frozenAt k;have hck:wr.cell? ⟨g,k,none⟩=some (.int .i64 ((backS zs k j).getD k 0)):=by
     rw[hown.cellAt k (by omega),List.getElem?_map,List.getElem?_eq_getElem (by rw[backS_len];omega)];simp[show k<(backS zs k j).length by rw[backS_len];omega]
    go_wp2
    .have hlt:j<n:=by assumption
     have hjl:j<zs.length:=by omega
     have h:(zs[j]==(k:Int))=true:=by assumption
     have e:zs.getD j 0=(k:Int):=by
      have:=beq_iff_eq.1 h
      simpa[hjl] using this
     refine⟨⟨j+1,by omega,by simp,?_,hnx.setCell hg1 _⟩,by simp[intOf];omega⟩;rw[backS_yes hjl e hd,List.map_set];exact hst.1
    .have hlt:j<n:=by assumption
     have hjl:j<zs.length:=by omega
     have h:(zs[j]==(k:Int))=false:=by assumption
     have e:zs.getD j 0≠(k:Int):=by
      have:=beq_eq_false_iff_ne.1 h
      simpa[hjl] using this
     refine⟨⟨j+1,by omega,by simp,?_,hnx⟩,by simp[intOf];omega⟩;rw[backS_no hjl e hd];exact hown
    .have hlt:¬j<n:=by assumption
     have hjn:j=zs.length:=by omega
     rw[hjn,backS_all] at hown;exact⟨⟨k+1,by omega,by simp,hown,hnx⟩,by simp[intOf];omega⟩
  .go_ret
   have hk':¬k<m:=by assumption
   obtain rfl:k=m:=by omega
   exact⟨_,rfl,hown,hnx⟩
end Go.Proofs.YtainalmfffjnjaaGreatDoor.back
namespace Go.Proofs.YtainalmfffjnjaaGreatDoor.back
open Go Go.Proofs Go.RowKit Go.AM
open Go.Proofs.Tryz
set_option maxHeartbeats 2000000 in
set_option maxRecDepth 100000 in
theorem zero(A:Option Addr)(c m:Nat)(w:World)(hm:m<=1000000):
  Calls prog 146 #[.slice A 0 c,.int .i64 m] w fun e w'=>∃v,e=.returned v/\w'.ownsRow w.heap.size 3 1 v m ((backL [] m).map (Value.int .i64))/\Below w.heap.size w w':=by
 obtain⟨i0,hi,hz0,hz1,hz2⟩:=info_parts info3
 go_enter func146,ntmps146
 go_wp2
 go_loopw [5,6] (fun v i wr=>∃k:Nat,k<=m/\i=.int .i64 k/\wr.ownsRow w.heap.size 3 1 v k ((backL [] k).map (Value.int .i64))/\Below w.heap.size w wr) (fun _ i _=>m-(intOf i).toNat)
 case atStart=>exact⟨0,Nat.zero_le _,rfl,World.ownsRow_nil _ _ _ _,Below.refl _ _⟩
 case round =>
  obtain⟨k,hk,rfl,hown,hnx⟩:=hrel
  go_wp2_with (first
   | (at_builtin;refine wpList_append_own _ rfl _ _ 26 rfl w.heap.size 3 i0 (.int .i64 0) 1 8 underlying26 hi hz0 hz1 hz2 rfl (by decide) _ _ _ rfl (hown.alloc _) ⟨wr.heap.size,0,none⟩ 1 1 [.int .i64 (-1)] rfl rfl ?c1 ?c2 ?c3 ?c4 ?c5 ?_)
   | go_in)
  case c1 =>
   intro j u hj
   match j,hj with
   | 0,hj=>simp at hj;subst hj;simp[Addr.add]
  case c2=>intro u hu;simp at hu;subst hu;rfl
  case c3=>unfold maxLen;omega
  case c4=>omega
  case c5=>have:=hnx.size;simp;omega
  .intro v' w1 hown' hgrow hne;have hk':k<m:=by assumption
   have hnx1:Below w.heap.size w w1:=(hnx.alloc (by have:=hnx.size;omega) _).grown hgrow (by have:=hnx.size;simp;omega) (fun q hq=>(hown.lt q hq).1)
   rw[show List.map (Value.int .i64) (backL [] k)++[Value.int .i64 (-1)]=(backL [] (k+1)).map (Value.int .i64) by rw[backL_succ];simp[indexI]] at hown';clear hgrow hown hnx hne
   go_wp2
   go_loopw [7] (fun i wr=>i=.int .i64 0/\wr=w1) (fun i _=>0)
   case atStart=>exact⟨rfl,rfl⟩
   case round =>
    obtain⟨rfl,rfl⟩:=hrel
    go_wp2
    exact⟨⟨k+1,by omega,by simp,hown',hnx1⟩,by simp[intOf];omega⟩
  .go_ret
   have hk':¬k<m:=by assumption
   obtain rfl:k=m:=by omega
   exact⟨_,rfl,hown,hnx⟩
end Go.Proofs.YtainalmfffjnjaaGreatDoor.back
namespace Go.AM
open Go Go.Proofs Go.RowKit
open Go.Proofs.Tryz
def upP(ps:List Int)(i:Nat):List Int:=if _h:0<=ps.getD i 0/\(ps.getD i 0).toNat<i then (i:Int)::upP ps (ps.getD i 0).toNat else [(i:Int)]
termination_by i
decreasing_by exact _h.2
def upI(ps:List Int)(a:Int):List Int:=if a<0 then [] else upP ps a.toNat
theorem upI_neg{ps:List Int}{a:Int}(h:a<0):upI ps a=[]:=if_pos h
theorem upI_up{ps:List Int}{a:Int}(h:0<=a)(hp:ps.getD a.toNat 0<a):upI ps a=a::upI ps (ps.getD a.toNat 0):=by
 rw[upI,if_neg (by omega),upP];by_cases h0:0<=ps.getD a.toNat 0
 .rw[dif_pos ⟨h0,by omega⟩,upI,if_neg (by omega),Int.toNat_of_nonneg h]
 .rw[dif_neg (fun h2=>h0 h2.1),upI,if_pos (by omega),Int.toNat_of_nonneg h]
theorem upP_len(ps:List Int):∀n i,i<n->(upP ps i).length<=i+1
 | 0,i,h=>absurd h (Nat.not_lt_zero _)
 | n+1,i,h=>by
  rw[upP];split
  .rename_i h1;have:=upP_len ps n _ (show (ps.getD i 0).toNat<n by omega)
   simp only[List.length_cons];omega
  .simp
theorem upI_len(ps:List Int)(a:Int):(upI ps a).length<=(a+1).toNat:=by
 unfold upI;split
 .simp
 .have:=upP_len ps _ _ (Nat.lt_succ_self a.toNat)
  omega
end Go.AM
namespace Go.Proofs.YtainalmfffjnjaaGreatDoor.line
open Go Go.Proofs Go.RowKit Go.AM Go.Sort
open Go.Proofs.Tryz
theorem own_le{w:World}{base base':Nat}{e:TypeId}{size:Nat}{v:Value}{n:Nat}{xs:List Value}(h:w.ownsRow base e size v n xs)(hb:base'<=base):w.ownsRow base' e size v n xs :=
 ⟨h.1,h.2.imp id fun ⟨g,cap,cur,a,b,c⟩=>⟨g,cap,cur,a,Nat.le_trans hb b,c⟩⟩
theorem rev{base n:Nat}{v:Value}{l:List Int}{w0 w:World}(hown:w.ownsRow base 3 1 v n (l.map (Value.int .i64)))(hb:Below base w0 w)(hl:l.length<=1000000):
  Calls prog 277 #[v] w fun e w'=>e=.returned (.tuple #[])/\w'.ownsRow base 3 1 v n (l.reverse.map (Value.int .i64))/\Below base w0 w':=by
 rcases hown.2 with ⟨rfl,e0⟩|⟨g,cap,cur,rfl,hg1,hg2,hg3,hg4,hg5,hg6⟩
 .refine(Tryz.slices_Reverse_int_empty _ _ _).mono ?_;rintro e w3 ⟨rfl,rfl⟩;subst e0;have:l=[]:=List.length_eq_zero_iff.1 (by simpa using hown.1)
  subst this;exact⟨rfl,hown,hb⟩
 .obtain⟨g',cap',hv,hgb,hgl,hncap,hcm,hlen,hH⟩:=Lib.holds_of_ownsRow hown (by simp);cases hv;have hrev:=Tryz.slices_Reverse_int g 0 cap l _ hH (by omega);rw[hlen] at hrev;refine hrev.mono ?_;rintro e w3 ⟨rfl,q,rfl⟩;have hh:=Lib.ownsRow_putRow (q:=q) (ys:=l.reverse) hown (by simpa using hlen) (nr _);rw[List.take_of_length_le (by simp[hlen])] at hh;exact⟨rfl,hh,Lib.below_putRow hb hg1⟩
set_option maxHeartbeats 2000000 in
set_option maxRecDepth 100000 in
theorem any(b off n c:Nat)(u:Value)(a0:Int)(ps:List Int)(w:World)(hz:ps.length=n)(hn:n<=1000000)(ha:a0<n)(hp:∀j,j<n->ps.getD j 0<j)(hb:b<w.heap.size)(hc:∀j,j<n->w.cell? ⟨b,off+j*4+1,none⟩=some (.int .i64 (ps.getD j 0))):
  Calls prog 236 #[.agg #[.slice (some ⟨b,off,none⟩) n c,u],.int .i64 a0] w fun e w'=>∃v,e=.returned v/\w'.ownsRow w.heap.size 3 1 v (upI ps a0).length ((upI ps a0).reverse.map (Value.int .i64))/\Below w.heap.size w w':=by
 obtain⟨i0,hi,hz0,hz1,hz2'⟩:=info_parts YtainalmfffjnjaaGreatDoor.back.info3
 go_enter func236,ntmps236
 go_wp2
 have hsz:(w.alloc (Obj.cells #[Value.slice (some { block:=b,off:=off }) n c,u] 25)).heap.size=w.heap.size+1:=by unfold World.alloc;exact Array.size_push _
 have hz2:(w.alloc (Obj.cells #[Value.slice (some { block:=b,off:=off }) n c,u] 25)).cell? ⟨w.heap.size,0,none⟩=some (Value.slice (some { block:=b,off:=off }) n c):=by rw[World.cell?_alloc_at _ _ _ _ rfl];rfl
 have hcc:∀j,j<n->(w.alloc (Obj.cells #[Value.slice (some { block:=b,off:=off }) n c,u] 25)).cell? ⟨b,off+j*4+1,none⟩=some (.int .i64 (ps.getD j 0)):=fun j hj=>((Below.refl _ w).alloc (nr _) _ |>.cell (by exact hb)).trans (hc j hj)
 have hbel:Below w.heap.size w (w.alloc (Obj.cells #[Value.slice (some { block:=b,off:=off }) n c,u] 25)):=(Below.refl _ w).alloc (nr _) _
 generalize w.alloc (Obj.cells #[Value.slice (some { block:=b,off:=off }) n c,u] 25)=w1 at *
 go_loopw [1,5] (fun x v wr=>∃(a:Int) (l:List Int),x=.int .i64 a/\a<n/\l++upI ps a=upI ps a0/\wr.ownsRow w1.heap.size 3 1 v l.length (l.map (Value.int .i64))/\Below w1.heap.size w1 wr) (fun x _ _=>(intOf x+1).toNat)
 case atStart=>exact⟨a0,[],rfl,ha,rfl,World.ownsRow_nil _ _ _ _,Below.refl _ _⟩
 case round =>
  obtain⟨a,l,rfl,hal,hl,hown,hnx⟩:=hrel;have hll:l.length<=n:=by
   have h1:=congrArg List.length hl;have h2:=upI_len ps a0;rw[List.length_append] at h1;omega
  have hr2:=(hnx.cell (p:=⟨w.heap.size,0,none⟩) (by simp;omega)).trans hz2
  go_wp2_with (first
   | (at_builtin;refine wpList_append_own _ rfl _ _ 26 rfl w1.heap.size 3 i0 (.int .i64 0) 1 8 underlying26 hi hz0 hz1 hz2' rfl (by decide) _ _ _ rfl (hown.alloc _) ⟨wr.heap.size,0,none⟩ 1 1 [.int .i64 a] rfl rfl ?c1 ?c2 ?c3 ?c4 ?c5 ?_)
   | (go_at_call 277;refine(rev hown hnx (by omega)).mono ?_;rintro e w3 ⟨rfl,hown3,hnx3⟩)
   | go_in)
  case c1 =>
   intro j u hj
   match j,hj with
   | 0,hj=>simp at hj;subst hj;simp[Addr.add]
  case c2=>intro u hu;simp at hu;subst hu;rfl
  case c3=>unfold maxLen;omega
  case c4=>omega
  case c5=>have:=hnx.size;simp;omega
  .intro v' w2 hown' hgrow hne;have h0:0<=a:=by assumption
   obtain⟨k,rfl⟩:=Int.eq_ofNat_of_zero_le h0;have hnx1:Below w1.heap.size w1 w2:=(hnx.alloc (by have:=hnx.size;omega) _).grown hgrow (by have:=hnx.size;simp;omega) (fun q hq=>(hown.lt q hq).1)
   have hr3:=(hnx1.cell (p:=⟨w.heap.size,0,none⟩) (by simp;omega)).trans hz2;have hr4:=(hnx1.cell (p:=⟨b,off+k*4+1,none⟩) (by simp;omega)).trans (hcc k (by omega));have hup:=upI_up (ps:=ps) h0 (by have:=hp k (by omega);simpa using this);rw[hup,Int.toNat_natCast] at hl;clear hgrow hown hnx hne
   go_wp2
   refine⟨⟨ps.getD k 0,l++[(k:Int)],rfl,by have:=hp k (by omega);omega,by rw[List.append_assoc];exact hl,by simpa[hsz] using hown',hnx1⟩,?_⟩;have:=hp k (by omega)
   simp at this;simp[intOf];omega
  .go_ret
   have h0:a<0:=by assumption
   rw[upI_neg h0,List.append_nil] at hl;rw[<-hl];exact⟨_,rfl,own_le hown3 (by omega),hbel.trans (hnx3.mono (by omega))⟩
end Go.Proofs.YtainalmfffjnjaaGreatDoor.line
namespace Go.AM
open Go Go.Proofs Go.RowKit
open Go.Proofs.Tryz
abbrev Ty.pars(t:Ty):List Int:=t.nodes.map NT.par
theorem pars_getD(t:Ty){j:Nat}(h:j<t.nodes.length):t.pars.getD j 0=(t.nd j).par:=by simp[Ty.pars,Ty.nd,h]
theorem rvd_pars{c:Addr->Option Value}{ps:Addr->Prop}{l:List NT}{v:Value}(h:RVd c ps (nts l) v):
  ∃A cap,v=.slice A l.length cap/\l.length<=cap/\cap<=maxLen/\(l≠[]->∃a,A=some a)/\∀a,A=some a->∀i (hi:i<l.length),c (a.add (i*4))=some (.string l[i].name)/\c (a.add (i*4+1))=some (.int .i64 l[i].par):=by
 unfold nts at h;generalize hes:l.map NT.cells=es at h;cases h with
 | @sl _ _ A cap u hcap hmax hsz hA hc hr =>
  have hl:es.length=l.length:=by rw[<-hes];simp
  refine⟨A,cap,by rw[hl],by omega,hmax,fun hne=>hA (by intro e;rw[e] at hl;exact hne (List.length_eq_zero_iff.1 hl.symm)),fun a ha i hi=>⟨?_,?_⟩⟩
  .have g:=(hc a ha i 0 (by omega) (by decide)).2;have r:=hr i 0 (by omega) (by rw[hsz _ (List.getElem_mem _)];decide);have e1:es[i][0]'(by rw[hsz _ (List.getElem_mem _)];decide)=D.raw (.string l[i].name):=by
    subst hes;simp
   rw[e1] at r;have e2:u i 0=.string l[i].name:=by
    generalize hu:u i 0=x at r;cases r;rfl
   rw[<-e2];exact g
  .have g:=(hc a ha i 1 (by omega) (by decide)).2;have r:=hr i 1 (by omega) (by rw[hsz _ (List.getElem_mem _)];decide);have e1:es[i][1]'(by rw[hsz _ (List.getElem_mem _)];decide)=D.raw (.int .i64 l[i].par):=by
    subst hes;simp
   rw[e1] at r;have e2:u i 1=.int .i64 l[i].par:=by
    generalize hu:u i 1=x at r;cases r;rfl
   rw[<-e2];exact g
theorem line_c(t:Ty)(ht:t.nodes.length<=1000000)(a:Int)(h0:0<=a)(ha:a<t.nodes.length)(hp:∀j,j<t.nodes.length->(t.nd j).par<j):DC 236 [t.av,I a] (.d (ints (upI t.pars a).reverse)):=by
 intro tok nt box nb;refine⟨Enters.mk func236 rfl (by kernel_rfl),fun G w vals hm hr=>?_⟩;obtain⟨hlen,hrv⟩:=hr
 match vals,hlen with
 | [v,x],_ =>
  have h0:=hrv 0 (by simp) (by simp);have h1:=hrv 1 (by simp) (by simp);simp only[List.getElem_cons_zero,List.getElem_cons_succ] at h0 h1;cases h1 with
  | d h1 =>
  cases h1 with
  | raw h1 =>
  cases h0 with
  | @agg _ vs hl h2 h3 =>
   match vs,hl with
   | [v1,v2],_ =>
    have h4:=h2 0 (by simp) (by simp);simp only[List.getElem_cons_zero] at h4;cases h4 with
    | d h4 =>
     obtain⟨A,cap,rfl,hcap,hmax,hA,hc⟩:=rvd_pars h4;have e:t.nodes≠[]:=by intro e;rw[e] at ha;simp at ha;omega
     obtain⟨a1,rfl⟩:=hA e;have hp0:0<t.nodes.length:=List.length_pos_iff.2 e
     have hc':=hc a1 rfl
     have hs:a1.spot=none:=by
      cases hsp:a1.spot with
      | none=>rfl
      | some q =>
       exfalso
       have:=(hc' 0 hp0).1
       simp only[World.cell?,Addr.add,hsp,Option.isSome_some,↓reduceIte] at this;split at this<;>simp at this
     obtain⟨b,off,sp⟩:=a1;simp only at hs;subst hs;have hcc:∀j,j<t.nodes.length->w.cell? ⟨b,off+j*4+1,none⟩=some (.int .i64 (t.pars.getD j 0)):=fun j hj=>by
      have h1:=(hc' j hj).2;rw[pars_getD t hj,nd_at hj];unfold Addr.add at h1;split at h1
      .rename_i e;omega
      .rw[show off+j*4+1=off+(j*4+1) by omega];exact h1
     have hbw:b<w.heap.size:=lt_of_cell (hcc 0 hp0)
     refine(YtainalmfffjnjaaGreatDoor.line.any b off t.nodes.length cap v2 a t.pars w (by simp) ht (by omega) (fun j hj=>by rw[pars_getD t hj];exact hp j hj) hbw hcc).mono ?_;rintro e w' ⟨v,rfl,hown,hb⟩;refine⟨v,_,_,G,rfl,⟨rfl,rfl⟩,rfl,relM_below hm hb,.d (rvd_owns hm (by rw[List.length_reverse];exact hown)),le_below hm hb,fun k hk=>⟨hk,rfl⟩⟩
theorem Ty.Fit.hM{t:Ty}(h:t.Fit)(i:Nat):(t.nd i).own.length<=1000:=by
 by_cases hi:i<t.nodes.length
 .rw[nd_at hi];exact(h.a _ (List.getElem_mem hi)).1
 .simp[Ty.nd,List.getElem?_eq_none (Nat.le_of_not_lt hi)];exact Nat.zero_le _
theorem given1_c(t:Ty)(n:Int)(box:Bxs)(nb k:Nat)(tok:Tks)(nt:Nat)(h1:box k=some [[.d (nts t.nodes),.d (ets t.edges)]]):
  ACalls prog 235 [I n,.ptr k 0 0] ⟨box,nb,tok,nt⟩ fun v m=>v=B (!insB t n)/\m=⟨box,nb,tok,nt⟩:=by
 by_cases h0:n<0
 .rw[show insB t n=false by simp only[insB,decide_eq_false_iff_not];omega];refine sI func235 ntmps235 fun Hb Ht=>?_
  have k1n:=key_lt Hb h1;repeat first|simp[lO k1n,h1,h0]|refine sR ?_
  refine sT (sH Hb Ht ?_);simp
 .by_cases h2:(t.nodes.length:Int)<=n
  .rw[show insB t n=false by simp only[insB,decide_eq_false_iff_not];omega];refine sI func235 ntmps235 fun Hb Ht=>?_
   have k1n:=key_lt Hb h1;repeat first|simp[lO k1n,h1,h0,h2]|refine sR ?_
   refine sT (sH Hb Ht ?_);simp
  .rw[show insB t n=true by simp only[insB,decide_eq_true_eq];omega];refine sI func235 ntmps235 fun Hb Ht=>?_
   have k1n:=key_lt Hb h1;repeat first|simp[lO k1n,h1,h0,h2]|refine sR ?_
   refine sT (sH Hb Ht ?_);simp
def givE(t:Ty)(l:List Int):Int:=if tyE t=0 then (if anyB (fun a=>!insB t a) l=true then 6 else 0) else tyE t
theorem given_c(t:Ty)(ht:t.Fit)(l:List Int)(hl:l.length<=1000000):DC 171 [t.av,.d (ints l)] (I (givE t l)):=by
 intro tok nt box nb;have h1:=valid_c4 t ht ht.hM;obtain⟨N,hN⟩:∃N,givE t l=N:=⟨_,rfl⟩
 rw[hN];unfold givE at hN;generalize tyE t=E at *;generalize tyN t=Z at *;refine sI func171 ntmps171 fun Hb Ht=>?_
 repeat first|simp|refine sR ?_
 refine sD (h1 _ _) ?_;repeat first|simp|refine sR ?_
 by_cases e1:E=0
 .rw[if_pos e1] at hN;obtain⟨p,hpp⟩:∃p:Int->Bool,(fun a=>!insB t a)=p:=⟨_,rfl⟩
  have h2:=fun y box nb k hbk=>given1_c t y box nb k tok nt hbk
  have hpy:∀y:Int,(!insB t y)=p y:=fun y=>by rw[<-hpp]
  simp only[hpy] at h2;rw[hpp] at hN;refine sC ?_;simp[e1];repeat first|simp|refine sR ?_
  refine Stop.of_b (containsFunc_c l 235 [.ptr (nb+2) 0 0] p hl _ _ _ _ (fun c hc=>by rw[List.mem_singleton.1 hc];simp[lb_at]) (fun y hy box' nb' he=>h2 y box' nb' _ (he _ _ (by simp[lb_at])))) ?_;simp;cases e2:anyB p l
  .rw[e2,if_neg (by simp)] at hN;repeat first|simp|refine sR ?_
   refine sC ?_;repeat first|simp|refine sR ?_
   refine sT (sH Hb Ht ?_);simp[<-hN]
  .rw[e2,if_pos rfl] at hN;repeat first|simp|refine sR ?_
   refine sC ?_;repeat first|simp|refine sR ?_
   refine sT (sH Hb Ht ?_);simp[<-hN]
 .rw[if_neg e1] at hN;have b1:(E != 0)=true:=by simp[e1]
  refine sC ?_;simp[b1];repeat first|simp|refine sR ?_
  refine sT (sH Hb Ht ?_);simp[<-hN]
def isB(t:Ty)(a b:Int):Bool:=decide (b∈upI t.pars a)
theorem is_c(t:Ty)(ht:t.Fit)(a b:Int)(h0:0<=a)(ha:a<t.nodes.length)(hp:∀j,j<t.nodes.length->(t.nd j).par<j):DC 172 [t.av,I a,I b] (B (isB t a b)):=by
 intro tok nt box nb;have hc:=line_c t (by have:=ht.n;omega) a h0 ha hp;have hlen:=upI_len t.pars a;have htn:=ht.n;obtain⟨N,hN⟩:∃N,isB t a b=N:=⟨_,rfl⟩
 rw[hN];unfold isB at hN;have hN2:decide (b∈(upI t.pars a).reverse)=N:=by rw[<-hN];simp
 have hl2:(upI t.pars a).reverse.length<=1000000:=by rw[List.length_reverse];omega
 generalize (upI t.pars a).reverse=L at *;have hk:=contains_c L b hl2;rw[hN2] at hk;refine sI func172 ntmps172 fun Hb Ht=>?_
 repeat first|simp|refine sR ?_
 refine sD (hc _ _) ?_;repeat first|simp|refine sR ?_
 refine sD (hk _ _) ?_;repeat first|simp|refine sR ?_
 refine sT (sH Hb Ht ?_);simp
theorem tyE_par{t:Ty}(h:tyE t=0):∀j,j<t.nodes.length->(t.nd j).par<j:=by
 unfold tyE at h;split at h
 .cases h
 .split at h
  .cases h
  .split at h
   .cases h
   .split at h
    .rename_i h1;exact absurd h h1
    .rename_i h1;exact fun j hj=>nodE_par (firstE_allZ _ (Decidable.not_not.1 h1) j hj)
def fitB(t:Ty)(e a b:Int):Bool :=
 if givE t [a,b]=0 then (if 0<=e then (if e<t.edges.length then (if isB t a (t.ed e.toNat).fr=true then isB t b (t.ed e.toNat).to else false) else false) else false) else false
theorem givE_in{t:Ty}{l:List Int}(h:givE t l=0):tyE t=0/\∀a∈l,0<=a/\a<t.nodes.length:=by
 unfold givE at h;split at h
 .rename_i h1;split at h
  .cases h
  .rename_i h2;refine⟨h1,fun a ha=>?_⟩;simp only[anyB,List.any_eq_true,not_exists,not_and] at h2;have:=h2 a ha
   simpa[insB] using this
 .rename_i h1;exact absurd h h1
theorem fits_c4(t:Ty)(ht:t.Fit)(e a b:Int):DC 137 [t.av,I e,I a,I b] (B (fitB t e a b)):=by
 intro tok nt box nb;have h1:=given_c t ht [a,b] (by simp);have hin:=@givE_in t [a,b];obtain⟨N,hN⟩:∃N,fitB t e a b=N:=⟨_,rfl⟩
 rw[hN];unfold fitB at hN;generalize givE t [a,b]=E at *;refine sI func137 ntmps137 fun Hb Ht=>?_
 repeat first|simp|refine sR ?_
 refine⟨rfl,?_⟩;refine Stop.data ?_;refine sD (h1 _ _) ?_;simp;by_cases e1:E=0
 .obtain⟨htE,hin⟩:=hin e1;have ha:=hin a (by simp);have hb:=hin b (by simp);rw[if_pos e1] at hN;by_cases e2:0<=e
  .have e2':¬e<0:=by omega
   rw[if_pos e2] at hN;by_cases e3:e<t.edges.length
   .have e3':¬(t.edges.length:Int)<=e:=by omega
    rw[if_pos e3] at hN;obtain⟨k,rfl⟩:=Int.eq_ofNat_of_zero_le e2;have hk:k<t.edges.length:=by omega
    rw[Int.toNat_natCast,ed_at hk] at hN;have c1:=is_c t ht a t.edges[k].fr ha.1 ha.2 (tyE_par htE);have c2:=is_c t ht b t.edges[k].to hb.1 hb.2 (tyE_par htE);repeat first|simp[e1,e2',e3',hk]|refine sR ?_
    refine sC ?_;simp[e1,e2',e3',hk];repeat first|simp[hk]|refine sR ?_
    refine sD (c1 _ _) ?_;simp;cases f1:isB t a t.edges[k].fr
    .rw[f1,if_neg (by simp)] at hN;repeat first|simp|refine sR ?_
     refine sT (sH Hb Ht ?_);simp[<-hN]
    .rw[f1,if_pos rfl] at hN;repeat first|simp[hk]|refine sR ?_
     refine sD (c2 _ _) ?_;repeat first|simp|refine sR ?_
     refine sT (sH Hb Ht ?_);simp[<-hN]
   .have e3':(t.edges.length:Int)<=e:=by omega
    rw[if_neg e3] at hN;repeat first|simp[e1,e2',e3']|refine sR ?_|refine sC ?_
    refine sT (sH Hb Ht ?_);simp[<-hN]
  .have e2':e<0:=by omega
   rw[if_neg e2] at hN;repeat first|simp[e1,e2']|refine sR ?_|refine sC ?_
   refine sT (sH Hb Ht ?_);simp[<-hN]
 .rw[if_neg e1] at hN;have b1:(E != 0)=true:=by simp[e1]
  repeat first|simp[b1]|refine sR ?_|refine sC ?_
  refine sT (sH Hb Ht ?_);simp[<-hN]
def leafB(t:Ty)(k:Int):Bool:=!anyB (fun n=>n.par==k) t.nodes
def allP{α:Type}(p:α->Bool)(l:List α):Bool:=l.all p
theorem all_no{α:Type}{p:α->Bool}{l:List α}{i:Nat}(h:i<l.length)(hp:p l[i]=false):allP p l=false:=by
 unfold allP;rw[<-Bool.not_eq_true,List.all_eq_true];intro h2;have:=h2 _ (List.getElem_mem h)
 rw[hp] at this;cases this
theorem all_more{α:Type}{p:α->Bool}{l:List α}{i:Nat}(h:i<l.length)(h1:allP p (l.take i)=true)(hp:p l[i]=true):allP p (l.take (i+1))=true:=by
 unfold allP at *;rw[List.take_succ_eq_append_getElem h,List.all_append,h1];simp[hp]
def lvN(t:Ty)(n:Int):Bool:=if (t.nodes.length:Int)<=n then false else leafB t n
def lvE(t:Ty)(g:Gr)(e:E):Bool:=fitB t e.ty (g.nodes.getD e.fr.toNat 0) (g.nodes.getD e.to.toNat 0)
def lvsB(t:Ty)(g:Gr):Bool:=if allP (lvN t) g.nodes=true then allP (lvE t g) g.edges else false
structure Xt where
 m:Mo
 g:Gr
structure Co where
 name:ByteArray
 kind:Int
 g:Gr
 exts:List Xt
abbrev Xt.cells(x:Xt):List D:=[ints x.m.nodes,ints x.m.edges,ints x.g.nodes,AM.edges x.g.edges]
abbrev xts(l:List Xt):D:=.sl 4 (l.map Xt.cells)
abbrev Xt.av(x:Xt):AV:=.agg [.d (ints x.m.nodes),.d (ints x.m.edges),.d (ints x.g.nodes),.d (AM.edges x.g.edges)]
abbrev Co.row(c:Co):List AV:=[Sb c.name,I c.kind,.d (ints c.g.nodes),.d (AM.edges c.g.edges),.d (xts c.exts)]
abbrev Co.av(c:Co):AV:=.agg c.row
structure Xt.Fit (x:Xt):Prop where
 m:x.m.Fit
 g:x.g.Fit
structure Co.Fit (c:Co):Prop where
 name:c.name.size<=200000000000000
 g:c.g.Fit
 n:c.exts.length<=1000000
 exts:∀x∈c.exts,x.Fit
def lrgB(g:Gr):Bool:=if 6<g.nodes.length then true else decide (8<g.edges.length)
def xtE(p:Gr)(x:Xt):Int:=if validM p x.g x.m≠0 then validM p x.g x.m else if lrgB x.g=true then 3 else if injM p x.g x.m=true then 0 else 1
def xtAt(c:Co)(i:Nat):Int:=match c.exts[i]? with|some x=>xtE c.g x|none=>0
theorem xtAt_at{c:Co}{i:Nat}(h:i<c.exts.length):xtAt c i=xtE c.g c.exts[i]:=by simp[xtAt,h]
def kdE(c:Co):Int :=
 if c.kind=1 then if c.exts=[] then 0 else 1 else if c.kind=2 then if c.exts=[] then 7 else if 6<c.exts.length then 3 else 0 else 1
def shpE(c:Co):Int :=
 if nameB c.name=false then 2 else if kdE c≠0 then kdE c else if vG c.g≠0 then vG c.g else if lrgB c.g=true then 3 else firstE (xtAt c) c.exts.length
def lvX(t:Ty)(c:Co):Bool:=if lvsB t c.g=true then allP (fun x:Xt=>lvsB t x.g) c.exts else false
def cnE(t:Ty)(c:Co):Int:=if tyE t≠0 then tyE t else if shpE c≠0 then shpE c else if lvX t c=true then 0 else 13
theorem shpE_zero{c:Co}(h:shpE c=0):nameB c.name=true/\kdE c=0/\vG c.g=0/\lrgB c.g=false/\∀x∈c.exts,validM c.g x.g x.m=0/\lrgB x.g=false/\injM c.g x.g x.m=true:=by
 unfold shpE at h;split at h
 .cases h
 rename_i h1;split at h
 .rename_i h2;exact absurd h h2
 rename_i h2;split at h
 .rename_i h3;exact absurd h h3
 rename_i h3;split at h
 .cases h
 rename_i h4;refine⟨by simpa using h1,by simpa using h2,by simpa using h3,by simpa using h4,fun x hx=>?_⟩;obtain⟨i,hi,rfl⟩:=List.getElem_of_mem hx;have h5:=firstE_allZ _ h i hi;rw[xtAt_at hi] at h5;unfold xtE at h5;split at h5
 .rename_i h6;exact absurd h5 h6
 rename_i h6;split at h5
 .cases h5
 rename_i h7;split at h5
 .rename_i h8;exact⟨by simpa using h6,by simpa using h7,h8⟩
 .cases h5
def valE(A:List At)(vals:List Int)(i:Nat):Int:=if vals.getD i 0<(A.getD i ⟨eB,0,0,[]⟩).lo∨(A.getD i ⟨eB,0,0,[]⟩).hi<vals.getD i 0 then 6 else 0
def hnodE(t:Ty)(A:List At)(k:Int)(vals:List Int):Int :=
 if (t.nodes.length:Int)<=k then 6 else if (t.nd k.toNat).abs=true then 13 else if vals.length≠A.length then 20 else firstE (valE A vals) A.length
def stNdE(A:List At)(vals:List Int)(nb:Nat)(box:Bxs)(tok:Tks)(nt:Nat)(i:Nat):AS :=
 ⟨tl [(33,.d (atts A)),(34,I A.length),(35,I i),(2,.d (ints vals))],lb nb box [],tok,nt⟩
set_option maxRecDepth 100000 in
theorem hnode_c(t:Ty)(A:List At)(hA:A.length<=1000000)(k:Int)(hk:0<=k)(vals:List Int)(tok:Tks)(nt:Nat)(hat:k<(t.nodes.length:Int)->(t.nd k.toNat).abs=false->DCall prog 265 [t.av,I k] tok nt (.tup [.d (atts A),I 0]) tok nt):
  DCall prog 229 [t.av,I k,.d (ints vals)] tok nt (I (hnodE t A k vals)) tok nt:=by
 intro box nb;obtain⟨Res,hRes⟩:∃Res,hnodE t A k vals=Res:=⟨_,rfl⟩
 rw[hRes];unfold hnodE at hRes;refine sI func229 ntmps229 fun Hb Ht=>?_
 by_cases c1:(t.nodes.length:Int)<=k
 .have b1:decide ((t.nodes.length:Int)<=k)=true:=by simpa using c1
  rw[if_pos c1] at hRes;subst hRes;try (simp[c1,b1])
  repeat ((first|refine sR ?_|refine sC ?_|refine sX ?_);simp[c1,b1])
  refine sT (sH Hb Ht ?_);simp
 rw[if_neg c1] at hRes;have b1:decide ((t.nodes.length:Int)<=k)=false:=by simpa using c1
 have hk1:k.toNat<t.nodes.length:=by omega
 have hk2:k<(t.nodes.length:Int):=by omega
 have hnd:t.nd k.toNat=t.nodes[k.toNat]:=by simp[Ty.nd,hk1]
 rw[hnd] at hRes hat;cases e1:t.nodes[k.toNat].abs
 .rw[e1] at hRes;simp only[Bool.false_eq_true,↓reduceIte] at hRes;have hat:=hat hk2 e1;try (simp[c1,b1,hk,hk1,hk2,e1])
  repeat ((first|refine sR ?_|refine sC ?_|refine sX ?_);simp[c1,b1,hk,hk1,hk2,e1])
  refine sD (hat) ?_;simp;by_cases c2:vals.length=A.length
  .have b2:((vals.length:Int) != (A.length:Int))=false:=by simp[c2]
   rw[if_neg (fun h=>h c2)] at hRes;try (simp[b2,c2])
   repeat ((first|refine sR ?_|refine sC ?_|refine sX ?_);simp[b2,c2])
   refine sN ?_;refine sL (stNdE A vals nb box tok nt) (fun i=>i<=A.length/\firstE (valE A vals) i=0) (fun i=>A.length-i) 0 ⟨Nat.zero_le _,rfl⟩ wkA ?_;rintro i S ⟨hi,h0⟩ hS;simp only[stNdE] at hS;subst hS;have hw:=sW (i:=i) (by omega);repeat first|simp|refine sR ?_|refine sC ?_
   refine⟨fun hlt=>?_,fun hge=>?_⟩
   .have hv:i<vals.length:=by omega
    have hve:valE A vals i=if vals[i]<A[i].lo∨A[i].hi<vals[i] then 6 else 0:=by simp[valE,hv,hlt]
    by_cases c3:vals[i]<A[i].lo
    .have b3:decide (vals[i]<A[i].lo)=true:=by simpa using c3
     rw[if_pos (.inl c3)] at hve;rw[firstE_stop h0 (by rw[hve];decide) _ hlt,hve] at hRes;subst hRes;try (simp[hlt,hv,c3,b3])
     repeat ((first|refine sR ?_|refine sC ?_|refine sX ?_);simp[hlt,hv,c3,b3])
     refine sT (sH Hb Ht ?_);simp
    .have b3:decide (vals[i]<A[i].lo)=false:=by simpa using c3
     by_cases c4:A[i].hi<vals[i]
     .have b4:decide (A[i].hi<vals[i])=true:=by simpa using c4
      rw[if_pos (.inr c4)] at hve;rw[firstE_stop h0 (by rw[hve];decide) _ hlt,hve] at hRes;subst hRes;try (simp[hlt,hv,c3,b3,c4,b4])
      repeat ((first|refine sR ?_|refine sC ?_|refine sX ?_);simp[hlt,hv,c3,b3,c4,b4])
      refine sT (sH Hb Ht ?_);simp
     .have b4:decide (A[i].hi<vals[i])=false:=by simpa using c4
      rw[if_neg (fun h=>h.elim c3 c4)] at hve;try (simp[hlt,hv,c3,b3,c4,b4,hw])
      repeat ((first|refine sR ?_|refine sC ?_|refine sX ?_);simp[hlt,hv,c3,b3,c4,b4,hw])
      refine sE ?_;exact⟨i+1,⟨hlt,by simp only[firstE,h0,↓reduceIte];exact hve⟩,by omega,wkA⟩
   .refine sX ?_;simp only[AU,↓reduceIte];have:i=A.length:=by omega
    subst this;rw[h0] at hRes;subst hRes;try (simp)
    repeat ((first|refine sR ?_|refine sC ?_|refine sX ?_);simp)
    refine sT (sH Hb Ht ?_);simp
  .have b2:((vals.length:Int) != (A.length:Int))=true:=by simpa using fun h=>c2 (by omega)
   rw[if_pos c2] at hRes;subst hRes;try (simp[b2,c2])
   repeat ((first|refine sR ?_|refine sC ?_|refine sX ?_);simp[b2,c2])
   refine sT (sH Hb Ht ?_);simp
 .rw[e1,if_pos rfl] at hRes;subst hRes;try (simp[c1,b1,hk,hk1,hk2,e1])
  repeat ((first|refine sR ?_|refine sC ?_|refine sX ?_);simp[c1,b1,hk,hk1,hk2,e1])
  refine sT (sH Hb Ht ?_);simp
end Go.AM
