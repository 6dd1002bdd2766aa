/-
 Parts of the proof, as merged from many texts: a machine over data, what the functions compute, plain laws.
-/
import Derived.Test.YtebmobphgaiaiaaGreatPCG5
import Derived.Shelf.Sort.Plain
import Derived.Ground.Names2Prog
import Derived.Shelf.Slices.Clone
import Derived.Shelf.Slices.CompactI
import Derived.Shelf.Slices.In.SortNone
import Derived.Test.YtebmobphgaiaiaaGreatProg
import Derived.Test.YtebmobphgaiaiaaGreatChecked
import Derived.WalkKit
import Derived.Deep.LoopGhost
import Derived.Sort.OwnSortedInts
import Derived.Lib.OwnBridge
set_option linter.unusedSimpArgs false
set_option linter.unusedVariables false
namespace Go.AM
open Go Go.Proofs
open Tryz
structure Adv (tok:Tks) (nt:Nat) (own:Own) (tok':Nat->Bool) (nt':Nat) (own':Own):Prop where
 keep:∀t,tok t=true->own≠.tok t->tok' t=true
 le:nt<=nt'
 live:own'.liveP tok'
 new:own'=own∨∃t,own'=.tok t/\nt<=t
 lt:∀t,tok' t=true->t<nt'
theorem Adv.refl{tok:Nat->Bool}{nt:Nat}{own:Own}(h:own.liveP tok)(hl:∀t,tok t=true->t<nt):Adv tok nt own tok nt own:=⟨fun _ h _=>h,nr _,h,.inl rfl,hl⟩
theorem Adv.trans{t1 t2 t3:Nat->Bool}{n1 n2 n3:Nat}{o1 o2 o3:Own}(hl:∀t,t1 t=true->t<n1)(h:Adv t1 n1 o1 t2 n2 o2)(k:Adv t2 n2 o2 t3 n3 o3):Adv t1 n1 o1 t3 n3 o3:=by
 refine⟨fun t ht ho=>k.keep t (h.keep t ht ho) (fun e=>?_),Nat.le_trans h.le k.le,k.live,?_,k.lt⟩
 .rcases h.new with e2|⟨s,e2,hs⟩
  .exact ho (e2 ▸ e)
  .rw[e2] at e;cases e;have:=hl _ ht
   omega
 .rcases k.new with e2|⟨s,e2,hs⟩
  .rw[e2];exact h.new
  .exact .inr ⟨s,e2,Nat.le_trans h.le hs⟩
theorem Adv.fresh{tok:Nat->Bool}{nt:Nat}{own:Own}(h:own.liveP tok)(hl:∀t,tok t=true->t<nt):Adv tok nt own (upd (upd (upd tok nt true) nt false) (nt+1) true) (nt+2) own:=by
 have key:∀t,t<nt->(upd (upd (upd tok nt true) nt false) (nt+1) true) t=tok t:=fun t ht=>by
  rw[uO _ _ (by omega),uO _ _ (by omega),uO _ _ (by omega)]
 refine⟨fun t ht _=>by rw[key t (hl t ht)];exact ht,by omega,?_,.inl rfl,fun t ht=>?_⟩
 .cases own with
  | full=>trivial
  | tok t=>simp only[live_tok] at h ⊢;rw[key t (hl t h)];exact h
 .by_cases e:t=nt+1
  .omega
  .rw[uO _ _ e] at ht;by_cases e2:t=nt
   .omega
   .rw[uO _ _ e2,uO _ _ e2] at ht;have:=hl t ht
    omega
theorem Adv.app{tok:Nat->Bool}{nt:Nat}{own:Own}(h:own.liveP tok)(hl:∀t,tok t=true->t<nt):Adv tok nt own (upd (own.kill tok) nt true) (nt+1) (.tok nt):=by
 refine⟨fun t ht ho=>?_,by omega,by simp[uS],.inr ⟨nt,rfl,nr _⟩,fun t ht=>?_⟩
 .have:=hl t ht
  rw[uO _ _ (by omega)];cases own with
  | full=>exact ht
  | tok s=>simp only[kill_tok];rw[uO _ _ (fun e=>ho (by rw[e]))];exact ht
 .by_cases e:t=nt
  .omega
  .rw[uO _ _ e] at ht;cases own with
   | full=>have:=hl t ht;omega
   | tok s =>
    simp only[kill_tok] at ht;by_cases e2:t=s
    .subst e2;rw[uS] at ht;cases ht
    .rw[uO _ _ e2] at ht;have:=hl t ht
     omega
theorem upd_upd{α:Type}(f:Nat->α)(k:Nat)(x y:α):upd (upd f k x) k y=upd f k y:=by
 funext j
 simp only[upd];split<;>rfl
theorem E.eq_and(x y:E):(decide (x.ty=y.ty)&&(decide (x.fr=y.fr)&&decide (x.to=y.to)))=decide (x=y):=by
 cases x;cases y;simp
def wantE(b:Gr)(nodes es:List Int):E :=
 let x:=b.edges.getD es.length default
 ⟨x.ty,nodes.getD x.fr.toNat 0,nodes.getD x.to.toNat 0⟩
def ovE(a b:Gr)(nodes:List Int):Nat->List Int->List Ov->List Ov
 | 0,es,out=>if 2000<out.length then out else out++[glue a b nodes es]
 | n+1,es,out=>if 2000<out.length then out else
   (List.range a.edges.length).foldl (fun (out:List Ov) (k:Nat)=>if a.edges.getD k default=wantE b nodes es/\(k:Int)∉es then ovE a b nodes n (es++[(k:Int)]) out else out) (ovE a b nodes n (es++[-1]) out)
structure OvH (a b:Gr) (nodes:List Int):Prop where
 fa:a.Fit
 va:vG a=0
 fb:b.Fit
 n:nodes.length=b.nodes.length
 x:∀e∈b.edges,0<=e.fr/\e.fr<nodes.length/\0<=e.to/\e.to<nodes.length
abbrev ovRow(a b:Gr)(out:List Ov)(own:Own):List AV:=[.d (ints a.nodes),.d (AM.edges a.edges),.d (ints b.nodes),.d (AM.edges b.edges),.osl 6 (out.map Ov.cells) own]
def QOv(a b:Gr)(box:Bxs)(nb k:Nat)(tok:Tks)(nt:Nat)(own:Own)(out:List Ov)(v:AV)(m:AMem):Prop :=
 v=.tup []/\∃own' tok' nt',m=⟨upd box k (some [ovRow a b out own']),nb,tok',nt'⟩/\Adv tok nt own tok' nt' own'
structure AccO where
 i:Nat
 out:List Ov
 own:Own
 tok:Nat->Bool
 nt:Nat
def ovStep(a b:Gr)(nodes:List Int)(n:Nat)(es:List Int)(out:List Ov)(k:Nat):List Ov:=if a.edges.getD k default=wantE b nodes es/\(k:Int)∉es then ovE a b nodes n (es++[(k:Int)]) out else out
def st83(a b:Gr)(nodes es:List Int)(nb k:Nat)(box:Bxs)(x:AccO):AS :=
 ⟨tl [(0,.ptr k 0 0),(1,.d (ints nodes)),(2,.d (ints es)),(7,.ptr (nb+7) 0 0),(78,.d (AM.edges a.edges)),(79,I a.edges.length),(80,I x.i)],
  lb nb (upd box k (some [ovRow a b x.out x.own])) [(7,[[I (wantE b nodes es).ty,I (wantE b nodes es).fr,I (wantE b nodes es).to]])],x.tok,x.nt⟩
theorem outOk{a b:Gr}{out:List Ov}{own:Own}{box:Bxs}{k base:Nat}{p q:Nat->Prop}(hq:q=fun _=>True):∀k' rows,k'<base->(upd box k (some [ovRow a b out own])) k'=some rows->box k'=some rows∨∀r∈rows,∀x∈r,OkIn p q x:=by
 subst hq;intro k' rows hk' hr;by_cases e:k'=k
 .subst e;rw[uS] at hr;cases hr;exact .inr (by simp)
 .rw[uO _ _ e] at hr;exact .inl hr
theorem edges_c(a b:Gr)(nodes:List Int)(h:OvH a b nodes):∀(n:Nat) (es:List Int) (out:List Ov) (own:Own) (box:Bxs) (nb k:Nat) (tok:Tks) (nt:Nat),es.length+n=b.edges.length ->
  box k=some [ovRow a b out own]->own.liveP tok->ACalls prog 175 [.ptr k 0 0,.d (ints nodes),.d (ints es)] ⟨box,nb,tok,nt⟩ (QOv a b box nb k tok nt own (ovE a b nodes n es out)):=by
 intro n;induction n with
 | zero =>
  intro es out own box nb k tok nt hes hk hlive;have hself:box=upd box k (some [ovRow a b out own]):=(upd_self box k _ hk).symm
  refine sI func175 ntmps175 fun Hb Ht=>?_
  have hkn:=key_lt Hb hk;refine sR ?_;simp[lO hkn,hk];refine sC ?_;simp;refine⟨fun hbig=>?_,fun hsm=>?_⟩
  .refine sN ?_;refine AL.ret ?_;try simp only[AU]
   refine⟨by simp,(Fin.own (vs:=[]) (av:=.tup []) (by simp[resAs,resA]) Hb rfl (nr _) (by simp)).mono fun v m hq=>⟨hq.1,own,tok,nt,?_,Adv.refl hlive Ht⟩⟩;have hbig':2000<out.length:=by omega
   rw[hq.2,ovE,if_pos hbig',<-hself]
  .have hsm':¬2000<out.length:=by omega
   have hes':es.length=b.edges.length:=by omega
   refine sR ?_;simp[lO hkn,hk];refine sC ?_;simp;refine⟨fun _=>?_,fun hne=>absurd (by omega) hne⟩;have hbe:=h.fb.e;have hbn:=h.fb.n;refine sR ?_;simp[lO hkn,hk];refine sD (glued_c a b nodes es h.fa h.va (by rw[h.n];exact nr _) (by omega) (by rw[h.n];omega) (by omega) (fun i _ h2 _=>h.x _ (List.getElem_mem h2)) _ _) ?_;simp[lO hkn,hk,uL hkn];refine⟨⟨by omega,hlive⟩,?_⟩;refine sN ?_;refine AL.ret ?_;try simp only[AU]
   refine⟨by simp,(Fin.gen (vs:=[]) (av:=.tup []) (tok':=upd (own.kill tok) nt true) (nt':=nt+1) (by simp[resAs,resA]) ?_ (by omega) (nr _) (fun t h=>⟨h,.inl rfl⟩) ?_ (by simp)).mono fun v m hq=>⟨hq.1,.tok nt,upd (own.kill tok) nt true,nt+1,?_,Adv.app hlive Ht⟩⟩
   .rw[<-uL hkn,Hb]
   .intro k' rows hk' hr;by_cases e:k'=k
    .subst e;rw[uS] at hr;cases hr;exact .inr (by simp)
    .rw[uO _ _ e] at hr;exact .inl hr
   .rw[hq.2,ovE,if_neg hsm'];simp[ovRow]
 | succ n ih =>
  intro es out own box nb k tok nt hes hk hlive;have hself:box=upd box k (some [ovRow a b out own]):=(upd_self box k _ hk).symm
  have hae:=h.fa.e;have hbe:=h.fb.e;have hbn:=h.fb.n;have hlt:es.length<b.edges.length:=by omega
  obtain⟨x1,x2,x3,x4⟩:=h.x b.edges[es.length] (List.getElem_mem hlt);have y1:b.edges[es.length].fr.toNat<nodes.length:=by omega
  have y2:b.edges[es.length].to.toNat<nodes.length:=by omega
  refine sI func175 ntmps175 fun Hb Ht=>?_
  have hkn:=key_lt Hb hk;refine sR ?_;simp[lO hkn,hk];refine sC ?_;simp;refine⟨fun hbig=>?_,fun hsm=>?_⟩
  .refine sN ?_;refine AL.ret ?_;try simp only[AU]
   refine⟨by simp,(Fin.own (vs:=[]) (av:=.tup []) (by simp[resAs,resA]) Hb rfl (nr _) (by simp)).mono fun v m hq=>⟨hq.1,own,tok,nt,?_,Adv.refl hlive Ht⟩⟩;have hbig':2000<out.length:=by omega
   rw[hq.2,ovE,if_pos hbig',<-hself]
  .have hsm':¬2000<out.length:=by omega
   refine sR ?_;simp[lO hkn,hk];refine sC ?_;simp;refine⟨fun heq=>absurd heq (by omega),fun _=>?_⟩;refine sR ?_;simp[lO hkn,hk,hlt];refine sR ?_;simp[lO hkn,hk,x1,x2,x3,x4,y1,y2];refine sR ?_;simp[lO hkn,hk];refine sD (clone_c es (by omega) _ _) ?_;simp;refine⟨⟨by omega,by simp[uS]⟩,?_⟩;refine Stop.data ?_;simp only[List.map,AV.asD];rw[rI_snoc];have had:=Adv.fresh hlive Ht;refine Stop.of_a (ih (es++[-1]) out own _ _ k _ _ (by simp;omega) (by simp only[lO hkn,hk]) had.live) ?_;rintro v m' ⟨rfl,own1,tok1,nt1,rfl,hadv⟩;simp[uL hkn];have had1:Adv tok nt own tok1 nt1 own1:=had.trans Ht hadv
   clear hadv had;refine sR ?_;simp[lO hkn,uS];refine sN ?_;have hwant:wantE b nodes es=⟨b.edges[es.length].ty,nodes[b.edges[es.length].fr.toNat],nodes[b.edges[es.length].to.toNat]⟩:=by simp[wantE,hlt,y1,y2]
   refine sL (st83 a b nodes es nb k box) (fun x=>x.i<=a.edges.length/\x.out=(List.range x.i).foldl (ovStep a b nodes n es) (ovE a b nodes n (es++[-1]) out)/\Adv tok nt own x.tok x.nt x.own) (fun x=>a.edges.length-x.i)
    ⟨0,ovE a b nodes n (es++[-1]) out,own1,tok1,nt1⟩ ⟨Nat.zero_le _,rfl,had1⟩ (Weaks.mk' had1.le (by simp[ToL,lk,hwant];exact to_ptr (by rw[lO hkn,uS];simp)) (by simp[BoxL,lk,hwant]) (outOk rfl)) ?_
   rintro⟨i,out2,own2,tok2,nt2⟩ S ⟨hi,hout,hadv2⟩ hS;simp only[st83] at hS hi hout hadv2;subst hS;have hw:=sW (i:=i) (by omega);refine sR ?_;simp;refine sC ?_;simp;refine⟨fun hli=>?_,fun hge=>?_⟩
   .refine sR ?_;simp[hli];refine sR ?_;simp[lO hkn,uS];have hfold:(List.range (i+1)).foldl (ovStep a b nodes n es) (ovE a b nodes n (es++[-1]) out)=ovStep a b nodes n es out2 i:=by
     rw[List.range_succ,List.foldl_append,<-hout];rfl
    have hgi:a.edges.getD i default=a.edges[i]:=by simp[hli]
    simp only[E.eq_and];first|refine Gd.dt (fun hE=>?_) (fun hE=>?_)|refine Gd.df (fun hE=>?_) (fun hE=>?_)|refine Gd.t (fun hE=>?_) (fun hE=>?_)|refine Gd.f (fun hE=>?_) (fun hE=>?_)
    .simp[hE];refine sD (contains_c es i (by omega) _ _) ?_;simp[hE];refine sC ?_;simp;refine⟨fun hni=>?_,fun hin=>?_⟩
     .refine sR ?_;simp[lO hkn,uS];refine sD (clone_c es (by omega) _ _) ?_;simp;refine⟨⟨by omega,by simp[uS]⟩,?_⟩;refine Stop.data ?_;simp only[List.map,AV.asD];rw[rI_snoc];have had:=Adv.fresh hadv2.live hadv2.lt;refine Stop.of_a (ih (es++[(i:Int)]) out2 own2 _ _ k _ _ (by simp;omega) (by simp only[lO hkn,uS]) had.live) ?_;rintro v m' ⟨rfl,own3,tok3,nt3,rfl,hadv⟩;simp[uL hkn,upd_upd];have had3:Adv tok nt own tok3 nt3 own3:=hadv2.trans Ht (had.trans hadv2.lt hadv)
      clear hadv had;refine sR ?_;simp[hw];refine sE ?_;refine⟨⟨i+1,ovE a b nodes n (es++[(i:Int)]) out2,own3,tok3,nt3⟩,⟨hli,?_,had3⟩,by simp;omega,Weaks.mk' had3.le (by simp[ToL,lk];exact to_ptr (by rw[lO hkn,uS];simp)) (by simp[BoxL,lk]) (outOk rfl)⟩;rw[hfold,ovStep,if_pos ⟨by rw[hgi,hE],hni⟩]
     .refine sR ?_;simp[hw];refine sE ?_;refine⟨⟨i+1,out2,own2,tok2,nt2⟩,⟨hli,?_,hadv2⟩,by simp;omega,Weaks.mk' hadv2.le (by simp[ToL,lk];exact to_ptr (by rw[lO hkn,uS];simp)) (by simp[BoxL,lk]) (outOk rfl)⟩;rw[hfold,ovStep,if_neg (fun hh=>hh.2 hin)]
    .simp[hE];refine sC ?_;simp;refine sR ?_;simp[hw];refine sE ?_;refine⟨⟨i+1,out2,own2,tok2,nt2⟩,⟨hli,?_,hadv2⟩,by simp;omega,Weaks.mk' hadv2.le (by simp[ToL,lk];exact to_ptr (by rw[lO hkn,uS];simp)) (by simp[BoxL,lk]) (outOk rfl)⟩;rw[hfold,ovStep,if_neg (fun hh=>hE (by rw[<-hgi,hh.1]))]
   .refine sX ?_;simp only[AU,↓reduceIte];have hin:i=a.edges.length:=by omega
    subst hin;refine sE ?_;refine⟨by simp,(Fin.gen (vs:=[]) (av:=.tup []) (tok':=tok2) (nt':=nt2) (by simp[resAs,resA]) ?_ hadv2.le (nr _) (fun t h=>⟨h,.inl rfl⟩) (outOk (by simp)) (by simp)).mono fun v m hq=>⟨hq.1,own2,tok2,nt2,?_,hadv2⟩⟩
    .rw[<-uL hkn,Hb]
    .rw[hq.2,ovE,if_neg hsm',hout];rfl
theorem beqD(x y:Int):(x==y)=decide (x=y):=by by_cases h:x=y<;>simp[h]
def ovStepN(a b:Gr)(rec:List Int->List Ov->List Ov)(l:List Int)(out:List Ov)(k:Nat):List Ov:=if a.nodes.getD k 0=b.nodes.getD l.length 0/\(k:Int)∉l then rec (l++[(k:Int)]) out else out
def ovN(a b:Gr):Nat->List Int->List Ov->List Ov
 | 0,l,out=>if 2000<out.length then out else ovE a b l b.edges.length [] out
 | n+1,l,out=>if 2000<out.length then out else (List.range a.nodes.length).foldl (ovStepN a b (ovN a b n) l) (ovN a b n (l++[-1]) out)
structure NoH (a b:Gr):Prop where
 fa:a.Fit
 va:vG a=0
 fb:b.Fit
 x:∀e∈b.edges,0<=e.fr/\e.fr<b.nodes.length/\0<=e.to/\e.to<b.nodes.length
def st43(a b:Gr)(l:List Int)(nb k:Nat)(box:Bxs)(x:AccO):AS :=
 ⟨tl [(0,.ptr k 0 0),(1,.d (ints l)),(34,.d (ints a.nodes)),(35,I a.nodes.length),(36,I x.i)],
  lb nb (upd box k (some [ovRow a b x.out x.own])) [],x.tok,x.nt⟩
theorem nodes_c(a b:Gr)(h:NoH a b):∀(n:Nat) (l:List Int) (out:List Ov) (own:Own) (box:Bxs) (nb k:Nat) (tok:Tks) (nt:Nat),l.length+n=b.nodes.length ->
  box k=some [ovRow a b out own]->own.liveP tok->ACalls prog 92 [.ptr k 0 0,.d (ints l)] ⟨box,nb,tok,nt⟩ (QOv a b box nb k tok nt own (ovN a b n l out)):=by
 intro n;induction n with
 | zero =>
  intro l out own box nb k tok nt hl hk hlive;have hself:box=upd box k (some [ovRow a b out own]):=(upd_self box k _ hk).symm
  refine sI func92 ntmps92 fun Hb Ht=>?_
  have hkn:=key_lt Hb hk;refine sR ?_;simp[lO hkn,hk];refine sC ?_;simp;refine⟨fun hbig=>?_,fun hsm=>?_⟩
  .refine sN ?_;refine AL.ret ?_;try simp only[AU]
   refine⟨by simp,(Fin.own (vs:=[]) (av:=.tup []) (by simp[resAs,resA]) Hb rfl (nr _) (by simp)).mono fun v m hq=>⟨hq.1,own,tok,nt,?_,Adv.refl hlive Ht⟩⟩;have hbig':2000<out.length:=by omega
   rw[hq.2,ovN,if_pos hbig',<-hself]
  .have hsm':¬2000<out.length:=by omega
   have hl':l.length=b.nodes.length:=by omega
   refine sR ?_;simp[lO hkn,hk];refine sC ?_;simp;refine⟨fun _=>?_,fun hne=>absurd (by omega) hne⟩;have hbe:=h.fb.e;have hbn:=h.fb.n;refine sR ?_;simp[lO hkn,hk];refine Stop.sub (args':=[.ptr k 0 0,.d (ints l),.d (ints [])]) ⟨Sub.refl _,Sub.refl _,Sub.nil _ _ _,trivial⟩ ?_;refine Stop.of_a (edges_c a b l ⟨h.fa,h.va,h.fb,hl',by rw[hl'];exact h.x⟩ b.edges.length [] out own _ _ k _ _ (by simp) (by simp only[lO hkn,hk]) hlive) ?_;rintro v m' ⟨rfl,own1,tok1,nt1,rfl,hadv⟩;simp[uL hkn];refine sN ?_;refine AL.ret ?_;try simp only[AU]
   refine⟨by simp,(Fin.gen (vs:=[]) (av:=.tup []) (tok':=tok1) (nt':=nt1) (by simp[resAs,resA]) ?_ hadv.le (nr _) (fun t h=>⟨h,.inl rfl⟩) (outOk (by simp)) (by simp)).mono fun v m hq=>⟨hq.1,own1,tok1,nt1,?_,hadv⟩⟩
   .rw[<-uL hkn,Hb]
   .rw[hq.2,ovN,if_neg hsm']
 | succ n ih =>
  intro l out own box nb k tok nt hl hk hlive;have hself:box=upd box k (some [ovRow a b out own]):=(upd_self box k _ hk).symm
  have han:=h.fa.n;have hbn:=h.fb.n;have hlt:l.length<b.nodes.length:=by omega
  refine sI func92 ntmps92 fun Hb Ht=>?_
  have hkn:=key_lt Hb hk;refine sR ?_;simp[lO hkn,hk];refine sC ?_;simp;refine⟨fun hbig=>?_,fun hsm=>?_⟩
  .refine sN ?_;refine AL.ret ?_;try simp only[AU]
   refine⟨by simp,(Fin.own (vs:=[]) (av:=.tup []) (by simp[resAs,resA]) Hb rfl (nr _) (by simp)).mono fun v m hq=>⟨hq.1,own,tok,nt,?_,Adv.refl hlive Ht⟩⟩;have hbig':2000<out.length:=by omega
   rw[hq.2,ovN,if_pos hbig',<-hself]
  .have hsm':¬2000<out.length:=by omega
   refine sR ?_;simp[lO hkn,hk];refine sC ?_;simp;refine⟨fun heq=>absurd heq (by omega),fun _=>?_⟩;refine sR ?_;simp[lO hkn,hk];refine sD (clone_c l (by omega) _ _) ?_;simp;refine⟨⟨by omega,by simp[uS]⟩,?_⟩;refine Stop.data ?_;simp only[List.map,AV.asD];rw[rI_snoc];have had:=Adv.fresh hlive Ht;refine Stop.of_a (ih (l++[-1]) out own _ _ k _ _ (by simp;omega) (by simp only[lO hkn,hk]) had.live) ?_;rintro v m' ⟨rfl,own1,tok1,nt1,rfl,hadv⟩;simp[uL hkn];have had1:Adv tok nt own tok1 nt1 own1:=had.trans Ht hadv
   clear hadv had;refine sR ?_;simp[lO hkn,uS];refine sN ?_;refine sL (st43 a b l nb k box) (fun x=>x.i<=a.nodes.length/\x.out=(List.range x.i).foldl (ovStepN a b (ovN a b n) l) (ovN a b n (l++[-1]) out)/\Adv tok nt own x.tok x.nt x.own) (fun x=>a.nodes.length-x.i)
    ⟨0,ovN a b n (l++[-1]) out,own1,tok1,nt1⟩ ⟨Nat.zero_le _,rfl,had1⟩ (Weaks.mk' had1.le (by simp[ToL,lk];exact to_ptr (by rw[lO hkn,uS];simp)) (by simp[BoxL,lk]) (outOk rfl)) ?_
   rintro⟨i,out2,own2,tok2,nt2⟩ S ⟨hi,hout,hadv2⟩ hS;simp only[st43] at hS hi hout hadv2;subst hS;have hw:=sW (i:=i) (by omega);refine sR ?_;simp;refine sC ?_;simp;refine⟨fun hli=>?_,fun hge=>?_⟩
   .refine sR ?_;simp[hli];refine sR ?_;simp[lO hkn,uS,hlt];have hfold:(List.range (i+1)).foldl (ovStepN a b (ovN a b n) l) (ovN a b n (l++[-1]) out)=ovStepN a b (ovN a b n) l out2 i:=by
     rw[List.range_succ,List.foldl_append,<-hout];rfl
    have hgi:a.nodes.getD i 0=a.nodes[i]:=by simp[hli]
    have hgl:b.nodes.getD l.length 0=b.nodes[l.length]:=by simp[hlt]
    simp only[beqD];first|refine Gd.dt (fun hE=>?_) (fun hE=>?_)|refine Gd.df (fun hE=>?_) (fun hE=>?_)|refine Gd.t (fun hE=>?_) (fun hE=>?_)|refine Gd.f (fun hE=>?_) (fun hE=>?_)
    .simp[hE];refine sD (contains_c l i (by omega) _ _) ?_;simp[hE];refine sC ?_;simp;refine⟨fun hni=>?_,fun hin=>?_⟩
     .refine sR ?_;simp[lO hkn,uS];refine sD (clone_c l (by omega) _ _) ?_;simp;refine⟨⟨by omega,by simp[uS]⟩,?_⟩;refine Stop.data ?_;simp only[List.map,AV.asD];rw[rI_snoc];have had:=Adv.fresh hadv2.live hadv2.lt;refine Stop.of_a (ih (l++[(i:Int)]) out2 own2 _ _ k _ _ (by simp;omega) (by simp only[lO hkn,uS]) had.live) ?_;rintro v m' ⟨rfl,own3,tok3,nt3,rfl,hadv⟩;simp[uL hkn,upd_upd];have had3:Adv tok nt own tok3 nt3 own3:=hadv2.trans Ht (had.trans hadv2.lt hadv)
      clear hadv had;refine sR ?_;simp[hw];refine sE ?_;refine⟨⟨i+1,ovN a b n (l++[(i:Int)]) out2,own3,tok3,nt3⟩,⟨hli,?_,had3⟩,by simp;omega,Weaks.mk' had3.le (by simp[ToL,lk];exact to_ptr (by rw[lO hkn,uS];simp)) (by simp[BoxL,lk]) (outOk rfl)⟩;rw[hfold,ovStepN,if_pos ⟨by rw[hgi,hgl,hE],hni⟩]
     .refine sR ?_;simp[hw];refine sE ?_;refine⟨⟨i+1,out2,own2,tok2,nt2⟩,⟨hli,?_,hadv2⟩,by simp;omega,Weaks.mk' hadv2.le (by simp[ToL,lk];exact to_ptr (by rw[lO hkn,uS];simp)) (by simp[BoxL,lk]) (outOk rfl)⟩;rw[hfold,ovStepN,if_neg (fun hh=>hh.2 hin)]
    .simp[hE];refine sC ?_;simp;refine sR ?_;simp[hw];refine sE ?_;refine⟨⟨i+1,out2,own2,tok2,nt2⟩,⟨hli,?_,hadv2⟩,by simp;omega,Weaks.mk' hadv2.le (by simp[ToL,lk];exact to_ptr (by rw[lO hkn,uS];simp)) (by simp[BoxL,lk]) (outOk rfl)⟩;rw[hfold,ovStepN,if_neg (fun hh=>hE (by rw[<-hgi,hh.1,hgl]))]
   .refine sX ?_;simp only[AU,↓reduceIte];have hin:i=a.nodes.length:=by omega
    subst hin;refine sE ?_;refine⟨by simp,(Fin.gen (vs:=[]) (av:=.tup []) (tok':=tok2) (nt':=nt2) (by simp[resAs,resA]) ?_ hadv2.le (nr _) (fun t h=>⟨h,.inl rfl⟩) (outOk (by simp)) (by simp)).mono fun v m hq=>⟨hq.1,own2,tok2,nt2,?_,hadv2⟩⟩
    .rw[<-uL hkn,Hb]
    .rw[hq.2,ovN,if_neg hsm',hout]
theorem E.eq_and3(x:E)(p q r:Int):(decide (x.ty=p)&&(decide (x.fr=q)&&decide (x.to=r)))=decide (x=⟨p,q,r⟩):=E.eq_and x ⟨p,q,r⟩
def accE(a b:Gr)(nodes:List Int)(n:Nat)(es:List Int)(out:List Ov):Nat->List Ov
 | 0=>out
 | i+1=>(List.range i).foldl (ovStep a b nodes n es) (ovE a b nodes n (es++[-1]) out)
structure AccR where
 i:Nat
 out:List Ov
 own:Own
 tok:Nat->Bool
 nt:Nat
def st85(a b:Gr)(nodes es:List Int)(nb k:Nat)(box:Bxs)(x:AccR):AS :=
 ⟨tl [(0,.ptr k 0 0),(1,.d (ints nodes)),(2,.d (ints es)),(7,.ptr (nb+7) 0 0),(8,I (x.i-1))],
  lb nb (upd box k (some [ovRow a b x.out x.own])) [(7,[[I (b.edges.getD es.length default).ty,I (b.edges.getD es.length default).fr,I (b.edges.getD es.length default).to]])],x.tok,x.nt⟩
theorem edges13_c(a b:Gr)(nodes:List Int)(h:OvH a b nodes):∀(n:Nat) (es:List Int) (out:List Ov) (own:Own) (box:Bxs) (nb k:Nat) (tok:Tks) (nt:Nat),es.length+n=b.edges.length ->
  box k=some [ovRow a b out own]->own.liveP tok->ACalls prog 180 [.ptr k 0 0,.d (ints nodes),.d (ints es)] ⟨box,nb,tok,nt⟩ (QOv a b box nb k tok nt own (ovE a b nodes n es out)):=by
 intro n;induction n with
 | zero =>
  intro es out own box nb k tok nt hes hk hlive;have hself:box=upd box k (some [ovRow a b out own]):=(upd_self box k _ hk).symm
  refine sI func180 ntmps180 fun Hb Ht=>?_
  have hkn:=key_lt Hb hk;refine sR ?_;simp[lO hkn,hk];refine sC ?_;simp;refine⟨fun hbig=>?_,fun hsm=>?_⟩
  .refine sN ?_;refine AL.ret ?_;try simp only[AU]
   refine⟨by simp,(Fin.own (vs:=[]) (av:=.tup []) (by simp[resAs,resA]) Hb rfl (nr _) (by simp)).mono fun v m hq=>⟨hq.1,own,tok,nt,?_,Adv.refl hlive Ht⟩⟩;have hbig':2000<out.length:=by omega
   rw[hq.2,ovE,if_pos hbig',<-hself]
  .have hsm':¬2000<out.length:=by omega
   have hes':es.length=b.edges.length:=by omega
   refine sR ?_;simp[lO hkn,hk];refine sR ?_;simp[lO hkn,hk];refine sC ?_;simp;refine⟨fun _=>?_,fun hne=>absurd (by omega) hne⟩;have hbe:=h.fb.e;have hbn:=h.fb.n;refine sR ?_;simp[lO hkn,hk];refine sD (overlap_c a b nodes es h.fa (by rw[h.n];exact nr _) (by omega) (by rw[h.n];omega) (by omega) (fun i _ h2 _=>h.x _ (List.getElem_mem h2)) _ _) ?_;simp[lO hkn,hk,uL hkn];refine⟨⟨by omega,hlive⟩,?_⟩;refine sN ?_;refine AL.ret ?_;try simp only[AU]
   refine⟨by simp,(Fin.gen (vs:=[]) (av:=.tup []) (tok':=upd (own.kill tok) nt true) (nt':=nt+1) (by simp[resAs,resA]) ?_ (by omega) (nr _) (fun t h=>⟨h,.inl rfl⟩) ?_ (by simp)).mono fun v m hq=>⟨hq.1,.tok nt,upd (own.kill tok) nt true,nt+1,?_,Adv.app hlive Ht⟩⟩
   .rw[<-uL hkn,Hb]
   .intro k' rows hk' hr;by_cases e:k'=k
    .subst e;rw[uS] at hr;cases hr;exact .inr (by simp)
    .rw[uO _ _ e] at hr;exact .inl hr
   .rw[hq.2,ovE,if_neg hsm'];simp[ovRow]
 | succ n ih =>
  intro es out own box nb k tok nt hes hk hlive;have hself:box=upd box k (some [ovRow a b out own]):=(upd_self box k _ hk).symm
  have hae:=h.fa.e;have hbe:=h.fb.e;have hbn:=h.fb.n;have hlt:es.length<b.edges.length:=by omega
  obtain⟨x1,x2,x3,x4⟩:=h.x b.edges[es.length] (List.getElem_mem hlt);have y1:b.edges[es.length].fr.toNat<nodes.length:=by omega
  have y2:b.edges[es.length].to.toNat<nodes.length:=by omega
  refine sI func180 ntmps180 fun Hb Ht=>?_
  have hkn:=key_lt Hb hk;refine sR ?_;simp[lO hkn,hk];refine sC ?_;simp;refine⟨fun hbig=>?_,fun hsm=>?_⟩
  .refine sN ?_;refine AL.ret ?_;try simp only[AU]
   refine⟨by simp,(Fin.own (vs:=[]) (av:=.tup []) (by simp[resAs,resA]) Hb rfl (nr _) (by simp)).mono fun v m hq=>⟨hq.1,own,tok,nt,?_,Adv.refl hlive Ht⟩⟩;have hbig':2000<out.length:=by omega
   rw[hq.2,ovE,if_pos hbig',<-hself]
  .have hsm':¬2000<out.length:=by omega
   refine sR ?_;simp[lO hkn,hk];refine sR ?_;simp[lO hkn,hk];refine sC ?_;simp;refine⟨fun heq=>absurd heq (by omega),fun _=>?_⟩;refine sR ?_;simp[lO hkn,hk,hlt];refine sR ?_;simp[lO hkn,hk];refine sN ?_;have hlb:∀loc,lb nb box loc=lb nb (upd box k (some [ovRow a b out own])) loc:=fun loc=>by rw[<-hself]
   rw[hlb];have hwant:wantE b nodes es=⟨b.edges[es.length].ty,nodes[b.edges[es.length].fr.toNat],nodes[b.edges[es.length].to.toNat]⟩:=by simp[wantE,hlt,y1,y2]
   refine sL (st85 a b nodes es nb k box) (fun x=>x.i<=a.edges.length+1/\x.out=accE a b nodes n es out x.i/\Adv tok nt own x.tok x.nt x.own) (fun x=>a.edges.length+1-x.i)
    ⟨0,out,own,tok,nt⟩ ⟨Nat.zero_le _,rfl,Adv.refl hlive Ht⟩ (Weaks.mk' (nr _) (by simp[ToL,lk,hlt];exact to_ptr (by rw[lO hkn,uS];simp)) (by simp[BoxL,lk,hlt]) (outOk rfl)) ?_
   rintro⟨i,out2,own2,tok2,nt2⟩ S ⟨hi,hout,hadv2⟩ hS;simp only[st85] at hS hi hout hadv2;subst hS;have hw:IntKind.i64.wrap (↑i-1+1)=((i+1:Nat):Int)-1:=by rw[wrap_in (by omega) (by omega)];omega
   refine sR ?_;simp[lO hkn,uS];refine sC ?_;simp;refine⟨fun hli=>?_,fun hge=>?_⟩
   .cases i with
    | zero =>
     refine sR ?_;simp[lO hkn,uS];refine sC ?_;simp;refine sR ?_;simp[lO hkn,uS];refine⟨by omega,by omega,?_⟩;refine Stop.data ?_;simp only[List.map,AV.asD];rw[rI_snoc];have had:=Adv.fresh hadv2.live hadv2.lt;refine Stop.of_a (ih (es++[-1]) out2 own2 _ _ k _ _ (by simp;omega) (by simp only[lO hkn,uS]) had.live) ?_;rintro v m' ⟨rfl,own3,tok3,nt3,rfl,hadv⟩;simp[uL hkn,upd_upd];have had3:Adv tok nt own tok3 nt3 own3:=hadv2.trans Ht (had.trans hadv2.lt hadv)
     clear hadv had;refine sR ?_;simp[show IntKind.i64.wrap 0=0 from rfl];refine sE ?_;refine⟨⟨1,ovE a b nodes n (es++[-1]) out2,own3,tok3,nt3⟩,⟨by simp,?_,had3⟩,by simp,Weaks.mk' had3.le (by simp[ToL,lk];exact to_ptr (by rw[lO hkn,uS];simp)) (by simp[BoxL,lk,hlt]) (outOk rfl)⟩;rw[hout];rfl
    | succ i =>
     have hli':i<a.edges.length:=by omega
     have hneg:¬(i:Int)<0:=by omega
     have hw':IntKind.i64.wrap (↑i+1)=(i:Int)+1:=by rw[wrap_in (by omega) (by omega)]
     have hfold:accE a b nodes n es out (i+1+1)=ovStep a b nodes n es out2 i:=by
      rw[hout,accE,accE,List.range_succ,List.foldl_append];rfl
     have hgi:a.edges.getD i default=a.edges[i]:=by simp[hli']
     refine sR ?_;simp[lO hkn,uS,hneg];refine sD (in_c es i (by omega) _ _) ?_;simp[lO hkn,uS,hneg];by_cases hin:(i:Int)∈es
     .simp[hin];refine sC ?_;simp;refine sR ?_;simp[hw'];refine sE ?_;refine⟨⟨i+1+1,out2,own2,tok2,nt2⟩,⟨by simp;omega,?_,hadv2⟩,by simp;omega,Weaks.mk' hadv2.le (by simp[ToL,lk];exact to_ptr (by rw[lO hkn,uS];simp)) (by simp[BoxL,lk,hlt]) (outOk rfl)⟩;rw[hfold,ovStep,if_neg (fun hh=>hh.2 hin)]
     .simp[hin,lO hkn,uS,hli',hlt,x1,x2,x3,x4,y1,y2];simp only[E.eq_and3];refine sC ?_;simp;refine⟨fun hE=>?_,fun hE=>?_⟩
      .refine sR ?_;simp[lO hkn,uS];refine⟨by omega,by omega,?_⟩;refine Stop.data ?_;simp only[List.map,AV.asD];rw[rI_snoc];have had:=Adv.fresh hadv2.live hadv2.lt;refine Stop.of_a (ih (es++[(i:Int)]) out2 own2 _ _ k _ _ (by simp;omega) (by simp only[lO hkn,uS]) had.live) ?_;rintro v m' ⟨rfl,own3,tok3,nt3,rfl,hadv⟩;simp[uL hkn,upd_upd];have had3:Adv tok nt own tok3 nt3 own3:=hadv2.trans Ht (had.trans hadv2.lt hadv)
       clear hadv had;refine sR ?_;simp[hw'];refine sE ?_;refine⟨⟨i+1+1,ovE a b nodes n (es++[(i:Int)]) out2,own3,tok3,nt3⟩,⟨by simp;omega,?_,had3⟩,by simp;omega,Weaks.mk' had3.le (by simp[ToL,lk];exact to_ptr (by rw[lO hkn,uS];simp)) (by simp[BoxL,lk,hlt]) (outOk rfl)⟩;rw[hfold,ovStep,if_pos ⟨by rw[hgi,hwant,hE],hin⟩]
      .refine sR ?_;simp[hw'];refine sE ?_;refine⟨⟨i+1+1,out2,own2,tok2,nt2⟩,⟨by simp;omega,?_,hadv2⟩,by simp;omega,Weaks.mk' hadv2.le (by simp[ToL,lk];exact to_ptr (by rw[lO hkn,uS];simp)) (by simp[BoxL,lk,hlt]) (outOk rfl)⟩;rw[hfold,ovStep,if_neg (fun hh=>hE (by rw[<-hgi,hh.1,hwant]))]
   .refine sX ?_;simp only[AU,↓reduceIte];have hin:i=a.edges.length+1:=by omega
    subst hin;refine sE ?_;refine⟨by simp,(Fin.gen (vs:=[]) (av:=.tup []) (tok':=tok2) (nt':=nt2) (by simp[resAs,resA]) ?_ hadv2.le (nr _) (fun t h=>⟨h,.inl rfl⟩) (outOk (by simp)) (by simp)).mono fun v m hq=>⟨hq.1,own2,tok2,nt2,?_,hadv2⟩⟩
    .rw[<-uL hkn,Hb]
    .rw[hq.2,ovE,if_neg hsm',hout];rfl
def accN(a b:Gr)(n:Nat)(l:List Int)(out:List Ov):Nat->List Ov
 | 0=>out
 | i+1=>(List.range i).foldl (ovStepN a b (ovN a b n) l) (ovN a b n (l++[-1]) out)
def st44(a b:Gr)(l:List Int)(nb k:Nat)(box:Bxs)(x:AccR):AS :=
 ⟨tl [(0,.ptr k 0 0),(1,.d (ints l)),(4,I l.length),(5,I (x.i-1))],
  lb nb (upd box k (some [ovRow a b x.out x.own])) [],x.tok,x.nt⟩
theorem nodes13_c(a b:Gr)(h:NoH a b):∀(n:Nat) (l:List Int) (out:List Ov) (own:Own) (box:Bxs) (nb k:Nat) (tok:Tks) (nt:Nat),l.length+n=b.nodes.length ->
  box k=some [ovRow a b out own]->own.liveP tok->ACalls prog 97 [.ptr k 0 0,.d (ints l)] ⟨box,nb,tok,nt⟩ (QOv a b box nb k tok nt own (ovN a b n l out)):=by
 intro n;induction n with
 | zero =>
  intro l out own box nb k tok nt hl hk hlive;have hself:box=upd box k (some [ovRow a b out own]):=(upd_self box k _ hk).symm
  refine sI func97 ntmps97 fun Hb Ht=>?_
  have hkn:=key_lt Hb hk;refine sR ?_;simp[lO hkn,hk];refine sC ?_;simp;refine⟨fun hbig=>?_,fun hsm=>?_⟩
  .refine sN ?_;refine AL.ret ?_;try simp only[AU]
   refine⟨by simp,(Fin.own (vs:=[]) (av:=.tup []) (by simp[resAs,resA]) Hb rfl (nr _) (by simp)).mono fun v m hq=>⟨hq.1,own,tok,nt,?_,Adv.refl hlive Ht⟩⟩;have hbig':2000<out.length:=by omega
   rw[hq.2,ovN,if_pos hbig',<-hself]
  .have hsm':¬2000<out.length:=by omega
   have hl':l.length=b.nodes.length:=by omega
   refine sR ?_;simp[lO hkn,hk];refine sR ?_;simp[lO hkn,hk];refine sC ?_;simp;refine⟨fun _=>?_,fun hne=>absurd (by omega) hne⟩;have hbe:=h.fb.e;have hbn:=h.fb.n;refine sR ?_;simp[lO hkn,hk];refine Stop.sub (args':=[.ptr k 0 0,.d (ints l),.d (ints [])]) ⟨Sub.refl _,Sub.refl _,Sub.nil _ _ _,trivial⟩ ?_;refine Stop.of_a (edges13_c a b l ⟨h.fa,h.va,h.fb,hl',by rw[hl'];exact h.x⟩ b.edges.length [] out own _ _ k _ _ (by simp) (by simp only[lO hkn,hk]) hlive) ?_;rintro v m' ⟨rfl,own1,tok1,nt1,rfl,hadv⟩;simp[uL hkn];refine sN ?_;refine AL.ret ?_;try simp only[AU]
   refine⟨by simp,(Fin.gen (vs:=[]) (av:=.tup []) (tok':=tok1) (nt':=nt1) (by simp[resAs,resA]) ?_ hadv.le (nr _) (fun t h=>⟨h,.inl rfl⟩) (outOk (by simp)) (by simp)).mono fun v m hq=>⟨hq.1,own1,tok1,nt1,?_,hadv⟩⟩
   .rw[<-uL hkn,Hb]
   .rw[hq.2,ovN,if_neg hsm']
 | succ n ih =>
  intro l out own box nb k tok nt hl hk hlive;have hself:box=upd box k (some [ovRow a b out own]):=(upd_self box k _ hk).symm
  have han:=h.fa.n;have hbn:=h.fb.n;have hlt:l.length<b.nodes.length:=by omega
  refine sI func97 ntmps97 fun Hb Ht=>?_
  have hkn:=key_lt Hb hk;refine sR ?_;simp[lO hkn,hk];refine sC ?_;simp;refine⟨fun hbig=>?_,fun hsm=>?_⟩
  .refine sN ?_;refine AL.ret ?_;try simp only[AU]
   refine⟨by simp,(Fin.own (vs:=[]) (av:=.tup []) (by simp[resAs,resA]) Hb rfl (nr _) (by simp)).mono fun v m hq=>⟨hq.1,own,tok,nt,?_,Adv.refl hlive Ht⟩⟩;have hbig':2000<out.length:=by omega
   rw[hq.2,ovN,if_pos hbig',<-hself]
  .have hsm':¬2000<out.length:=by omega
   refine sR ?_;simp[lO hkn,hk];refine sR ?_;simp[lO hkn,hk];refine sC ?_;simp;refine⟨fun heq=>absurd heq (by omega),fun _=>?_⟩;refine sR ?_;simp;refine sN ?_;have hlb:∀loc,lb nb box loc=lb nb (upd box k (some [ovRow a b out own])) loc:=fun loc=>by rw[<-hself]
   rw[hlb];refine sL (st44 a b l nb k box) (fun x=>x.i<=a.nodes.length+1/\x.out=accN a b n l out x.i/\Adv tok nt own x.tok x.nt x.own) (fun x=>a.nodes.length+1-x.i)
    ⟨0,out,own,tok,nt⟩ ⟨Nat.zero_le _,rfl,Adv.refl hlive Ht⟩ (Weaks.mk' (nr _) (by simp[ToL,lk];exact to_ptr (by rw[lO hkn,uS];simp)) (by simp[BoxL,lk]) (outOk rfl)) ?_
   rintro⟨i,out2,own2,tok2,nt2⟩ S ⟨hi,hout,hadv2⟩ hS;simp only[st44] at hS hi hout hadv2;subst hS;refine sR ?_;simp[lO hkn,uS];refine sC ?_;simp;refine⟨fun hli=>?_,fun hge=>?_⟩
   .cases i with
    | zero =>
     refine sR ?_;simp[lO hkn,uS];refine sC ?_;simp;refine sR ?_;simp[lO hkn,uS];refine⟨by omega,by omega,?_⟩;refine Stop.data ?_;simp only[List.map,AV.asD];rw[rI_snoc];have had:=Adv.fresh hadv2.live hadv2.lt;refine Stop.of_a (ih (l++[-1]) out2 own2 _ _ k _ _ (by simp;omega) (by simp only[lO hkn,uS]) had.live) ?_;rintro v m' ⟨rfl,own3,tok3,nt3,rfl,hadv⟩;simp[uL hkn,upd_upd];have had3:Adv tok nt own tok3 nt3 own3:=hadv2.trans Ht (had.trans hadv2.lt hadv)
     clear hadv had;refine sR ?_;simp[show IntKind.i64.wrap 0=0 from rfl];refine sE ?_;refine⟨⟨1,ovN a b n (l++[-1]) out2,own3,tok3,nt3⟩,⟨by simp,?_,had3⟩,by simp,Weaks.mk' had3.le (by simp[ToL,lk];exact to_ptr (by rw[lO hkn,uS];simp)) (by simp[BoxL,lk]) (outOk rfl)⟩;rw[hout];rfl
    | succ i =>
     have hli':i<a.nodes.length:=by omega
     have hneg:¬(i:Int)<0:=by omega
     have hw':IntKind.i64.wrap (↑i+1)=(i:Int)+1:=by rw[wrap_in (by omega) (by omega)]
     have hfold:accN a b n l out (i+1+1)=ovStepN a b (ovN a b n) l out2 i:=by
      rw[hout,accN,accN,List.range_succ,List.foldl_append];rfl
     have hgi:a.nodes.getD i 0=a.nodes[i]:=by simp[hli']
     have hgl:b.nodes.getD l.length 0=b.nodes[l.length]:=by simp[hlt]
     refine sR ?_;simp[lO hkn,uS,hneg];refine sD (in_c l i (by omega) _ _) ?_;simp[lO hkn,uS,hneg];by_cases hin:(i:Int)∈l
     .simp[hin];refine sC ?_;simp;refine sR ?_;simp[hw'];refine sE ?_;refine⟨⟨i+1+1,out2,own2,tok2,nt2⟩,⟨by simp;omega,?_,hadv2⟩,by simp;omega,Weaks.mk' hadv2.le (by simp[ToL,lk];exact to_ptr (by rw[lO hkn,uS];simp)) (by simp[BoxL,lk]) (outOk rfl)⟩;rw[hfold,ovStepN,if_neg (fun hh=>hh.2 hin)]
     .simp[hin,lO hkn,uS,hli',hlt];refine sC ?_;simp;refine⟨fun hE=>?_,fun hE=>?_⟩
      .refine sR ?_;simp[lO hkn,uS];refine⟨by omega,by omega,?_⟩;refine Stop.data ?_;simp only[List.map,AV.asD];rw[rI_snoc];have had:=Adv.fresh hadv2.live hadv2.lt;refine Stop.of_a (ih (l++[(i:Int)]) out2 own2 _ _ k _ _ (by simp;omega) (by simp only[lO hkn,uS]) had.live) ?_;rintro v m' ⟨rfl,own3,tok3,nt3,rfl,hadv⟩;simp[uL hkn,upd_upd];have had3:Adv tok nt own tok3 nt3 own3:=hadv2.trans Ht (had.trans hadv2.lt hadv)
       clear hadv had;refine sR ?_;simp[hw'];refine sE ?_;refine⟨⟨i+1+1,ovN a b n (l++[(i:Int)]) out2,own3,tok3,nt3⟩,⟨by simp;omega,?_,had3⟩,by simp;omega,Weaks.mk' had3.le (by simp[ToL,lk];exact to_ptr (by rw[lO hkn,uS];simp)) (by simp[BoxL,lk]) (outOk rfl)⟩;rw[hfold,ovStepN,if_pos ⟨by rw[hgi,hgl,hE],hin⟩]
      .refine sR ?_;simp[hw'];refine sE ?_;refine⟨⟨i+1+1,out2,own2,tok2,nt2⟩,⟨by simp;omega,?_,hadv2⟩,by simp;omega,Weaks.mk' hadv2.le (by simp[ToL,lk];exact to_ptr (by rw[lO hkn,uS];simp)) (by simp[BoxL,lk]) (outOk rfl)⟩;rw[hfold,ovStepN,if_neg (fun hh=>hE (by rw[<-hgi,hh.1,hgl]))]
   .refine sX ?_;simp only[AU,↓reduceIte];have hin:i=a.nodes.length+1:=by omega
    subst hin;refine sE ?_;refine⟨by simp,(Fin.gen (vs:=[]) (av:=.tup []) (tok':=tok2) (nt':=nt2) (by simp[resAs,resA]) ?_ hadv2.le (nr _) (fun t h=>⟨h,.inl rfl⟩) (outOk (by simp)) (by simp)).mono fun v m hq=>⟨hq.1,own2,tok2,nt2,?_,hadv2⟩⟩
    .rw[<-uL hkn,Hb]
    .rw[hq.2,ovN,if_neg hsm',hout];rfl
theorem Conv.sub{v v':AV}{m:AMem}(h:Sub v v'):Conv v m v' m:=⟨rfl,rfl,fun G w u h1 h2=>⟨G,h1,h _ _ _ h2,Le.refl G w,fun _ h=>h⟩⟩
theorem Sub.tup{xs ys:List AV}(h:SubL xs ys):Sub (.tup xs) (.tup ys):=fun G w v r=>by
 cases r with
 | tup hl hh=>have:=h.rvs ⟨hl,hh⟩;exact .tup this.1 this.2
def oR(a b:Gr):List Ov × Int :=
 if vG a≠0 then ([],vG a) else if vG b≠0 then ([],vG b) else if 40<a.nodes.length+b.nodes.length∨80<a.edges.length+b.edges.length then ([],3)
 else if 2000<(ovN a b b.nodes.length [] []).length then ([],3) else (ovN a b b.nodes.length [] [],0)
theorem validG_edges{g:Gr}(h:vG g=0):∀e∈g.edges,0<=e.fr/\e.fr<g.nodes.length/\0<=e.to/\e.to<g.nodes.length:=by
 intro e he;unfold vG at h;split at h
 .cases h
 .split at h
  .cases h
  .split at h
   .cases h
   .rename_i h3;have:=List.any_eq_false.1 (Bool.not_eq_true _ ▸ h3) e he
    simp[fitsB,withinB] at this;omega
theorem overlaps13_c(a b:Gr)(ha:a.Fit)(hb:b.Fit):DC 46 [a.av,b.av] (.tup [.d (ovs (oR a b).1),I (oR a b).2]):=by
 intro tok nt box nb;have han:=ha.n;have hae:=ha.e;have hbn:=hb.n;have hbe:=hb.e;have main:ACalls prog 46 [a.av,b.av] ⟨box,nb,tok,nt⟩ fun v m=>(v=.tup [.d (ovs (oR a b).1),I (oR a b).2]∨(oR a b).1=[]/\v=.tup [.osl 0 [] .full,I (oR a b).2])/\m=⟨box,nb,tok,nt⟩:=by
  refine sI func46 ntmps46 fun Hb Ht=>?_
  refine sR ?_;simp;refine sR ?_;simp;refine sD (valid05_c a ha _ _) ?_;simp;by_cases hva:vG a=0
  .refine sR ?_;simp[hva];refine sC ?_;simp;refine sR ?_;simp;refine sD (valid05_c b hb _ _) ?_;simp;by_cases hvb:vG b=0
   .refine sR ?_;simp[hvb];refine sC ?_;simp;have hw1:IntKind.i64.wrap (↑a.nodes.length+↑b.nodes.length)=(a.nodes.length:Int)+b.nodes.length:=wrap_in (by omega) (by omega)
    have hw2:IntKind.i64.wrap (↑a.edges.length+↑b.edges.length)=(a.edges.length:Int)+b.edges.length:=wrap_in (by omega) (by omega)
    have big:(40<a.nodes.length+b.nodes.length∨80<a.edges.length+b.edges.length)->∀{l loc},Fin prog ⟨nb,nb+53,53,box⟩ nt [ResultVar.tmp 4,ResultVar.tmp 5] (fun v m=>(v=.tup [.d (ovs (oR a b).1),I (oR a b).2]∨(oR a b).1=[]/\v=.tup [.osl 0 [] .full,I (oR a b).2])/\m=⟨box,nb,tok,nt⟩)
      ⟨tl ((5,I 3)::(4,.osl 0 [] .full)::l),lb nb box loc,tok,nt⟩:=fun hbig {l loc}=>by
     have hR:oR a b=([],3):=by simp[oR,hva,hvb,hbig]
     exact(Fin.data (av:=.tup [.osl 0 [] .full,I 3]) (by simp[resAs,resA];rfl) Hb rfl Ht (fun _ h=>h) (nr _) (by simp)).mono fun v m hq=>⟨.inr ⟨by rw[hR],by rw[hR,hq.1]⟩,hq.2⟩
    refine sR ?_;simp[hw1,hw2];first|refine Gd.dt (fun hs1=>?_) (fun hs1=>?_)|refine Gd.df (fun hs1=>?_) (fun hs1=>?_)|refine Gd.t (fun hs1=>?_) (fun hs1=>?_)|refine Gd.f (fun hs1=>?_) (fun hs1=>?_)
    .simp[hs1,hw1,hw2];refine sC ?_;simp;refine sR ?_;simp;refine sN ?_;refine AL.ret ?_;try simp only[AU]
     exact⟨by simp,big (by omega)⟩
    .simp[hs1,hw1,hw2];refine sC ?_;simp;refine⟨fun hs2=>?_,fun hs2=>?_⟩
     .refine sR ?_;simp;refine sN ?_;refine AL.ret ?_;try simp only[AU]
      exact⟨by simp,big (by omega)⟩
     .have hsm:¬(40<a.nodes.length+b.nodes.length∨80<a.edges.length+b.edges.length):=by omega
      refine sR ?_;simp;refine AL.weak (wM (l':=[(8,.ptr (nb+40) 0 0)]) (loc':=[(40,[ovRow a b [] .full])]) (nr _) rfl (by simp[ToL,lk]) (by simp[BoxL,lk])) ?_;refine sR ?_;simp;refine Stop.sub (args':=[.ptr (nb+40) 0 0,.d (ints [])]) ⟨Sub.refl _,Sub.nil _ _ _,trivial⟩ ?_;refine Stop.of_a (nodes13_c a b ⟨ha,hva,hb,validG_edges hvb⟩ b.nodes.length [] [] .full _ _ (nb+40) _ _ (by simp) (by simp) trivial) ?_;rintro v m' ⟨rfl,own1,tok1,nt1,rfl,hadv⟩;simp;refine sR ?_;simp;refine sC ?_;simp;have hkeep:∀t,tok t=true->tok1 t=true:=fun t ht=>hadv.keep t ht (by simp)
      refine⟨fun hmany=>?_,fun hfew=>?_⟩
      .have hR:oR a b=([],3):=by
        have:2000<(ovN a b b.nodes.length [] []).length:=by omega
        simp[oR,hva,hvb,hsm,this]
       refine sR ?_;simp;refine sN ?_;refine AL.ret ?_;try simp only[AU]
       exact⟨by simp,(Fin.data (av:=.tup [.osl 0 [] .full,I 3]) (by simp[resAs,resA];rfl) Hb rfl Ht hkeep hadv.le (by simp)).mono fun v m hq=>⟨.inr ⟨by rw[hR],by rw[hR,hq.1]⟩,hq.2⟩⟩
      .have hR:oR a b=(ovN a b b.nodes.length [] [],0):=by
        have:¬2000<(ovN a b b.nodes.length [] []).length:=by omega
        simp[oR,hva,hvb,hsm,this]
       refine sR ?_;simp;refine sN ?_;refine AL.ret ?_;try simp only[AU]
       exact⟨by simp,(Fin.data (av:=.tup [.d (ovs (ovN a b b.nodes.length [] [])),I 0]) (by simp[resAs,resA];rfl) Hb rfl Ht hkeep hadv.le (by simp)).mono fun v m hq=>⟨.inl (by rw[hR,hq.1]),hq.2⟩⟩
   .refine sR ?_;simp;refine sC ?_;simp[hvb];refine sR ?_;simp;have hR:oR a b=([],vG b):=by simp[oR,hva,hvb]
    refine sN ?_;refine AL.ret ?_;try simp only[AU]
    refine⟨by simp,(Fin.data (av:=.tup [.osl 0 [] .full,I (vG b)]) (by simp[resAs,resA];rfl) Hb rfl Ht (fun _ h=>h) (nr _) (by simp)).mono fun v m hq=>⟨.inr ⟨by rw[hR],by rw[hR,hq.1]⟩,hq.2⟩⟩
  .refine sR ?_;simp;refine sC ?_;simp[hva];refine sR ?_;simp;have hR:oR a b=([],vG a):=by simp[oR,hva]
   refine sN ?_;refine AL.ret ?_;try simp only[AU]
   refine⟨by simp,(Fin.data (av:=.tup [.osl 0 [] .full,I (vG a)]) (by simp[resAs,resA];rfl) Hb rfl Ht (fun _ h=>h) (nr _) (by simp)).mono fun v m hq=>⟨.inr ⟨by rw[hR],by rw[hR,hq.1]⟩,hq.2⟩⟩
 refine main.conv fun v m h=>?_
 obtain⟨rfl|⟨h1,rfl⟩,rfl⟩:=h
 .exact⟨_,_,Conv.refl _ _,rfl,rfl⟩
 .refine⟨_,_,Conv.sub (v':=.tup [.d (ovs (oR a b).1),I (oR a b).2]) (Sub.tup ⟨?_,Sub.refl _,trivial⟩),rfl,rfl⟩;rw[h1];exact Sub.nil _ _ _
def st13(a b:Gr)(nb:Nat)(box:Bxs)(tok:Tks)(nt:Nat)(i:Nat):AS :=
 ⟨tl [(2,.ptr (nb+2) 0 0),(3,.ptr (nb+3) 0 0),(12,.osl 2 [[ints a.nodes,AM.edges a.edges],[ints b.nodes,AM.edges b.edges]] .full),(13,I 2),(14,I i)],
  lb nb box [(2,[[.d (ints a.nodes),.d (AM.edges a.edges)]]),(3,[[.d (ints b.nodes),.d (AM.edges b.edges)]])],tok,nt⟩
def inv13(a b:Gr)(i:Nat):Prop:=i<=2/\(0<i->vG a=0)/\(1<i->vG b=0)
def mu13(i:Nat):Nat:=2-i
theorem overlapsF_c(a b:Gr)(ha:a.Fit)(hb:b.Fit):DC 41 [a.av,b.av] (.tup [.d (ovs (oR a b).1),I (oR a b).2]):=by
 intro tok nt box nb;have han:=ha.n;have hae:=ha.e;have hbn:=hb.n;have hbe:=hb.e;have main:ACalls prog 41 [a.av,b.av] ⟨box,nb,tok,nt⟩ fun v m=>(v=.tup [.d (ovs (oR a b).1),I (oR a b).2]∨(oR a b).1=[]/\v=.tup [.osl 0 [] .full,I (oR a b).2])/\m=⟨box,nb,tok,nt⟩:=by
  refine sI func41 ntmps41 fun Hb Ht=>?_
  refine sR ?_;simp;refine sR ?_;simp;refine⟨rfl,?_⟩;refine sN ?_;refine sL (st13 a b nb box tok nt) (inv13 a b) mu13 0 ⟨by omega,by omega,by omega⟩ wkA ?_;rintro i S ⟨hi,h0,h1⟩ hS;simp only[st13] at hS;subst hS;refine sR ?_;simp;refine sC ?_;simp;have h012:i=0∨i=1∨i=2:=by omega
  rcases h012 with rfl|rfl|rfl
  .simp;refine sR ?_;simp;refine sR ?_;simp;refine sD (graphValid_c a ha _ _) ?_;simp;by_cases hv:vG a=0
   .refine sR ?_;simp[hv];refine sC ?_;simp;refine sR ?_;simp[show IntKind.i64.wrap 1=1 from rfl];refine sE ?_;refine⟨1,⟨by omega,fun _=>hv,by omega⟩,by decide,wkA⟩
   .refine sR ?_;simp;refine sC ?_;simp[hv];refine sR ?_;simp;have hR:oR a b=([],vG a):=by simp[oR,hv]
    refine sN ?_;refine AL.ret ?_;try simp only[AU]
    refine⟨by simp,(Fin.data (av:=.tup [.osl 0 [] .full,I (vG a)]) (by simp[resAs,resA];rfl) Hb rfl Ht (fun _ h=>h) (nr _) (by simp)).mono fun v m hq=>⟨.inr ⟨by rw[hR],by rw[hR,hq.1]⟩,hq.2⟩⟩
  .simp;have h0:vG a=0:=h0 (by omega)
   refine sR ?_;simp;refine sR ?_;simp;refine sD (graphValid_c b hb _ _) ?_;simp;by_cases hv:vG b=0
   .refine sR ?_;simp[hv];refine sC ?_;simp;refine sR ?_;simp[show IntKind.i64.wrap 2=2 from rfl];refine sE ?_;refine⟨2,⟨by omega,fun _=>h0,fun _=>hv⟩,by decide,wkA⟩
   .refine sR ?_;simp;refine sC ?_;simp[hv];refine sR ?_;simp;have hR:oR a b=([],vG b):=by simp[oR,hv,h0]
    refine sN ?_;refine AL.ret ?_;try simp only[AU]
    refine⟨by simp,(Fin.data (av:=.tup [.osl 0 [] .full,I (vG b)]) (by simp[resAs,resA];rfl) Hb rfl Ht (fun _ h=>h) (nr _) (by simp)).mono fun v m hq=>⟨.inr ⟨by rw[hR],by rw[hR,hq.1]⟩,hq.2⟩⟩
  .simp;refine sX ?_;simp only[AU,↓reduceIte];have hva:vG a=0:=h0 (by omega)
   have hvb:vG b=0:=h1 (by omega)
   have hw1:IntKind.i64.wrap (↑a.nodes.length+↑b.nodes.length)=(a.nodes.length:Int)+b.nodes.length:=wrap_in (by omega) (by omega)
   have hw2:IntKind.i64.wrap (↑a.edges.length+↑b.edges.length)=(a.edges.length:Int)+b.edges.length:=wrap_in (by omega) (by omega)
   have big:(40<a.nodes.length+b.nodes.length∨80<a.edges.length+b.edges.length)->∀{l loc},Fin prog ⟨nb,nb+58,58,box⟩ nt [ResultVar.tmp 4,ResultVar.tmp 5] (fun v m=>(v=.tup [.d (ovs (oR a b).1),I (oR a b).2]∨(oR a b).1=[]/\v=.tup [.osl 0 [] .full,I (oR a b).2])/\m=⟨box,nb,tok,nt⟩)
     ⟨tl ((5,I 3)::(4,.osl 0 [] .full)::l),lb nb box loc,tok,nt⟩:=fun hbig {l loc}=>by
    have hR:oR a b=([],3):=by simp[oR,hva,hvb,hbig]
    exact(Fin.data (av:=.tup [.osl 0 [] .full,I 3]) (by simp[resAs,resA];rfl) Hb rfl Ht (fun _ h=>h) (nr _) (by simp)).mono fun v m hq=>⟨.inr ⟨by rw[hR],by rw[hR,hq.1]⟩,hq.2⟩
   refine sR ?_;simp[hw1,hw2];first|refine Gd.dt (fun hs1=>?_) (fun hs1=>?_)|refine Gd.df (fun hs1=>?_) (fun hs1=>?_)|refine Gd.t (fun hs1=>?_) (fun hs1=>?_)|refine Gd.f (fun hs1=>?_) (fun hs1=>?_)
   .simp[hs1,hw1,hw2];refine sC ?_;simp;refine sR ?_;simp;refine sN ?_;refine AL.ret ?_;try simp only[AU]
    exact⟨by simp,big (by omega)⟩
   .simp[hs1,hw1,hw2];refine sC ?_;simp;refine⟨fun hs2=>?_,fun hs2=>?_⟩
    .refine sR ?_;simp;refine sN ?_;refine AL.ret ?_;try simp only[AU]
     exact⟨by simp,big (by omega)⟩
    .have hsm:¬(40<a.nodes.length+b.nodes.length∨80<a.edges.length+b.edges.length):=by omega
     refine sR ?_;simp;refine AL.weak (wM (l':=[(9,.ptr (nb+45) 0 0)]) (loc':=[(45,[ovRow a b [] .full])]) (nr _) rfl (by simp[ToL,lk]) (by simp[BoxL,lk])) ?_;refine sR ?_;simp;refine Stop.sub (args':=[.ptr (nb+45) 0 0,.d (ints [])]) ⟨Sub.refl _,Sub.nil _ _ _,trivial⟩ ?_;refine Stop.of_a (nodes_c a b ⟨ha,hva,hb,validG_edges hvb⟩ b.nodes.length [] [] .full _ _ (nb+45) _ _ (by simp) (by simp) trivial) ?_;rintro v m' ⟨rfl,own1,tok1,nt1,rfl,hadv⟩;simp;refine sR ?_;simp;refine sC ?_;simp;have hkeep:∀t,tok t=true->tok1 t=true:=fun t ht=>hadv.keep t ht (by simp)
     refine⟨fun hmany=>?_,fun hfew=>?_⟩
     .have hR:oR a b=([],3):=by
       have:2000<(ovN a b b.nodes.length [] []).length:=by omega
       simp[oR,hva,hvb,hsm,this]
      refine sR ?_;simp;refine sN ?_;refine AL.ret ?_;try simp only[AU]
      exact⟨by simp,(Fin.data (av:=.tup [.osl 0 [] .full,I 3]) (by simp[resAs,resA];rfl) Hb rfl Ht hkeep hadv.le (by simp)).mono fun v m hq=>⟨.inr ⟨by rw[hR],by rw[hR,hq.1]⟩,hq.2⟩⟩
     .have hR:oR a b=(ovN a b b.nodes.length [] [],0):=by
       have:¬2000<(ovN a b b.nodes.length [] []).length:=by omega
       simp[oR,hva,hvb,hsm,this]
      refine sR ?_;simp;refine sN ?_;refine AL.ret ?_;try simp only[AU]
      exact⟨by simp,(Fin.data (av:=.tup [.d (ovs (ovN a b b.nodes.length [] [])),I 0]) (by simp[resAs,resA];rfl) Hb rfl Ht hkeep hadv.le (by simp)).mono fun v m hq=>⟨.inl (by rw[hR,hq.1]),hq.2⟩⟩
 refine main.conv fun v m h=>?_
 obtain⟨rfl|⟨h1,rfl⟩,rfl⟩:=h
 .exact⟨_,_,Conv.refl _ _,rfl,rfl⟩
 .refine⟨_,_,Conv.sub (v':=.tup [.d (ovs (oR a b).1),I (oR a b).2]) (Sub.tup ⟨?_,Sub.refl _,trivial⟩),rfl,rfl⟩;rw[h1];exact Sub.nil _ _ _
def PartL(l:List Int):Prop:=∀i (h:i<l.length),0<=l[i]/\l[i]<=i/\l.getD l[i].toNat 0=l[i]
def st105(l:List Int)(nb:Nat)(box:Bxs)(tok:Tks)(nt:Nat)(i:Nat):AS:=⟨tl [(0,.d (ints l)),(5,.d (ints l)),(6,I l.length),(7,I i)],lb nb box [],tok,nt⟩
theorem right105_c(l:List Int)(hl:l.length<=1000000)(hp:PartL l):DC 349 [.d (ints l)] (B true):=by
 intro tok nt box nb;refine sI func349 ntmps349 fun Hb Ht=>?_
 refine sR ?_;simp;refine sR ?_;simp;refine sN ?_;refine sL (st105 l nb box tok nt) (fun i=>i<=l.length) (fun i=>l.length-i) 0 (Nat.zero_le _) (wM (nr _) rfl (by simp[ToL]) trivial) ?_;rintro i S hi hS;simp only[st105] at hS;subst hS;have hw:=sW (i:=i) (by omega);refine sR ?_;simp;refine sC ?_;simp;refine⟨fun hlt=>?_,fun hge=>?_⟩
 .obtain⟨h1,h2,h3⟩:=hp i hlt;have h4:l[i].toNat<l.length:=by omega
  have h5:l[l[i].toNat]=l[i]:=by simpa[h4] using h3
  have k1:¬l[i]<0:=by omega
  have k2:¬(i:Int)<l[i]:=by omega
  refine sR ?_;simp[hlt];refine sR ?_;simp[k1,k2,h1,h4,h5];refine⟨by omega,?_⟩;refine sC ?_;simp;refine sR ?_;simp[hw];refine sE ?_;refine⟨i+1,hlt,by omega,wM (nr _) rfl (by simp[ToL]) trivial⟩
 .refine sX ?_;simp only[AU,↓reduceIte];refine sR ?_;simp;refine sT (sH Hb Ht ?_);simp
theorem one98_c(l:List Int)(hl:l.length<=80)(hp:PartL l):DC 347 [.d (ints l)] (I 0):=by
 intro tok nt box nb;refine sI func347 ntmps347 fun Hb Ht=>?_
 refine sR ?_;simp;refine sR ?_;simp;have h80:¬80<(l.length:Int):=by omega
 refine sC ?_;simp[h80];refine sR ?_;simp;refine sD (right105_c l (by omega) hp _ _) ?_;simp;refine sC ?_;simp;refine sR ?_;simp;refine sT (sH Hb Ht ?_);simp
def numN(l:List Int):Nat->List Int × Int
 | 0=>([],0)
 | i+1=>if l.getD i 0=i then ((numN l i).1++[(numN l i).2],(numN l i).2+1) else ((numN l i).1++[(numN l i).1.getD (l.getD i 0).toNat 0],(numN l i).2)
theorem numN_len(l:List Int):∀i,(numN l i).1.length=i/\0<=(numN l i).2/\(numN l i).2<=i
 | 0=>by simp[numN]
 | i+1=>by
  have:=numN_len l i
  simp only[numN];split<;>simp<;>omega
def st86(l:List Int)(nb:Nat)(box:Bxs)(x:Acc):AS :=
 ⟨tl [(6,.osl 1 (rI (numN l x.i).1) x.own),(7,I (numN l x.i).2),(15,.d (ints l)),(16,I l.length),(17,I x.i)],lb nb box [],x.tok,x.nt⟩
theorem quotient86_c(l:List Int)(hl:l.length<=80)(hp:PartL l):DC 339 [.d (ints l)] (.tup [.d (ints (numN l l.length).1),I (numN l l.length).2,I 0]):=by
 intro tok nt box nb;refine sI func339 ntmps339 fun Hb Ht=>?_
 refine sR ?_;simp;refine sR ?_;simp;refine sD (one98_c l hl hp _ _) ?_;simp;refine sR ?_;simp;refine sC ?_;simp;refine sR ?_;simp;refine sR ?_;simp;refine sR ?_;simp;refine sN ?_;refine sL (st86 l nb box) (fun x=>x.i<=l.length/\TK tok nt x.tok x.nt [x.own]) (fun x=>l.length-x.i) ⟨0,.full,tok,nt⟩ ⟨Nat.zero_le _,(TK.start Ht).full⟩ (wM (nr _) rfl (by simp[ToL,numN]) trivial) ?_;rintro⟨i,own,tok',nt'⟩ S ⟨hi,htk⟩ hS;simp only[st86] at hS hi htk;subst hS;have hw:=sW (i:=i) (by omega);obtain⟨hn1,hn2,hn3⟩:=numN_len l i;refine sR ?_;simp;refine sC ?_;simp;refine⟨fun hlt=>?_,fun hge=>?_⟩
 .obtain⟨h1,h2,h3⟩:=hp i hlt;have hwn:IntKind.i64.wrap ((numN l i).2+1)=(numN l i).2+1:=wrap_in (by omega) (by omega)
  refine sR ?_;simp[hlt];refine sR ?_;simp;refine sC ?_;simp;refine⟨fun he=>?_,fun hne=>?_⟩
  .refine sR ?_;simp;refine⟨⟨by omega,htk.live⟩,?_⟩;refine sR ?_;simp[hwn];refine sR ?_;simp[hw];refine sE ?_;refine⟨⟨i+1,_,_,_⟩,⟨hlt,htk.app⟩,by simp;omega,wM htk.app.le rfl (by simp[ToL,numN,hlt,he]) trivial⟩
  .have h4:l[i].toNat<(numN l i).1.length:=by omega
   have h5:l[i]<((numN l i).1.length:Int):=by omega
   refine sR ?_;simp[h1,h4,h5];refine⟨⟨by omega,htk.live⟩,?_⟩;refine sR ?_;simp[hw];refine sE ?_;refine⟨⟨i+1,_,_,_⟩,⟨hlt,htk.app⟩,by simp;omega,wM htk.app.le rfl (by simp[ToL,numN,hlt,hne,h4]) trivial⟩
 .refine sX ?_;simp only[AU,↓reduceIte];have:i=l.length:=by omega
  subst this;refine sR ?_;simp;refine sT (sG Hb Ht htk.old htk.le ?_);simp
abbrev rL(L:List (List Int)):List (List D):=L.map fun l=>[ints l]
abbrev lists(L:List (List Int)):D:=.sl 1 (rL L)
def nextsK(l:List Int)(k:Nat):List (List Int):=((List.range k).filter fun x=>decide (x=l.length)||decide (l.getD x 0=x)).map fun (x:Nat)=>l++[(x:Int)]
def partsN:Nat->List (List Int)
 | 0=>[[]]
 | n+1=>(partsN n).flatMap fun l=>nextsK l (n+1)
theorem partsN_len:∀n,∀l∈partsN n,l.length=n
 | 0=>by simp[partsN]
 | n+1=>by
  intro l hl;simp only[partsN,List.mem_flatMap] at hl;obtain⟨p,hp,hl⟩:=hl;have:=partsN_len n p hp
  simp only[nextsK,List.mem_map] at hl;obtain⟨x,_,rfl⟩:=hl;simp[this]
def repN(an l:List Int):Nat->List Int
 | 0=>[]
 | i+1=>if l.getD i 0=i then repN an l i++[an.getD i 0] else repN an l i
def repE(ae:List E)(qn l:List Int):Nat->List E
 | 0=>[]
 | i+1=>if l.getD i 0=i then repE ae qn l i++[⟨(ae.getD i default).ty,qn.getD (ae.getD i default).fr.toNat 0,qn.getD (ae.getD i default).to.toNat 0⟩] else repE ae qn l i
def quot(a:Gr)(nodes edges:List Int):Qu :=
 let qn:=(numN nodes nodes.length).1
 ⟨⟨repN a.nodes nodes nodes.length,repE a.edges qn edges edges.length⟩,⟨qn,(numN edges edges.length).1⟩⟩
theorem repN_len(an l:List Int):∀i,(repN an l i).length<=i
 | 0=>by simp[repN]
 | i+1=>by
  have:=repN_len an l i
  simp only[repN];split<;>simp<;>omega
theorem repE_len(ae:List E)(qn l:List Int):∀i,(repE ae qn l i).length<=i
 | 0=>by simp[repE]
 | i+1=>by
  have:=repE_len ae qn l i
  simp only[repE];split<;>simp<;>omega
def likeE(a:Gr)(p:List Int)(i n:Nat):Prop :=
 (a.edges.getD i default).ty=(a.edges.getD n default).ty/\p.getD (a.edges.getD i default).fr.toNat 0=p.getD (a.edges.getD n default).fr.toNat 0/\p.getD (a.edges.getD i default).to.toNat 0=p.getD (a.edges.getD n default).to.toNat 0
instance (a:Gr) (p:List Int) (i n:Nat):Decidable (likeE a p i n):=by unfold likeE;infer_instance
def alikeK(g:Nat->Int->Bool)(p:List Int)(i:Nat):Bool:=(List.range i).all fun j=>g j (p.getD j 0)
def alikeB(g:Nat->Int->Bool)(p:List Int):Bool:=alikeK g p p.length
theorem alikeK_succ(g:Nat->Int->Bool)(p:List Int)(i:Nat):alikeK g p (i+1)=(alikeK g p i&&g i (p.getD i 0)):=by
 simp[alikeK,List.range_succ]
def fillN(p an:List Int)(n:Nat):Nat->List Int
 | 0=>List.replicate n 0
 | i+1=>(fillN p an n i).set (p.getD i 0).toNat (an.getD i 0)
def fillE(q p:List Int)(ae:List E)(m:Nat):Nat->List E
 | 0=>List.replicate m ⟨0,0,0⟩
 | i+1=>(fillE q p ae m i).set (q.getD i 0).toNat ⟨(ae.getD i default).ty,p.getD (ae.getD i default).fr.toNat 0,p.getD (ae.getD i default).to.toNat 0⟩
theorem fillN_len(p an:List Int)(n:Nat):∀i,(fillN p an n i).length=n
 | 0=>by simp[fillN]
 | i+1=>by simp[fillN,fillN_len p an n i]
theorem fillE_len(q p:List Int)(ae:List E)(m:Nat):∀i,(fillE q p ae m i).length=m
 | 0=>by simp[fillE]
 | i+1=>by simp[fillE,fillE_len q p ae m i]
def quF(a:Gr)(nodes edges:List Int):Qu :=
 let p:=(numN nodes nodes.length).1
 let q:=(numN edges edges.length).1
 ⟨⟨fillN p a.nodes (numN nodes nodes.length).2.toNat a.nodes.length,fillE q p a.edges (numN edges edges.length).2.toNat a.edges.length⟩,⟨p,q⟩⟩
theorem numN_range{l:List Int}(hp:PartL l):∀i,i<=l.length->∀j (h:j<(numN l i).1.length),0<=(numN l i).1[j]/\(numN l i).1[j]<(numN l i).2
 | 0,_=>by intro j h;simp[numN] at h
 | i+1,hi=>by
  intro j h;have ih:=numN_range hp i (by omega);have hlen:=numN_len l i;have hil:i<l.length:=by omega
  have hg:l.getD i 0=l[i]:=by simp[hil]
  obtain⟨p1,p2,p3⟩:=hp i hil;simp only[numN,hg] at h ⊢;split
  .rename_i he;simp only[he,↓reduceIte] at h;by_cases hj:j<(numN l i).1.length
   .rw[List.getElem_append_left hj];have:=ih j hj
    exact⟨this.1,by omega⟩
   .have hj2:j=(numN l i).1.length:=by simp at h;omega
    subst hj2;rw[List.getElem_concat_length (by simp)];exact⟨hlen.2.1,by omega⟩
  .rename_i he;simp only[he,↓reduceIte] at h;by_cases hj:j<(numN l i).1.length
   .rw[List.getElem_append_left hj];exact ih j hj
   .have hj2:j=(numN l i).1.length:=by simp at h;omega
    subst hj2;rw[List.getElem_concat_length (by simp)];have h4:l[i].toNat<(numN l i).1.length:=by omega
    rw[List.getD_eq_getElem?_getD,List.getElem?_eq_getElem h4];exact ih _ h4
def lim{α:Type}(out L:List α):List α:=out++L.take (2001-out.length)
theorem lim_nil{α:Type}(out:List α):lim out []=out:=by simp[lim]
theorem lim_append{α:Type}(out A B:List α):lim (lim out A) B=lim out (A++B):=by
 unfold lim;rw[List.take_append,List.append_assoc];congr 2
 simp only[List.length_append,List.length_take];congr 1
 omega
theorem lim_full{α:Type}(out L:List α)(h:2000<out.length):lim out L=out:=by
 unfold lim;have:2001-out.length=0:=by omega
 simp[this]
theorem lim_one{α:Type}(out:List α)(x:α)(h:¬2000<out.length):lim out [x]=out++[x]:=by
 unfold lim;have:2001-out.length=(2001-out.length-1)+1:=by omega
 rw[this];simp
theorem foldl_lim{α:Type}(c:Nat->Bool)(f:Nat->List α->List α)(g:Nat->List α):∀(ks:List Nat) (out:List α),(∀k∈ks,∀out,f k out=lim out (g k)) ->
  ks.foldl (fun out k=>if c k=true then f k out else out) out=lim out ((ks.filter c).flatMap g)
 | [],out,_=>by simp[lim_nil]
 | k::ks,out,h=>by
  rw[List.foldl_cons,foldl_lim c f g ks _ (fun k hk=>h k (by simp[hk]))];by_cases hk:c k=true
  .rw[List.filter_cons_of_pos hk,List.flatMap_cons,if_pos hk,h k (by simp),lim_append]
  .rw[List.filter_cons_of_neg hk,if_neg hk]
def nextsG(g:Nat->Int->Bool)(l:List Int):List (List Int):=((List.range (l.length+1)).filter fun x=>decide (x=l.length∨(l.getD x 0=x/\g l.length x=true))).map fun (x:Nat)=>l++[(x:Int)]
def reachG(g:Nat->Int->Bool):Nat->List Int->List (List Int)
 | 0,l=>[l]
 | n+1,l=>(reachG g n l).flatMap (nextsG g)
theorem alikeB_snoc(g:Nat->Int->Bool)(l:List Int)(x:Int):alikeB g (l++[x])=(alikeB g l&&g l.length x):=by
 unfold alikeB;simp only[List.length_append,List.length_cons,List.length_nil,Nat.zero_add];rw[alikeK_succ];congr 1
 .unfold alikeK;rw[Bool.eq_iff_iff,List.all_eq_true,List.all_eq_true];constructor<;>intro h j hj<;>have:=h j hj<;>have hj':j<l.length:=by simpa using hj
  .rw[List.getD_eq_getElem?_getD,List.getElem?_append_left hj',<-List.getD_eq_getElem?_getD] at this;exact this
  .rw[List.getD_eq_getElem?_getD,List.getElem?_append_left hj',<-List.getD_eq_getElem?_getD];exact this
 .simp
theorem reach_filter(g:Nat->Int->Bool)(hg:∀i:Nat,g i i=true):∀n,reachG g n []=(partsN n).filter (alikeB g)
 | 0=>by simp[reachG,partsN,alikeB,alikeK]
 | n+1=>by
  rw[reachG,reach_filter g hg n,partsN,List.filter_flatMap];have key:∀L:List (List Int),(∀l∈L,l.length=n)->(L.filter (alikeB g)).flatMap (nextsG g)=L.flatMap fun l=>(nextsK l (n+1)).filter (alikeB g):=by
   intro L;induction L with
   | nil=>intro _;rfl
   | cons l L ih =>
    intro hL;have hl:=hL l (by simp);have hone:(nextsK l (n+1)).filter (alikeB g)=if alikeB g l=true then nextsG g l else []:=by
     unfold nextsK nextsG;rw[List.filter_map,List.filter_filter,hl];by_cases ha:alikeB g l=true
     .rw[if_pos ha];congr 1
      apply List.filter_congr;intro x hx;simp only[Function.comp,alikeB_snoc,ha,Bool.true_and,hl];rw[Bool.eq_iff_iff];simp only[Bool.and_eq_true,Bool.or_eq_true,decide_eq_true_eq];constructor
      .rintro⟨h1,h2|h2⟩
       .exact .inl h2
       .exact .inr ⟨h2,h1⟩
      .rintro(h1|⟨h1,h2⟩)
       .subst h1;exact⟨hg _,.inl rfl⟩
       .exact⟨h2,.inr h1⟩
     .rw[if_neg ha];have:((List.range (n+1)).filter fun a=>((alikeB g) ∘ fun (x:Nat)=>l++[(x:Int)]) a&&(decide (a=n)||decide (l.getD a 0=↑a)))=[]:=by
       rw[List.filter_eq_nil_iff];intro x hx;simp only[Function.comp,alikeB_snoc];simp[ha]
      rw[this];rfl
    rw[List.flatMap_cons,hone];by_cases ha:alikeB g l=true
    .rw[List.filter_cons_of_pos ha,List.flatMap_cons,if_pos ha,ih fun l hl=>hL l (by simp[hl])]
    .rw[List.filter_cons_of_neg ha,if_neg ha,ih fun l hl=>hL l (by simp[hl])];rfl
  exact key _ (partsN_len n)
def gE(a:Gr)(p:List Int)(i:Nat)(k:Int):Bool:=decide (likeE a p i k.toNat)
def gN(a:Gr)(i:Nat)(k:Int):Bool:=decide (a.nodes.getD i 0=a.nodes.getD k.toNat 0)
section
variable {α:Type}
def repG(f:Nat->α)(l:List Int):Nat->List α
 | 0=>[]
 | i+1=>if l.getD i 0=i then repG f l i++[f i] else repG f l i
def fillG(p:List Int)(f:Nat->α)(n:Nat)(d:α):Nat->List α
 | 0=>List.replicate n d
 | i+1=>(fillG p f n d i).set (p.getD i 0).toNat (f i)
theorem numN_pre(l:List Int):∀(i j k:Nat),j<=i->k<j->(numN l i).1.getD k 0=(numN l j).1.getD k 0:=by
  intro i j k hji hkj;induction i with
  | zero=>
    have:j=0:=by omega
    subst this;rfl
  | succ i ih =>
    by_cases h:j=i+1
    . subst h;rfl
    . rw[<-ih (by omega)]
      have hl:=(numN_len l i).1;simp only[numN];split<;>simp only[List.getD_eq_getElem?_getD]<;>rw[List.getElem?_append_left (by omega)]
theorem numN_rep(f:Nat->α)(l:List Int):∀i,(repG f l i).length=(numN l i).2.toNat
 | 0=>rfl
 | i+1=>by
  have ih:=numN_rep f l i;have h:=numN_len l i;simp only[repG,numN];split
  .simp only[List.length_append,List.length_cons,List.length_nil];omega
  .exact ih
theorem numN_get{l:List Int}(hp:PartL l)(f:Nat->α)(hf:∀i (h:i<l.length),f l[i].toNat=f i):∀i,i<=l.length->∀j,j<i->(repG f l i)[((numN l i).1.getD j 0).toNat]?=some (f j)
 | 0,_=>by intro j h;omega
 | i+1,hi=>by
  intro j hj;have ih:=numN_get hp f hf i (by omega);have hlen:=numN_len l i;have hil:i<l.length:=by omega
  have hg:l.getD i 0=l[i]:=by simp[hil]
  obtain⟨p1,p2,p3⟩:=hp i hil;have hrep:=numN_rep f l i;by_cases hji:j<i
  .rw[numN_pre l (i+1) i j (by omega) hji];have h1:=ih j hji;simp only[repG];split
   .have hlt:((numN l i).1.getD j 0).toNat<(repG f l i).length:=(List.getElem?_eq_some_iff.1 h1).1
    rw[List.getElem?_append_left hlt];exact h1
   .exact h1
  .have hji2:j=i:=by omega
   subst hji2;simp only[repG,numN,hg];split
   .rename_i he;have:((numN l j).1++[(numN l j).2]).getD j 0=(numN l j).2:=by
     rw[List.getD_eq_getElem?_getD,List.getElem?_append_right (by omega)];simp[hlen.1]
    rw[this,<-hrep];simp
   .rename_i he;have:((numN l j).1++[(numN l j).1.getD l[j].toNat 0]).getD j 0=(numN l j).1.getD l[j].toNat 0:=by
     rw[List.getD_eq_getElem?_getD,List.getElem?_append_right (by omega)];simp[hlen.1]
    rw[this,ih l[j].toNat (by omega),hf j hil]
theorem numN_mono(l:List Int):∀i j,i<=j->(numN l i).2<=(numN l j).2:=by
  intro i j h;induction j with
  | zero=>
    have:i=0:=by omega
    subst this;exact Int.le_refl _
  | succ j ih =>
    by_cases e:i=j+1
    . subst e;exact Int.le_refl _
    . have:=ih (by omega)
      simp only[numN];split<;>simp only<;>omega
theorem fill_rep{l:List Int}(hp:PartL l)(f:Nat->α)(d:α)(hf:∀i (h:i<l.length),f l[i].toNat=f i):∀i,i<=l.length ->
  fillG (numN l l.length).1 f (numN l l.length).2.toNat d i=repG f l i++List.replicate ((numN l l.length).2.toNat-(numN l i).2.toNat) d
 | 0,_=>by simp[fillG,repG,numN]
 | i+1,hi=>by
  have ih:=fill_rep hp f d hf i (by omega);have hil:i<l.length:=by omega
  have hg:l.getD i 0=l[i]:=by simp[hil]
  have hlen:=numN_len l i;have hrep:=numN_rep f l i;rw[fillG,ih,numN_pre l l.length (i+1) i hi (by omega)];have hm:=numN_mono l (i+1) l.length hi;simp only[repG,numN,hg] at hm ⊢;split
  .rename_i he;simp only[he,↓reduceIte] at hm;have e1:((numN l i).1++[(numN l i).2]).getD i 0=(numN l i).2:=by
    rw[List.getD_eq_getElem?_getD,List.getElem?_append_right (by omega)];simp[hlen.1]
   rw[e1,List.set_append,<-hrep];simp only[Nat.lt_irrefl,↓reduceIte,Nat.sub_self];have e2:(numN l l.length).2.toNat-(repG f l i).length=((numN l l.length).2.toNat-((numN l i).2+1).toNat)+1:=by omega
   rw[e2,List.replicate_succ,List.set_cons_zero,List.append_assoc];rfl
  .rename_i he;have e1:((numN l i).1++[(numN l i).1.getD l[i].toNat 0]).getD i 0=(numN l i).1.getD l[i].toNat 0:=by
    rw[List.getD_eq_getElem?_getD,List.getElem?_append_right (by omega)];simp[hlen.1]
   obtain⟨p1,p2,p3⟩:=hp i hil;have h3:=numN_get hp f hf i (by omega) l[i].toNat (by omega);rw[hf i hil] at h3;obtain⟨h4,h5⟩:=List.getElem?_eq_some_iff.1 h3;rw[e1,List.set_append,if_pos h4,<-h5,List.set_getElem_self]
theorem fill_rep_all{l:List Int}(hp:PartL l)(f:Nat->α)(d:α)(hf:∀i (h:i<l.length),f l[i].toNat=f i):
  fillG (numN l l.length).1 f (numN l l.length).2.toNat d l.length=repG f l l.length:=by
 rw[fill_rep hp f d hf l.length (nr _),Nat.sub_self];simp
end
theorem fillN_eq(p an:List Int)(n:Nat):∀i,fillN p an n i=fillG p (fun j=>an.getD j 0) n 0 i
 | 0=>rfl
 | i+1=>by rw[fillN,fillG,fillN_eq p an n i]
theorem repN_eq(an l:List Int):∀i,repN an l i=repG (fun j=>an.getD j 0) l i
 | 0=>rfl
 | i+1=>by rw[repN,repG,repN_eq an l i]
def edgeAt(ae:List E)(p:List Int)(j:Nat):E:=⟨(ae.getD j default).ty,p.getD (ae.getD j default).fr.toNat 0,p.getD (ae.getD j default).to.toNat 0⟩
theorem fillE_eq(q p:List Int)(ae:List E)(n:Nat):∀i,fillE q p ae n i=fillG q (edgeAt ae p) n ⟨0,0,0⟩ i
 | 0=>rfl
 | i+1=>by rw[fillE,fillG,fillE_eq q p ae n i];rfl
theorem repE_eq(ae:List E)(p l:List Int):∀i,repE ae p l i=repG (edgeAt ae p) l i
 | 0=>rfl
 | i+1=>by rw[repE,repG,repE_eq ae p l i];rfl
theorem numN_class{l:List Int}(hp:PartL l)(x:Nat)(hx:x<l.length):(numN l l.length).1.getD x 0=(numN l l.length).1.getD l[x].toNat 0:=by
 obtain⟨p1,p2,p3⟩:=hp x hx;by_cases he:l[x]=x
 .rw[he];rfl
 .rw[numN_pre l l.length (x+1) x (by omega) (by omega),numN_pre l l.length x l[x].toNat (by omega) (by omega)];have hlen:=numN_len l x;have hg:l.getD x 0=l[x]:=by simp[hx]
  simp only[numN,hg,he,↓reduceIte];rw[List.getD_eq_getElem?_getD,List.getElem?_append_right (by omega)];simp[hlen.1]
theorem alikeB_all{g:Nat->Int->Bool}{l:List Int}(h:alikeB g l=true)(i:Nat)(hi:i<l.length):g i l[i]=true:=by
 unfold alikeB alikeK at h;have:=List.all_eq_true.1 h i (by simpa using hi)
 simpa[hi] using this
theorem quF_quot(a:Gr)(l k:List Int)(hl:l.length=a.nodes.length)(hk:k.length=a.edges.length)(hpl:PartL l)(hpk:PartL k)(hx:∀e∈a.edges,0<=e.fr/\e.fr<a.nodes.length/\0<=e.to/\e.to<a.nodes.length)(h1:alikeB (gN a) l=true)(h2:alikeB (gE a l) k=true):quF a l k=quot a l k:=by
 unfold quF quot;simp only;congr 1
 congr 1
 .rw[<-hl,fillN_eq,repN_eq];refine fill_rep_all hpl _ _ fun i hi=>?_
  have:=alikeB_all h1 i hi
  simp only[gN,decide_eq_true_eq] at this;exact this.symm
 .rw[<-hk,fillE_eq,repE_eq];refine fill_rep_all hpk _ _ fun i hi=>?_
  have:=alikeB_all h2 i hi
  simp only[gE,decide_eq_true_eq] at this;obtain⟨t1,t2,t3⟩:=this;have hia:i<a.edges.length:=by omega
  obtain⟨q1,q2,q3⟩:=hpk i hi;have hka:k[i].toNat<a.edges.length:=by omega
  have g1:a.edges.getD i default=a.edges[i]:=by simp[hia]
  have g2:a.edges.getD k[i].toNat default=a.edges[k[i].toNat]:=by simp[hka]
  obtain⟨x1,x2,x3,x4⟩:=hx _ (List.getElem_mem hia);obtain⟨z1,z2,z3,z4⟩:=hx _ (List.getElem_mem hka);have cls:∀x y:Nat,x<l.length->y<l.length->l.getD x 0=l.getD y 0->(numN l l.length).1.getD x 0=(numN l l.length).1.getD y 0:=by
   intro x y hx hy he;have e1:l.getD x 0=l[x]:=by simp[hx]
   have e2:l.getD y 0=l[y]:=by simp[hy]
   rw[numN_class hpl x hx,numN_class hpl y hy,<-e1,<-e2,he]
  rw[g1,g2] at t1 t2 t3;simp only[edgeAt,g1,g2,E.mk.injEq];exact⟨t1.symm,(cls _ _ (by omega) (by omega) t2).symm,(cls _ _ (by omega) (by omega) t3).symm⟩
theorem Sub.agg{xs ys:List AV}(h:SubL xs ys):Sub (.agg xs) (.agg ys):=fun G w v r=>by
 cases r with
 | agg hl hh h1=>have:=h.rvs ⟨hl,hh⟩;exact .agg this.1 this.2 h1
theorem foldl_all{α β:Type}{P:α->Prop}(f:List α->β->List α):∀(l:List β) (out:List α),(∀out b,b∈l->(∀o∈out,P o)->∀o∈f out b,P o)->(∀o∈out,P o)->∀o∈l.foldl f out,P o
 | [],out,_,h=>h
 | b::l,out,hf,h=>foldl_all f l _ (fun out b hb=>hf out b (by simp[hb])) (hf out b (by simp) h)
theorem ovE_all{P:Ov->Prop}(a b:Gr)(nodes:List Int):∀(n:Nat) (es:List Int) (out:List Ov),(∀o∈out,P o)->(∀es',es'.length=es.length+n->P (glue a b nodes es'))->∀o∈ovE a b nodes n es out,P o
 | 0,es,out,h,hg=>by
  unfold ovE;split
  .exact h
  .intro o ho;rcases List.mem_append.1 ho with ho|ho
   .exact h o ho
   .simp at ho;subst ho;exact hg es (by simp)
 | n+1,es,out,h,hg=>by
  unfold ovE;split
  .exact h
  .refine foldl_all _ _ _ (fun out k _ ho=>?_) (ovE_all a b nodes n _ _ h fun es' he=>hg es' (by simp at he;omega));split
   .exact ovE_all a b nodes n _ _ ho fun es' he=>hg es' (by simp at he;omega)
   .exact ho
theorem ovN_all{P:Ov->Prop}(a b:Gr):∀(n:Nat) (l:List Int) (out:List Ov),(∀o∈out,P o)->(∀l' es',l'.length=l.length+n->es'.length=b.edges.length->P (glue a b l' es'))->∀o∈ovN a b n l out,P o
 | 0,l,out,h,hg=>by
  unfold ovN;split
  .exact h
  .exact ovE_all a b l _ _ _ h fun es' he=>hg l es' (by simp) (by simpa using he)
 | n+1,l,out,h,hg=>by
  unfold ovN;split
  .exact h
  .refine foldl_all _ _ _ (fun out k _ ho=>?_) (ovN_all a b n _ _ h fun l' es' hl he=>hg l' es' (by simp at hl;omega) he);unfold ovStepN;split
   .exact ovN_all a b n _ _ ho fun l' es' hl he=>hg l' es' (by simp at hl;omega) he
   .exact ho
theorem glue_fit(a b:Gr)(l k:List Int)(ha:a.nodes.length<=90/\a.edges.length<=90)(hl:l.length<=90)(hk:k.length<=90):(glue a b l k).Fit:=by
 have h1:=glueN_len a.nodes b.nodes l l.length;have h2:=glueE_len a.edges b.edges (glueN a.nodes b.nodes l l.length).2 k k.length;exact⟨⟨by simp only[glue];omega,by simp only[glue];omega⟩,⟨by simp[glue,idM];omega,by simp[glue,idM];omega⟩,⟨by simp only[glue];omega,by simp only[glue];omega⟩⟩
theorem overlapsR_fit(a b:Gr)(ha:a.nodes.length<=90/\a.edges.length<=90)(hb:b.nodes.length<=90/\b.edges.length<=90):(oR a b).1.length<=1000000/\∀o∈(oR a b).1,o.Fit:=by
 have key:∀o∈ovN a b b.nodes.length [] [],o.Fit:=ovN_all a b _ _ _ (by simp) fun l' es' h1 h2=>glue_fit a b l' es' ha (by simp at h1;omega) (by omega)
 unfold oR;split
 .simp
 .split
  .simp
  .split
   .simp
   .split
    .simp
    .exact⟨by simp only;omega,key⟩
def firstE(f:Nat->Int):Nat->Int
 | 0=>0
 | n+1=>if firstE f n=0 then f n else firstE f n
theorem firstE_stop{f:Nat->Int}{i:Nat}(h0:firstE f i=0)(h:f i≠0):∀n,i<n->firstE f n=f i
 | 0,hn=>by omega
 | n+1,hn=>by
  simp only[firstE];by_cases e:i=n
  .subst e;rw[if_pos h0]
  .rw[firstE_stop h0 h n (by omega),if_neg h]
def nodeE(a b:Gr)(m:Mo)(i:Nat):Int :=
 if m.nodes.getD i 0<0∨(b.nodes.length:Int)<=m.nodes.getD i 0 then 6 else if b.nodes.getD (m.nodes.getD i 0).toNat 0=a.nodes.getD i 0 then 0 else 13
def edgeE(a b:Gr)(m:Mo)(i:Nat):Int :=
 if m.edges.getD i 0<0∨(b.edges.length:Int)<=m.edges.getD i 0 then 6 else
  let x:=a.edges.getD i default
  let y:=b.edges.getD (m.edges.getD i 0).toNat default
  if x.ty≠y.ty then 13 else if m.nodes.getD x.fr.toNat 0≠y.fr∨m.nodes.getD x.to.toNat 0≠y.to then 11 else 0
def validM(a b:Gr)(m:Mo):Int :=
 if vG a≠0 then vG a else if vG b≠0 then vG b else if m.nodes.length≠a.nodes.length∨m.edges.length≠a.edges.length then 20
 else if firstE (nodeE a b m) a.nodes.length≠0 then firstE (nodeE a b m) a.nodes.length else firstE (edgeE a b m) a.edges.length
def st51a(a b:Gr)(m:Mo)(nb:Nat)(box:Bxs)(tok:Tks)(nt:Nat)(i:Nat):AS :=
 ⟨tl [(3,.ptr (nb+3) 0 0),(4,.ptr (nb+4) 0 0),(5,.ptr (nb+5) 0 0),(42,.d (ints m.nodes)),(43,I m.nodes.length),(44,I i)],
  lb nb box [(3,[[.d (ints a.nodes),.d (AM.edges a.edges)]]),(4,[[.d (ints b.nodes),.d (AM.edges b.edges)]]),(5,[[.d (ints m.nodes),.d (ints m.edges)]])],tok,nt⟩
def st51b(a b:Gr)(m:Mo)(nb:Nat)(box:Bxs)(tok:Tks)(nt:Nat)(i:Nat):AS :=
 ⟨tl [(3,.ptr (nb+3) 0 0),(4,.ptr (nb+4) 0 0),(5,.ptr (nb+5) 0 0),(71,.d (ints m.edges)),(72,I m.edges.length),(73,I i)],
  lb nb box [(3,[[.d (ints a.nodes),.d (AM.edges a.edges)]]),(4,[[.d (ints b.nodes),.d (AM.edges b.edges)]]),(5,[[.d (ints m.nodes),.d (ints m.edges)]])],tok,nt⟩
theorem valid51_c(a b:Gr)(m:Mo)(ha:a.Fit)(hb:b.Fit):DC 115 [a.av,b.av,m.av] (I (validM a b m)):=by
 intro tok nt box nb;have han:=ha.n;have hae:=ha.e;have hbn:=hb.n;have hbe:=hb.e;refine sI func115 ntmps115 fun Hb Ht=>?_
 refine sR ?_;simp;refine sR ?_;simp;refine sD (graphValid_c a ha _ _) ?_;simp;by_cases hva:vG a=0
 .refine sR ?_;simp[hva];refine sC ?_;simp;refine sR ?_;simp;refine sD (graphValid_c b hb _ _) ?_;simp;by_cases hvb:vG b=0
  .refine sR ?_;simp[hvb];refine sC ?_;simp;have hxa:=validG_edges hva;have hxb:=validG_edges hvb;refine sR ?_;simp;by_cases hl1:m.nodes.length=a.nodes.length
   .simp[hl1];refine sC ?_;simp;refine⟨fun hl2=>?_,fun hl2=>?_⟩
    .refine sR ?_;simp;have hR:validM a b m=20:=by
      have:¬m.edges.length=a.edges.length:=by omega
      simp[validM,hva,hvb,this]
     refine sT (sH Hb Ht ?_);simp[hR]
    .refine sR ?_;simp;refine sN ?_;have hl2':m.edges.length=a.edges.length:=by omega
     have hRn:∀i,i<a.nodes.length->firstE (nodeE a b m) i=0->nodeE a b m i≠0->validM a b m=nodeE a b m i:=fun i hi h0 hne=>by
      have:=firstE_stop h0 hne a.nodes.length hi
      simp[validM,hva,hvb,hl1,hl2',this,hne]
     refine sL (st51a a b m nb box tok nt) (fun i=>i<=m.nodes.length/\firstE (nodeE a b m) i=0) (fun i=>m.nodes.length-i) 0 ⟨Nat.zero_le _,rfl⟩ wkA ?_;rintro i S ⟨hi,hok⟩ hS;simp only[st51a] at hS;subst hS;have hw:=sW (i:=i) (by omega);refine sR ?_;simp;refine sC ?_;simp;refine⟨fun hlt=>?_,fun hge=>?_⟩
     .have hia:i<a.nodes.length:=by omega
      have hgm:m.nodes.getD i 0=m.nodes[i]:=by simp[hlt]
      have hga:a.nodes.getD i 0=a.nodes[i]:=by simp[hia]
      refine sR ?_;simp[hlt];by_cases hneg:m.nodes[i]<0
      .refine sR ?_;simp[hneg];refine sC ?_;simp;refine sR ?_;simp;have hN:nodeE a b m i=6:=by simp only[nodeE,hgm];rw[if_pos (.inl hneg)]
       have hR:=hRn i hia hok (by rw[hN];decide);refine sT (sH Hb Ht ?_);simp[hR,hN]
      .refine sR ?_;simp[hneg];refine sC ?_;simp;refine⟨fun hbig=>?_,fun hsm=>?_⟩
       .refine sR ?_;simp;have hN:nodeE a b m i=6:=by simp only[nodeE,hgm];rw[if_pos (.inr (by omega))]
        have hR:=hRn i hia hok (by rw[hN];decide);refine sT (sH Hb Ht ?_);simp[hR,hN]
       .have hkb:m.nodes[i].toNat<b.nodes.length:=by omega
        have h0:0<=m.nodes[i]:=by omega
        have hgb:b.nodes.getD m.nodes[i].toNat 0=b.nodes[m.nodes[i].toNat]:=by simp[hkb]
        have hnb:¬(b.nodes.length:Int)<=m.nodes[i]:=by omega
        refine sR ?_;simp[hkb,h0,hsm,hia];refine sC ?_;simp;refine⟨fun hne=>?_,fun heq=>?_⟩
        .refine sR ?_;simp;have hN:nodeE a b m i=13:=by simp only[nodeE,hgm,hga,hgb];rw[if_neg (by omega),if_neg hne]
         have hR:=hRn i hia hok (by rw[hN];decide);refine sT (sH Hb Ht ?_);simp[hR,hN]
        .refine sR ?_;simp[hw];refine sE ?_;refine⟨i+1,⟨hlt,?_⟩,by omega,wkA⟩;have hN:nodeE a b m i=0:=by simp only[nodeE,hgm,hga,hgb];rw[if_neg (by omega),if_pos heq]
         simp only[firstE,hok,hN,↓reduceIte]
     .refine sX ?_;simp only[AU,↓reduceIte];have hin:i=a.nodes.length:=by omega
      subst hin;refine sR ?_;simp;refine sN ?_;have hRe:∀i,i<a.edges.length->firstE (edgeE a b m) i=0->edgeE a b m i≠0->validM a b m=edgeE a b m i:=fun i hi h0 hne=>by
       have:=firstE_stop h0 hne a.edges.length hi
       simp[validM,hva,hvb,hl1,hl2',hok,this]
      refine sL (st51b a b m nb box tok nt) (fun i=>i<=m.edges.length/\firstE (edgeE a b m) i=0) (fun i=>m.edges.length-i) 0 ⟨Nat.zero_le _,rfl⟩ wkA ?_;rintro i S ⟨hi,hoke⟩ hS;simp only[st51b] at hS;subst hS;have hw:=sW (i:=i) (by omega);refine sR ?_;simp;refine sC ?_;simp;refine⟨fun hlt=>?_,fun hge=>?_⟩
      .have hia:i<a.edges.length:=by omega
       have hgm:m.edges.getD i 0=m.edges[i]:=by simp[hlt]
       have hga:a.edges.getD i default=a.edges[i]:=by simp[hia]
       obtain⟨x1,x2,x3,x4⟩:=hxa _ (List.getElem_mem hia);rw[<-hl1] at x2 x4;have y1:a.edges[i].fr.toNat<m.nodes.length:=by omega
       have y2:a.edges[i].to.toNat<m.nodes.length:=by omega
       have hg1:m.nodes.getD a.edges[i].fr.toNat 0=m.nodes[a.edges[i].fr.toNat]:=by simp[y1]
       have hg2:m.nodes.getD a.edges[i].to.toNat 0=m.nodes[a.edges[i].to.toNat]:=by simp[y2]
       refine sR ?_;simp[hlt];by_cases hneg:m.edges[i]<0
       .refine sR ?_;simp[hneg];refine sC ?_;simp;refine sR ?_;simp;have hN:edgeE a b m i=6:=by simp only[edgeE,hgm];rw[if_pos (.inl hneg)]
        have hR:=hRe i hia hoke (by rw[hN];decide);refine sT (sH Hb Ht ?_);simp[hR,hN]
       .refine sR ?_;simp[hneg];refine sC ?_;simp;refine⟨fun hbig=>?_,fun hsm=>?_⟩
        .refine sR ?_;simp;have hN:edgeE a b m i=6:=by simp only[edgeE,hgm];rw[if_pos (.inr (by omega))]
         have hR:=hRe i hia hoke (by rw[hN];decide);refine sT (sH Hb Ht ?_);simp[hR,hN]
        .have hkb:m.edges[i].toNat<b.edges.length:=by omega
         have h0:0<=m.edges[i]:=by omega
         have hgb:b.edges.getD m.edges[i].toNat default=b.edges[m.edges[i].toNat]:=by simp[hkb]
         have hnn:¬(m.edges[i]<0∨(b.edges.length:Int)<=m.edges[i]):=by omega
         refine sN ?_;refine AL.region2 follows_Tryz (nr _) (by kernel_rfl) (Side.of (by simp)) ?_;simp[hkb,h0,hsm,hia];generalize hy:b.edges[m.edges[i].toNat]=y at *;refine sR ?_;simp;refine sC ?_;simp;refine⟨fun hty=>?_,fun hty=>?_⟩
         .refine sR ?_;simp;have hN:edgeE a b m i=13:=by simp only[edgeE,hgm,hga,hgb];rw[if_neg hnn,if_pos hty]
          have hR:=hRe i hia hoke (by rw[hN];decide);refine sT (sH Hb Ht ?_);simp[hR,hN]
         .refine sR ?_;simp[x1,x2,x3,x4,y1,y2];by_cases hfr:m.nodes[a.edges[i].fr.toNat]=y.fr
          .have hb1:(m.nodes[a.edges[i].fr.toNat]!=y.fr)=false:=by simp[hfr]
           simp only[hb1];simp[x1,x2,x3,x4,y1,y2];refine sC ?_;simp;refine⟨fun hto=>?_,fun hto=>?_⟩
           .refine sR ?_;simp;have hN:edgeE a b m i=11:=by simp only[edgeE,hgm,hga,hgb,hg1,hg2];rw[if_neg hnn,if_neg (by simp[hty]),if_pos (.inr hto)]
            have hR:=hRe i hia hoke (by rw[hN];decide);refine sT (sH Hb Ht ?_);simp[hR,hN]
           .refine sR ?_;simp[hw];refine sE ?_;refine⟨i+1,⟨hlt,?_⟩,by omega,wkA⟩;have hN:edgeE a b m i=0:=by simp only[edgeE,hgm,hga,hgb,hg1,hg2];rw[if_neg hnn,if_neg (by simp[hty]),if_neg (by simp[hfr,hto])]
            simp only[firstE,hoke,hN,↓reduceIte]
          .have hb1:(m.nodes[a.edges[i].fr.toNat]!=y.fr)=true:=by simp[hfr]
           simp only[hb1];simp;refine sC ?_;simp;refine sR ?_;simp;have hN:edgeE a b m i=11:=by simp only[edgeE,hgm,hga,hgb,hg1,hg2];rw[if_neg hnn,if_neg (by simp[hty]),if_pos (.inl hfr)]
           have hR:=hRe i hia hoke (by rw[hN];decide);refine sT (sH Hb Ht ?_);simp[hR,hN]
      .refine sX ?_;simp only[AU,↓reduceIte];have hin:i=a.edges.length:=by omega
       subst hin;refine sR ?_;simp;have hR:validM a b m=0:=by simp[validM,hva,hvb,hl1,hl2',hok,hoke]
       refine sT (sH Hb Ht ?_);simp[hR]
   .have hb1:((m.nodes.length:Int)!=(a.nodes.length:Int))=true:=by simp;omega
    simp only[hb1];simp;refine sC ?_;simp;refine sR ?_;simp;have hR:validM a b m=20:=by simp[validM,hva,hvb,hl1]
    refine sT (sH Hb Ht ?_);simp[hR]
  .refine sR ?_;simp;refine sC ?_;simp[hvb];refine sR ?_;simp;refine sT (sH Hb Ht ?_);simp[validM,hva,hvb]
 .refine sR ?_;simp;refine sC ?_;simp[hva];refine sR ?_;simp;refine sT (sH Hb Ht ?_);simp[validM,hva]
def st53a(a b:Gr)(m:Mo)(nb:Nat)(box:Bxs)(tok:Tks)(nt:Nat)(i:Nat):AS :=
 ⟨tl [(3,.ptr (nb+3) 0 0),(4,.ptr (nb+4) 0 0),(5,.ptr (nb+5) 0 0),(9,I i)],
  lb nb box [(3,[[.d (ints a.nodes),.d (AM.edges a.edges)]]),(4,[[.d (ints b.nodes),.d (AM.edges b.edges)]]),(5,[[.d (ints m.nodes),.d (ints m.edges)]])],tok,nt⟩
def st53b(a b:Gr)(m:Mo)(nb:Nat)(box:Bxs)(tok:Tks)(nt:Nat)(i:Nat):AS :=
 ⟨tl [(3,.ptr (nb+3) 0 0),(4,.ptr (nb+4) 0 0),(5,.ptr (nb+5) 0 0),(10,I i)],
  lb nb box [(3,[[.d (ints a.nodes),.d (AM.edges a.edges)]]),(4,[[.d (ints b.nodes),.d (AM.edges b.edges)]]),(5,[[.d (ints m.nodes),.d (ints m.edges)]])],tok,nt⟩
theorem valid53_c(a b:Gr)(m:Mo)(ha:a.Fit)(hb:b.Fit):DC 110 [a.av,b.av,m.av] (I (validM a b m)):=by
 intro tok nt box nb;have han:=ha.n;have hae:=ha.e;have hbn:=hb.n;have hbe:=hb.e;refine sI func110 ntmps110 fun Hb Ht=>?_
 refine sR ?_;simp;refine sR ?_;simp;refine sD (valid05_c a ha _ _) ?_;simp;by_cases hva:vG a=0
 .refine sR ?_;simp[hva];refine sC ?_;simp;refine sR ?_;simp;refine sD (valid05_c b hb _ _) ?_;simp;by_cases hvb:vG b=0
  .refine sR ?_;simp[hvb];refine sC ?_;simp;have hxa:=validG_edges hva;have hxb:=validG_edges hvb;refine sR ?_;simp;by_cases hl1:m.nodes.length=a.nodes.length
   .simp[hl1];refine sC ?_;simp;refine⟨fun hl2=>?_,fun hl2=>?_⟩
    .refine sR ?_;simp;have hR:validM a b m=20:=by
      have:¬m.edges.length=a.edges.length:=by omega
      simp[validM,hva,hvb,this]
     refine sT (sH Hb Ht ?_);simp[hR]
    .refine sR ?_;simp;refine sN ?_;have hl2':m.edges.length=a.edges.length:=by omega
     have hRn:∀i,i<a.nodes.length->firstE (nodeE a b m) i=0->nodeE a b m i≠0->validM a b m=nodeE a b m i:=fun i hi h0 hne=>by
      have:=firstE_stop h0 hne a.nodes.length hi
      simp[validM,hva,hvb,hl1,hl2',this,hne]
     refine sL (st53a a b m nb box tok nt) (fun i=>i<=a.nodes.length/\firstE (nodeE a b m) i=0) (fun i=>a.nodes.length-i) 0 ⟨Nat.zero_le _,rfl⟩ wkA ?_;rintro i S ⟨hi,hok⟩ hS;simp only[st53a] at hS;subst hS;have hw:=sW (i:=i) (by omega);refine sR ?_;simp;refine sC ?_;simp;refine⟨fun hlt=>?_,fun hge=>?_⟩
     .have hia:i<a.nodes.length:=by omega
      have hlt:i<m.nodes.length:=by omega
      have hgm:m.nodes.getD i 0=m.nodes[i]:=by simp[hlt]
      have hga:a.nodes.getD i 0=a.nodes[i]:=by simp[hia]
      refine sR ?_;simp[hlt];by_cases hneg:m.nodes[i]<0
      .simp[hneg,hlt];refine sC ?_;simp;refine sR ?_;simp;have hN:nodeE a b m i=6:=by simp only[nodeE,hgm];rw[if_pos (.inl hneg)]
       have hR:=hRn i hia hok (by rw[hN];decide);refine sT (sH Hb Ht ?_);simp[hR,hN]
      .simp[hneg,hlt];refine sC ?_;simp;refine⟨fun hbig=>?_,fun hsm=>?_⟩
       .refine sR ?_;simp;have hN:nodeE a b m i=6:=by simp only[nodeE,hgm];rw[if_pos (.inr (by omega))]
        have hR:=hRn i hia hok (by rw[hN];decide);refine sT (sH Hb Ht ?_);simp[hR,hN]
       .have hkb:m.nodes[i].toNat<b.nodes.length:=by omega
        have h0:0<=m.nodes[i]:=by omega
        have hgb:b.nodes.getD m.nodes[i].toNat 0=b.nodes[m.nodes[i].toNat]:=by simp[hkb]
        have hnb:¬(b.nodes.length:Int)<=m.nodes[i]:=by omega
        refine sR ?_;simp[hkb,h0,hsm,hia,hlt];refine sC ?_;simp;refine⟨fun hne=>?_,fun heq=>?_⟩
        .refine sR ?_;simp;have hN:nodeE a b m i=13:=by simp only[nodeE,hgm,hga,hgb];rw[if_neg (by omega),if_neg hne]
         have hR:=hRn i hia hok (by rw[hN];decide);refine sT (sH Hb Ht ?_);simp[hR,hN]
        .refine sR ?_;simp[hw];refine sE ?_;refine⟨i+1,⟨hia,?_⟩,by omega,wkA⟩;have hN:nodeE a b m i=0:=by simp only[nodeE,hgm,hga,hgb];rw[if_neg (by omega),if_pos heq]
         simp only[firstE,hok,hN,↓reduceIte]
     .refine sX ?_;simp only[AU,↓reduceIte];have hin:i=a.nodes.length:=by omega
      subst hin;refine sR ?_;simp;refine sN ?_;have hRe:∀i,i<a.edges.length->firstE (edgeE a b m) i=0->edgeE a b m i≠0->validM a b m=edgeE a b m i:=fun i hi h0 hne=>by
       have:=firstE_stop h0 hne a.edges.length hi
       simp[validM,hva,hvb,hl1,hl2',hok,this]
      refine sL (st53b a b m nb box tok nt) (fun i=>i<=a.edges.length/\firstE (edgeE a b m) i=0) (fun i=>a.edges.length-i) 0 ⟨Nat.zero_le _,rfl⟩ wkA ?_;rintro i S ⟨hi,hoke⟩ hS;simp only[st53b] at hS;subst hS;have hw:=sW (i:=i) (by omega);refine sR ?_;simp;refine sC ?_;simp;refine⟨fun hlt=>?_,fun hge=>?_⟩
      .have hia:i<a.edges.length:=by omega
       have hlt:i<m.edges.length:=by omega
       have hgm:m.edges.getD i 0=m.edges[i]:=by simp[hlt]
       have hga:a.edges.getD i default=a.edges[i]:=by simp[hia]
       obtain⟨x1,x2,x3,x4⟩:=hxa _ (List.getElem_mem hia);rw[<-hl1] at x2 x4;have y1:a.edges[i].fr.toNat<m.nodes.length:=by omega
       have y2:a.edges[i].to.toNat<m.nodes.length:=by omega
       have hg1:m.nodes.getD a.edges[i].fr.toNat 0=m.nodes[a.edges[i].fr.toNat]:=by simp[y1]
       have hg2:m.nodes.getD a.edges[i].to.toNat 0=m.nodes[a.edges[i].to.toNat]:=by simp[y2]
       refine sR ?_;simp[hlt];by_cases hneg:m.edges[i]<0
       .simp[hneg,hlt];refine sC ?_;simp;refine sR ?_;simp;have hN:edgeE a b m i=6:=by simp only[edgeE,hgm];rw[if_pos (.inl hneg)]
        have hR:=hRe i hia hoke (by rw[hN];decide);refine sT (sH Hb Ht ?_);simp[hR,hN]
       .simp[hneg,hlt];refine sC ?_;simp;refine⟨fun hbig=>?_,fun hsm=>?_⟩
        .refine sR ?_;simp;have hN:edgeE a b m i=6:=by simp only[edgeE,hgm];rw[if_pos (.inr (by omega))]
         have hR:=hRe i hia hoke (by rw[hN];decide);refine sT (sH Hb Ht ?_);simp[hR,hN]
        .have hkb:m.edges[i].toNat<b.edges.length:=by omega
         have h0:0<=m.edges[i]:=by omega
         have hgb:b.edges.getD m.edges[i].toNat default=b.edges[m.edges[i].toNat]:=by simp[hkb]
         have hnn:¬(m.edges[i]<0∨(b.edges.length:Int)<=m.edges[i]):=by omega
         refine sN ?_;refine AL.region2 follows_Tryz (nr _) (by kernel_rfl) (Side.of (by simp)) ?_;simp[hkb,h0,hsm,hia,hlt];generalize hy:b.edges[m.edges[i].toNat]=y at *;refine sR ?_;simp;refine sC ?_;simp;refine⟨fun hty=>?_,fun hty=>?_⟩
         .refine sR ?_;simp;have hN:edgeE a b m i=13:=by simp only[edgeE,hgm,hga,hgb];rw[if_neg hnn,if_pos hty]
          have hR:=hRe i hia hoke (by rw[hN];decide);refine sT (sH Hb Ht ?_);simp[hR,hN]
         .refine sR ?_;simp[x1,x2,x3,x4,y1,y2];by_cases hfr:m.nodes[a.edges[i].fr.toNat]=y.fr
          .have hb1:(m.nodes[a.edges[i].fr.toNat]!=y.fr)=false:=by simp[hfr]
           simp only[hb1];simp[x1,x2,x3,x4,y1,y2];refine sC ?_;simp;refine⟨fun hto=>?_,fun hto=>?_⟩
           .refine sR ?_;simp;have hN:edgeE a b m i=11:=by simp only[edgeE,hgm,hga,hgb,hg1,hg2];rw[if_neg hnn,if_neg (by simp[hty]),if_pos (.inr hto)]
            have hR:=hRe i hia hoke (by rw[hN];decide);refine sT (sH Hb Ht ?_);simp[hR,hN]
           .refine sR ?_;simp[hw];refine sE ?_;refine⟨i+1,⟨hia,?_⟩,by omega,wkA⟩;have hN:edgeE a b m i=0:=by simp only[edgeE,hgm,hga,hgb,hg1,hg2];rw[if_neg hnn,if_neg (by simp[hty]),if_neg (by simp[hfr,hto])]
            simp only[firstE,hoke,hN,↓reduceIte]
          .have hb1:(m.nodes[a.edges[i].fr.toNat]!=y.fr)=true:=by simp[hfr]
           simp only[hb1];simp;refine sC ?_;simp;refine sR ?_;simp;have hN:edgeE a b m i=11:=by simp only[edgeE,hgm,hga,hgb,hg1,hg2];rw[if_neg hnn,if_neg (by simp[hty]),if_pos (.inl hfr)]
           have hR:=hRe i hia hoke (by rw[hN];decide);refine sT (sH Hb Ht ?_);simp[hR,hN]
      .refine sX ?_;simp only[AU,↓reduceIte];have hin:i=a.edges.length:=by omega
       subst hin;refine sR ?_;simp;have hR:validM a b m=0:=by simp[validM,hva,hvb,hl1,hl2',hok,hoke]
       refine sT (sH Hb Ht ?_);simp[hR]
   .have hb1:((m.nodes.length:Int)!=(a.nodes.length:Int))=true:=by simp;omega
    simp only[hb1];simp;refine sC ?_;simp;refine sR ?_;simp;have hR:validM a b m=20:=by simp[validM,hva,hvb,hl1]
    refine sT (sH Hb Ht ?_);simp[hR]
  .refine sR ?_;simp;refine sC ?_;simp[hvb];refine sR ?_;simp;refine sT (sH Hb Ht ?_);simp[validM,hva,hvb]
 .refine sR ?_;simp;refine sC ?_;simp[hva];refine sR ?_;simp;refine sT (sH Hb Ht ?_);simp[validM,hva]
def covK(l k:List Int)(i:Nat):Bool:=(List.range i).all fun j=>decide ((j:Int)∈l)||decide ((j:Int)∈k)
def fewM(m:Mo)(n:Int):Bool:=decide ((m.nodes.length:Int)+m.edges.length<=n)
theorem few06_c(m:Mo)(n:Int)(h1:m.nodes.length<=281474976710656)(h2:m.edges.length<=281474976710656):DC 109 [m.av,I n] (B (fewM m n)):=by
 intro tok nt box nb;have hw:IntKind.i64.wrap (↑m.nodes.length+↑m.edges.length)=(m.nodes.length:Int)+m.edges.length:=wrap_in (by omega) (by omega)
 refine sI func109 ntmps109 fun Hb Ht=>?_
 refine sR ?_;simp;refine sR ?_;simp[hw];refine sT (sH Hb Ht ?_);simp[fewM]
def jointly(a b x:Gr)(h k:Mo):Bool:=decide (validM a x h=0)&&(decide (validM b x k=0)&&(covK h.nodes k.nodes x.nodes.length&&covK h.edges k.edges x.edges.length))
structure Mo.Big (m:Mo):Prop where
 n:m.nodes.length<=281474976710656
 e:m.edges.length<=281474976710656
def choicesM(ok:Nat->Nat->Bool)(na:Nat)(l:List Int):List Int := -1::((List.range na).filter fun k=>ok l.length k&&!decide ((k:Int)∈l)).map fun (k:Nat)=>(k:Int)
def dM(ok:Nat->Nat->Bool)(na:Nat):Nat->List Int->List (List Int)
 | 0,l=>[l]
 | n+1,l=>(choicesM ok na l).flatMap fun k=>dM ok na n (l++[k])
def okAt(ok:Nat->Nat->Bool)(na:Nat)(x:List Int)(i:Nat):Prop:=x.getD i 0 = -1∨∃k:Nat,x.getD i 0=k/\k<na/\ok i k=true/\(k:Int)∉x.take i
theorem dM_mem(ok:Nat->Nat->Bool)(na:Nat):∀(n:Nat) (l x:List Int),x∈dM ok na n l↔(x.take l.length=l/\x.length=l.length+n/\∀i,l.length<=i->i<x.length->okAt ok na x i)
 | 0,l,x=>by
  simp only[dM,List.mem_singleton,Nat.add_zero];constructor
  .rintro rfl;exact⟨by simp,rfl,fun i h1 h2=>by omega⟩
  .rintro⟨h1,h2,_⟩;rw[<-h1,List.take_of_length_le (by omega)]
 | n+1,l,x=>by
  simp only[dM,List.mem_flatMap];constructor
  .rintro⟨k,hk,hx⟩;rw[dM_mem ok na n (l++[k]) x] at hx;obtain⟨h1,h2,h3⟩:=hx;simp only[List.length_append,List.length_cons,List.length_nil] at h1 h2 h3;have hlt:l.length<x.length:=by omega
   have h4:x.take l.length=l:=by
    have:=congrArg (List.take l.length) h1
    rw[List.take_take,Nat.min_eq_left (by omega)] at this;simpa using this
   have h5:x.getD l.length 0=k:=by
    have:=congrArg (fun y=>y[l.length]?) h1
    simp only[List.getElem?_take] at this;rw[if_pos (by omega)] at this;rw[List.getD_eq_getElem?_getD,this];simp
   refine⟨h4,by omega,fun i hi1 hi2=>?_⟩;by_cases e:i=l.length
   .subst e;unfold okAt;rw[h5,h4];simp only[choicesM,List.mem_cons,List.mem_map,List.mem_filter,List.mem_range,Bool.and_eq_true,Bool.not_eq_true',decide_eq_false_iff_not] at hk;rcases hk with rfl|⟨q,⟨hq1,hq2,hq3⟩,rfl⟩
    .exact .inl rfl
    .exact .inr ⟨q,rfl,hq1,hq2,hq3⟩
   .exact h3 i (by omega) hi2
  .rintro⟨h1,h2,h3⟩;have hlt:l.length<x.length:=by omega
   refine⟨x.getD l.length 0,?_,?_⟩
   .have:=h3 l.length (nr _) hlt
    unfold okAt at this;rw[h1] at this;simp only[choicesM,List.mem_cons,List.mem_map,List.mem_filter,List.mem_range,Bool.and_eq_true,Bool.not_eq_true',decide_eq_false_iff_not];rcases this with h|⟨k,hk1,hk2,hk3,hk4⟩
    .exact .inl h
    .exact .inr ⟨k,⟨hk2,hk3,hk4⟩,hk1.symm⟩
   .rw[dM_mem ok na n _ x];refine⟨?_,by simp;omega,fun i hi1 hi2=>h3 i (by simp at hi1;omega) hi2⟩;simp only[List.length_append,List.length_cons,List.length_nil,Nat.zero_add];rw[List.take_succ_eq_append_getElem hlt,h1];simp[hlt]
def isM(ok:Nat->Nat->Bool)(na nb:Nat)(x:List Int):Prop:=x.length=nb/\∀i,i<nb->okAt ok na x i
theorem dM_isM(ok:Nat->Nat->Bool)(na nb:Nat)(x:List Int):x∈dM ok na nb []↔isM ok na nb x:=by
 rw[dM_mem];simp only[List.length_nil,Nat.zero_add,Nat.zero_le,true_implies,List.take_zero,true_and,isM];constructor
 .rintro⟨h1,h2⟩;exact⟨h1,fun i hi=>h2 i (by omega)⟩
 .rintro⟨h1,h2⟩;exact⟨h1,fun i hi=>h2 i (by omega)⟩
theorem isM_inj{ok:Nat->Nat->Bool}{na nb:Nat}{x:List Int}(h:isM ok na nb x){i j k:Nat}(hi:i<nb)(hj:j<nb)(h1:x.getD i 0=(k:Int))(h2:x.getD j 0=(k:Int)):i=j:=by
 have key:∀i j:Nat,i<j->j<nb->x.getD i 0=(k:Int)->x.getD j 0=(k:Int)->False:=by
  intro i j hij hj h1 h2;rcases h.2 j hj with e|⟨q,e,_,_,hq⟩
  .rw[e] at h2;omega
  .have:(q:Int)=k:=e.symm.trans h2
   rw[this] at hq;apply hq;have hlen:=h.1;rw[List.mem_take_iff_getElem];refine⟨i,by omega,?_⟩;have:x.getD i 0=x[i]'(by omega):=by rw[List.getD_eq_getElem?_getD,List.getElem?_eq_getElem (by omega)];rfl
   rw[<-this];exact h1
 rcases Nat.lt_trichotomy i j with h'|h'|h'
 .exact(key i j h' hj h1 h2).elim
 .exact h'
 .exact(key j i h' hi h2 h1).elim
theorem indexI_spec(x:List Int)(k:Int):(indexI x k = -1/\k∉x)∨∃i:Nat,indexI x k=i/\i<x.length/\x.getD i 0=k:=by
 unfold indexI;by_cases h:k∈x
 .right;rw[if_pos h];have h1:=List.idxOf_lt_length_of_mem h;refine⟨x.idxOf k,rfl,h1,?_⟩;rw[List.getD_eq_getElem?_getD,List.getElem?_eq_getElem h1];simp
 .left;rw[if_neg h];exact⟨rfl,h⟩
theorem nodup_le{α:Type}[DecidableEq α]:∀(l m:List α),l.Nodup->(∀x∈l,x∈m)->l.length<=m.length
 | [],m,_,_=>Nat.zero_le _
 | x::l,m,hn,h=>by
  have hn':=List.nodup_cons.1 hn
  have hx:=h x (by simp);have:=nodup_le l (m.erase x) hn'.2 fun y hy=>(List.mem_erase_of_ne (show y≠x from fun e=>hn'.1 (by rw[<-e];exact hy))).2 (h y (by simp[hy]))
  rw[List.length_erase_of_mem hx] at this;have hp:0<m.length:=List.length_pos_of_mem hx
  simp only[List.length_cons];omega
def okN(a b:Gr)(i k:Nat):Bool:=decide (a.nodes.getD k 0=b.nodes.getD i 0)
def okE(a b:Gr)(x:List Int)(i k:Nat):Bool:=decide (a.edges.getD k default=⟨(b.edges.getD i default).ty,x.getD (b.edges.getD i default).fr.toNat 0,x.getD (b.edges.getD i default).to.toNat 0⟩)
def pairsM(a b:Gr):List (List Int × List Int):=(dM (okN a b) a.nodes.length b.nodes.length []).flatMap fun x=>(dM (okE a b x) a.edges.length b.edges.length []).map fun es=>(x,es)
def isPair(a b:Gr)(p:List Int × List Int):Prop:=isM (okN a b) a.nodes.length b.nodes.length p.1/\isM (okE a b p.1) a.edges.length b.edges.length p.2
theorem pairsM_mem(a b:Gr)(p:List Int × List Int):p∈pairsM a b↔isPair a b p:=by
 simp only[pairsM,List.mem_flatMap,List.mem_map,dM_isM,isPair];constructor
 .rintro⟨x,hx,es,hes,rfl⟩;exact⟨hx,hes⟩
 .rintro⟨h1,h2⟩;exact⟨p.1,h1,p.2,h2,rfl⟩
def EOk(g:Gr):Prop:=∀e∈g.edges,0<=e.fr/\e.fr<g.nodes.length/\0<=e.to/\e.to<g.nodes.length
theorem foldl_lim'{α:Type}(c:Nat->Bool)(f:Nat->List α->List α)(g:Nat->List α)(ks:List Nat)(out:List α)(h:∀k∈ks,∀out,f k out=lim out (g k)):
  ks.foldl (fun out k=>if c k=true then f k out else out) out=lim out ((ks.filter c).flatMap g):=foldl_lim c f g ks out h
theorem ovE_lim(a b:Gr)(nodes:List Int):∀(n:Nat) (es:List Int) (out:List Ov),ovE a b nodes n es out=lim out ((dM (okE a b nodes) a.edges.length n es).map (glue a b nodes))
  | 0,es,out=>by
    unfold ovE;split
    . rename_i h;rw[lim_full _ _ h]
    . rename_i h;simp only[dM,List.map_cons,List.map_nil];rw[lim_one _ _ h]
  | n+1,es,out=>by
    unfold ovE;split
    . rename_i h;rw[lim_full _ _ h]
    . have h1:(fun (out:List Ov) (k:Nat)=>if a.edges.getD k default=wantE b nodes es/\(k:Int)∉es then ovE a b nodes n (es++[(k:Int)]) out else out) =
          fun out k=>if (okE a b nodes es.length k&&!decide ((k:Int)∈es))=true then ovE a b nodes n (es++[(k:Int)]) out else out:=by
        funext out k
        have ic:∀{p q:Prop} [Decidable p] [Decidable q] {x y:List Ov},(p↔q)->(if p then x else y)=if q then x else y:=by
          intro p q _ _ x y h;by_cases hp:p
          . rw[if_pos hp,if_pos (h.1 hp)]
          . rw[if_neg hp,if_neg fun hq=>hp (h.2 hq)]
        refine ic ?_;simp only[okE,wantE,Bool.and_eq_true,decide_eq_true_eq,Bool.not_eq_true',decide_eq_false_iff_not]
      rw[h1,foldl_lim' _ (fun (k:Nat) out=>ovE a b nodes n (es++[(k:Int)]) out) (fun (k:Nat)=>(dM (okE a b nodes) a.edges.length n (es++[(k:Int)])).map (glue a b nodes)) _ _ (fun k _ out=>ovE_lim a b nodes n _ out),ovE_lim a b nodes n,lim_append];congr 1
      simp only[dM,choicesM,List.flatMap_cons,List.map_append,List.map_flatMap,List.flatMap_map]
theorem ovN_lim(a b:Gr):∀(n:Nat) (l:List Int) (out:List Ov),ovN a b n l out=lim out ((dM (okN a b) a.nodes.length n l).flatMap fun x=>(dM (okE a b x) a.edges.length b.edges.length []).map (glue a b x))
 | 0,l,out=>by
  unfold ovN;split
  .rename_i h;rw[lim_full _ _ h]
  .simp only[dM,List.flatMap_cons,List.flatMap_nil,List.append_nil];rw[ovE_lim]
 | n+1,l,out=>by
  unfold ovN;split
  .rename_i h;rw[lim_full _ _ h]
  .have h1:(ovStepN a b (ovN a b n) l)=fun out k=>if (okN a b l.length k&&!decide ((k:Int)∈l))=true then ovN a b n (l++[(k:Int)]) out else out:=by
    funext out k
    unfold ovStepN;have ic:∀{p q:Prop} [Decidable p] [Decidable q] {x y:List Ov},(p↔q)->(if p then x else y)=if q then x else y:=by
     intro p q _ _ x y h;by_cases hp:p
     .rw[if_pos hp,if_pos (h.1 hp)]
     .rw[if_neg hp,if_neg fun hq=>hp (h.2 hq)]
    refine ic ?_;simp only[okN,Bool.and_eq_true,decide_eq_true_eq,Bool.not_eq_true',decide_eq_false_iff_not]
   rw[h1,foldl_lim' _ (fun (k:Nat) out=>ovN a b n (l++[(k:Int)]) out) (fun (k:Nat)=>(dM (okN a b) a.nodes.length n (l++[(k:Int)])).flatMap fun x=>(dM (okE a b x) a.edges.length b.edges.length []).map (glue a b x)) _ _ (fun k _ out=>ovN_lim a b n _ out),ovN_lim a b n,lim_append];congr 1
   simp only[dM,choicesM,List.flatMap_cons,List.flatMap_append,List.flatMap_assoc,List.flatMap_map]
def listO(a b:Gr):List Ov:=(pairsM a b).map fun p=>glue a b p.1 p.2
theorem ovN_list(a b:Gr):ovN a b b.nodes.length [] []=(listO a b).take 2001:=by
 rw[ovN_lim];have:((dM (okN a b) a.nodes.length b.nodes.length []).flatMap fun x=>(dM (okE a b x) a.edges.length b.edges.length []).map (glue a b x))=listO a b:=by
  unfold listO pairsM;rw[List.map_flatMap];congr 1
  funext x
  rw[List.map_map];rfl
 rw[this];simp[lim]
theorem overlapsR_list(a b:Gr)(ha:vG a=0)(hb:vG b=0)(hs:¬(40<a.nodes.length+b.nodes.length∨80<a.edges.length+b.edges.length)):oR a b=if 2000<(pairsM a b).length then ([],3) else (listO a b,0):=by
 have hl:(listO a b).length=(pairsM a b).length:=by simp[listO]
 unfold oR;simp only[ha,hb,hs,ovN_list,ne_eq,not_true_eq_false,↓reduceIte];by_cases hb:2000<(pairsM a b).length
 .have:2000<((listO a b).take 2001).length:=by simp;omega
  rw[if_pos this,if_pos hb]
 .have:(listO a b).take 2001=listO a b:=List.take_of_length_le (by omega)
  rw[this,if_neg (by omega),if_neg hb]
structure Dr where
 nodes:List Int
 edges:List (Int × Int × Int)
abbrev u8(n:Int):D:=.raw (.int .u8 n)
abbrev Dr.av(x:Dr):AV:=.agg [.d (.sl 1 (x.nodes.map fun n=>[u8 n])),.d (.sl 3 (x.edges.map fun e=>[u8 e.1,u8 e.2.1,u8 e.2.2]))]
def distK(l:List Int)(i:Nat):Bool:=(List.range i).all fun j=>(List.range j).all fun k=>decide (l.getD j 0≠l.getD k 0)
def distJ(l:List Int)(i k:Nat):Bool:=(List.range k).all fun k=>decide (l.getD i 0≠l.getD k 0)
theorem distK_succ(l:List Int)(i:Nat):distK l (i+1)=(distK l i&&distJ l i i):=by simp[distK,distJ,List.range_succ]
theorem distJ_succ(l:List Int)(i k:Nat):distJ l i (k+1)=(distJ l i k&&decide (l.getD i 0≠l.getD k 0)):=by simp only[distJ,List.range_succ,List.all_append,List.all_cons,List.all_nil,Bool.and_true]
theorem distK_stop{l:List Int}{n i k:Nat}(hi:i<n)(hk:k<i)(h:l.getD i 0=l.getD k 0):distK l n=false:=by
 rw[Bool.eq_false_iff];intro ha;simp only[distK,List.all_eq_true,List.mem_range,decide_eq_true_eq] at ha;exact ha i hi k hk h
def st55a(l:List Int)(nb:Nat)(box:Bxs)(tok:Tks)(nt:Nat)(i:Nat):AS:=⟨tl [(0,.d (ints l)),(3,I i)],lb nb box [],tok,nt⟩
def st55b(l:List Int)(i:Nat)(nb:Nat)(box:Bxs)(tok:Tks)(nt:Nat)(k:Nat):AS:=⟨tl [(0,.d (ints l)),(3,I i),(4,I k)],lb nb box [],tok,nt⟩
theorem distinct55_c(l:List Int)(hl:l.length<=1000000):DC 72 [.d (ints l)] (B (distK l l.length)):=by
 intro tok nt box nb;refine sI func72 ntmps72 fun Hb Ht=>?_
 refine sR ?_;simp;refine sR ?_;simp;refine sN ?_;refine sL (st55a l nb box tok nt) (fun i=>i<=l.length/\distK l i=true) (fun i=>l.length-i) 0 ⟨Nat.zero_le _,rfl⟩ (wM (nr _) rfl (by simp[ToL]) trivial) ?_;rintro i S ⟨hi,hok⟩ hS;simp only[st55a] at hS;subst hS;have hw:=sW (i:=i) (by omega);refine sR ?_;simp;refine sC ?_;simp;refine⟨fun hlt=>?_,fun hge=>?_⟩
 .refine sR ?_;simp;refine sN ?_;refine sL (st55b l i nb box tok nt) (fun k=>k<=i/\distJ l i k=true) (fun k=>i-k) 0 ⟨Nat.zero_le _,rfl⟩ (wM (nr _) rfl (by simp[ToL]) trivial) ?_;rintro k S ⟨hk,hokk⟩ hS;simp only[st55b] at hS;subst hS;have hwk:=sW (i:=k) (by omega);have gi:l.getD i 0=l[i]:=by simp[hlt]
  refine sR ?_;simp;refine sC ?_;simp;refine⟨fun hki=>?_,fun hki=>?_⟩
  .have hkl:k<l.length:=by omega
   have gk:l.getD k 0=l[k]:=by simp[hkl]
   refine sR ?_;simp[hlt,hkl];refine sC ?_;simp;refine⟨fun heq=>?_,fun hne=>?_⟩
   .refine sR ?_;simp;have hR:=distK_stop hlt hki (by rw[gi,gk];exact heq);refine sT (sH Hb Ht ?_);simp[hR]
   .refine sR ?_;simp[hwk];refine sE ?_;refine⟨k+1,⟨hki,?_⟩,by omega,wM (nr _) rfl (by simp[ToL]) trivial⟩;rw[distJ_succ,hokk,gi,gk];simp[hne]
  .refine sX ?_;simp only[AU,↓reduceIte];have:k=i:=by omega
   subst this;refine sR ?_;simp[hw];refine sE ?_;refine⟨k+1,⟨hlt,?_⟩,by omega,wM (nr _) rfl (by simp[ToL]) trivial⟩;rw[distK_succ,hok,hokk];rfl
 .refine sX ?_;simp only[AU,↓reduceIte];have:i=l.length:=by omega
  subst this;refine sR ?_;simp;refine sT (sH Hb Ht ?_);simp[hok]
def injM(a b:Gr)(m:Mo):Bool:=decide (validM a b m=0)&&(distK m.nodes m.nodes.length&&distK m.edges m.edges.length)
theorem injective26_c(a b:Gr)(m:Mo)(ha:a.Fit)(hb:b.Fit)(hm:m.Fit):DC 111 [a.av,b.av,m.av] (B (injM a b m)):=by
 intro tok nt box nb;refine sI func111 ntmps111 fun Hb Ht=>?_
 refine sR ?_;simp;refine sR ?_;simp;refine sD (valid53_c a b m ha hb _ _) ?_;simp;by_cases h1:validM a b m=0
 .simp[h1];refine sD (distinct55_c m.nodes hm.n _ _) ?_;simp[h1];by_cases h2:distK m.nodes m.nodes.length=true
  .simp[h1,h2];refine sD (distinct55_c m.edges hm.e _ _) ?_;simp[h1,h2];refine sT (sH Hb Ht ?_);simp[injM,h1,h2]
  .have h3:distK m.nodes m.nodes.length=false:=by simpa using h2
   simp only[h3];simp;refine sT (sH Hb Ht ?_);simp[injM,h1,h3]
 .have hb1:(validM a b m==0)=false:=by simp[h1]
  simp only[hb1];try simp
  refine sT (sH Hb Ht ?_);simp[injM,h1]
def mN(x:Dr)(i:Nat):List Int:=(x.nodes.take i).map fun n=>n % 3
@[simp] theorem mN_len(x:Dr)(i:Nat):(mN x i).length=min i x.nodes.length:=by simp[mN]
def mE(x:Dr)(n:Int)(i:Nat):List E:=(x.edges.take i).map fun e=>⟨e.1 % 2,e.2.1 % n,e.2.2 % n⟩
@[simp] theorem mE_len(x:Dr)(n:Int)(i:Nat):(mE x n i).length=min i x.edges.length:=by simp[mE]
def madeG(x:Dr):Gr:=⟨mN x 8,if x.nodes.length=0 then [] else mE x (mN x 8).length 10⟩
theorem getD_lt{α:Type}{r:List α}{v d:α}{j:Nat}(h:j<r.length):(r++[v]).getD j d=r.getD j d:=by
 simp[List.getD_eq_getElem?_getD,List.getElem?_append_left h]
theorem getD_at{α:Type}{r:List α}{v d:α}:(r++[v]).getD r.length d=v:=by
 simp[List.getD_eq_getElem?_getD]
theorem getD_pre{α:Type}{r t:List α}{d:α}{j:Nat}(h:j<r.length):(r++t).getD j d=r.getD j d:=by
 simp[List.getD_eq_getElem?_getD,List.getElem?_append_left h]
theorem getD_mem{α:Type}{r:List α}{d:α}{j:Nat}(h:j<r.length):r.getD j d∈r:=by
 simp[List.getD_eq_getElem?_getD,List.getElem?_eq_getElem h]
theorem iota_getD{n j:Nat}(h:j<n):(iota n).getD j 0=j:=by
 simp[iota,List.getD_eq_getElem?_getD,h]
def glueG{α:Type}[Inhabited α](an bn:List α)(x:List Int):Nat->List α × List Int
 | 0=>(an,[])
 | i+1=>if x.getD i 0<0 then ((glueG an bn x i).1++[bn.getD i default],(glueG an bn x i).2++[((glueG an bn x i).1.length:Int)]) else ((glueG an bn x i).1,(glueG an bn x i).2++[x.getD i 0])
theorem glueN_G(an bn l:List Int):∀i,glueN an bn l i=glueG an bn l i
 | 0=>rfl
 | i+1=>by
  simp only[glueN,glueG,glueN_G an bn l i];rfl
def mapE(rn:List Int)(e:E):E:=⟨e.ty,rn.getD e.fr.toNat 0,rn.getD e.to.toNat 0⟩
theorem glueE_G(ae be:List E)(rn l:List Int):∀i,i<=be.length->glueE ae be rn l i=glueG ae (be.map (mapE rn)) l i
 | 0,_=>rfl
 | i+1,h=>by
  have e:(be.map (mapE rn)).getD i default=mapE rn (be.getD i default):=by
   have:i<be.length:=by omega
   simp[List.getD_eq_getElem?_getD,this]
  simp only[glueE,glueG,glueE_G ae be rn l i (by omega),e];rfl
structure GI {α:Type} [Inhabited α] (an bn:List α) (x:List Int) (i:Nat) (rn:List α) (r:List Int):Prop where
 len:r.length=i
 pre:∃t,rn=an++t/\∀y∈t,y∈bn
 rng:∀j,j<i->0<=r.getD j 0/\r.getD j 0<rn.length
 val:∀j,j<i->rn.getD (r.getD j 0).toNat default=bn.getD j default
 neg:∀j,j<i->x.getD j 0<0->(an.length:Int)<=r.getD j 0
 pos:∀j,j<i->¬x.getD j 0<0->r.getD j 0=x.getD j 0
 dist:∀j k,j<k->k<i->r.getD j 0≠r.getD k 0
 cov:∀v:Nat,an.length<=v->v<rn.length->(v:Int)∈r
theorem glue_gi{α:Type}[Inhabited α]{an bn:List α}{x:List Int}{ok:Nat->Nat->Bool}(h:isM ok an.length bn.length x)(hok:∀i k,i<bn.length->k<an.length->ok i k=true->an.getD k default=bn.getD i default):
  ∀i,i<=bn.length->GI an bn x i (glueG an bn x i).1 (glueG an bn x i).2
 | 0,_=>⟨rfl,⟨[],by simp[glueG],by simp⟩,fun j hj=>absurd hj (Nat.not_lt_zero _),fun j hj=>absurd hj (Nat.not_lt_zero _),fun j hj=>absurd hj (Nat.not_lt_zero _),fun j hj=>absurd hj (Nat.not_lt_zero _),fun j k _ hj=>absurd hj (Nat.not_lt_zero _),fun v h1 h2=>by simp only[glueG] at h2;omega⟩
 | i+1,hi=>by
  have g:=glue_gi h hok i (by omega);simp only[glueG];generalize hrn:(glueG an bn x i).1=rn at g ⊢;generalize hr:(glueG an bn x i).2=r at g ⊢;obtain⟨t,ht,htb⟩:=g.pre;have hlen:=g.len;have hal:an.length<=rn.length:=by rw[ht];simp
  have hib:i<bn.length:=by omega
  rcases h.2 i hib with hx|⟨k,hx,hk,hkok,hnot⟩
  .rw[if_pos (by omega)];have old:∀j,j<i->(r++[(rn.length:Int)]).getD j 0=r.getD j 0:=fun j hj=>getD_lt (by omega)
   have new:(r++[(rn.length:Int)]).getD i 0=rn.length:=by rw[<-hlen];exact getD_at
   refine⟨by simp[hlen],⟨t++[bn.getD i default],by rw[ht,List.append_assoc],?_⟩,fun j hj=>?_,fun j hj=>?_,fun j hj=>?_,fun j hj=>?_,fun j k hjk hk=>?_,fun v h1 h2=>?_⟩
   .intro y hy;rcases List.mem_append.1 hy with hy|hy
    .exact htb y hy
    .simp only[List.mem_singleton] at hy;subst hy;exact getD_mem hib
   .simp only[List.length_append,List.length_cons,List.length_nil];by_cases e:j=i
    .subst e;rw[new];omega
    .rw[old j (by omega)];have:=g.rng j (by omega);omega
   .by_cases e:j=i
    .subst e;rw[new,Int.toNat_natCast];exact getD_at
    .rw[old j (by omega),getD_lt (by have:=g.rng j (by omega);omega)];exact g.val j (by omega)
   .by_cases e:j=i
    .subst e;intro _;rw[new];omega
    .rw[old j (by omega)];exact g.neg j (by omega)
   .by_cases e:j=i
    .subst e;intro hn;omega
    .rw[old j (by omega)];exact g.pos j (by omega)
   .by_cases e:k=i
    .subst e;rw[new,old j hjk];have:=g.rng j hjk;omega
    .rw[old j (by omega),old k (by omega)];exact g.dist j k hjk (by omega)
   .simp only[List.length_append,List.length_cons,List.length_nil] at h2;by_cases e:v=rn.length
    .subst e;simp
    .exact List.mem_append.2 (.inl (g.cov v h1 (by omega)))
  .rw[if_neg (by omega)];have old:∀j,j<i->(r++[x.getD i 0]).getD j 0=r.getD j 0:=fun j hj=>getD_lt (by omega)
   have new:(r++[x.getD i 0]).getD i 0=x.getD i 0:=by
    have:(r++[x.getD i 0]).getD r.length 0=x.getD i 0:=getD_at
    rw[hlen] at this;exact this
   refine⟨by simp[hlen],⟨t,ht,htb⟩,fun j hj=>?_,fun j hj=>?_,fun j hj=>?_,fun j hj=>?_,fun j k' hjk hk'=>?_,fun v h1 h2=>?_⟩
   .by_cases e:j=i
    .subst e;have hkr:((k:Nat):Int)<rn.length:=by omega
     rw[new,hx];exact⟨by omega,hkr⟩
    .rw[old j (by omega)];exact g.rng j (by omega)
   .by_cases e:j=i
    .subst e;rw[new,hx,Int.toNat_natCast,ht,getD_pre hk];exact hok j k hib hk hkok
    .rw[old j (by omega)];exact g.val j (by omega)
   .by_cases e:j=i
    .subst e;intro hn;omega
    .rw[old j (by omega)];exact g.neg j (by omega)
   .by_cases e:j=i
    .subst e;intro hn;exact new
    .rw[old j (by omega)];exact g.pos j (by omega)
   .by_cases e:k'=i
    .subst e;rw[new,old j hjk];by_cases hn:x.getD j 0<0
     .have:=g.neg j hjk hn
      omega
     .rw[g.pos j hjk hn];intro e2;have:=isM_inj h (show j<bn.length by omega) hib (by rw[e2];exact hx) hx
      omega
    .rw[old j (by omega),old k' (by omega)];exact g.dist j k' hjk (by omega)
   .exact List.mem_append.2 (.inl (g.cov v h1 h2))
theorem firstE_zero{f:Nat->Int}:∀n,(∀i,i<n->f i=0)->firstE f n=0
 | 0,_=>rfl
 | n+1,h=>by
  simp only[firstE,firstE_zero n fun i hi=>h i (by omega),↓reduceIte];exact h n (by omega)
theorem distK_of{l:List Int}{n:Nat}(h:∀j k,j<k->k<n->l.getD j 0≠l.getD k 0):distK l n=true:=by
 simp only[distK,List.all_eq_true,List.mem_range,decide_eq_true_eq];exact fun j hj k hk e=>h k j hk hj e.symm
theorem validG_types{g:Gr}(h:vG g=0):(g.nodes.length<=40/\g.edges.length<=80)/\(∀n∈g.nodes,withinB n 99=true)/\∀e∈g.edges,fitsB e g.nodes.length=true:=by
 unfold vG at h;split at h
 .cases h
 .rename_i h0;split at h
  .cases h
  .rename_i h1;split at h
   .cases h
   .rename_i h2;simp only[anyB,List.any_eq_true,not_exists,not_and,Bool.not_eq_true',Bool.not_eq_false] at h1 h2;exact⟨by omega,h1,h2⟩
theorem validG_of{g:Gr}(h0:g.nodes.length<=40/\g.edges.length<=80)(h1:∀n∈g.nodes,withinB n 99=true)(h2:∀e∈g.edges,fitsB e g.nodes.length=true):vG g=0:=by
 unfold vG;rw[if_neg (by omega),if_neg,if_neg]
 .simp only[anyB,List.any_eq_true,not_exists,not_and,Bool.not_eq_true',Bool.not_eq_false];exact h2
 .simp only[anyB,List.any_eq_true,not_exists,not_and,Bool.not_eq_true',Bool.not_eq_false];exact h1
theorem fitsB_iff(e:E)(n:Int):fitsB e n=true↔withinB e.ty 99=true/\(0<=e.fr/\e.fr<n)/\(0<=e.to/\e.to<n):=by
 simp only[fitsB,withinB,Bool.and_eq_true,decide_eq_true_eq];omega
structure Glued (a b:Gr) (x es:List Int):Prop where
 n:GI a.nodes b.nodes x b.nodes.length (glue a b x es).g.nodes (glue a b x es).r.nodes
 e:GI a.edges (b.edges.map (mapE (glue a b x es).r.nodes)) es b.edges.length (glue a b x es).g.edges (glue a b x es).r.edges
theorem glued_of{a b:Gr}(ha:EOk a)(hb:EOk b){x es:List Int}(h:isPair a b (x,es)):Glued a b x es:=by
 obtain⟨h1,h2⟩:=h;simp only at h1 h2;have hxl:x.length=b.nodes.length:=h1.1
 have hel:es.length=b.edges.length:=h2.1
 have gn:GI a.nodes b.nodes x b.nodes.length (glue a b x es).g.nodes (glue a b x es).r.nodes:=by
  simp only[glue,glueN_G,hxl];refine glue_gi h1 (fun i k hi hk hok=>?_) _ (nr _);unfold okN at hok;rw[decide_eq_true_eq] at hok;exact hok
 refine⟨gn,?_⟩;have key:isM (okE a b x) a.edges.length (b.edges.map (mapE (glue a b x es).r.nodes)).length es:=by rw[List.length_map];exact h2
 have:=glue_gi (an:=a.edges) (bn:=b.edges.map (mapE (glue a b x es).r.nodes)) (x:=es) (ok:=okE a b x) key (fun i k hi hk hok=>?_) b.edges.length (by simp)
 .have e0:(glue a b x es).r.nodes=(glueN a.nodes b.nodes x x.length).2:=rfl
  have e1:(glue a b x es).g.edges=(glueE a.edges b.edges (glueN a.nodes b.nodes x x.length).2 es es.length).1:=rfl
  have e2:(glue a b x es).r.edges=(glueE a.edges b.edges (glueN a.nodes b.nodes x x.length).2 es es.length).2:=rfl
  rw[e1,e2,<-e0,hel,glueE_G _ _ _ _ _ (nr _)];exact this
 .have hib:i<b.edges.length:=by simpa using hi
  unfold okE at hok;rw[decide_eq_true_eq] at hok;have g1:a.edges.getD k default=a.edges[k]:=by simp[hk]
  have g2:b.edges.getD i default=b.edges[i]:=by simp[hib]
  have g3:(b.edges.map (mapE (glue a b x es).r.nodes)).getD i default=mapE (glue a b x es).r.nodes b.edges[i]:=by simp[hib]
  rw[g1,g2] at hok;rw[g1,g3];obtain⟨a1,a2,a3,a4⟩:=ha _ (List.getElem_mem hk);obtain⟨b1,b2,b3,b4⟩:=hb _ (List.getElem_mem hib);have f1:a.edges[k].fr=x.getD b.edges[i].fr.toNat 0:=congrArg E.fr hok
  have f2:a.edges[k].to=x.getD b.edges[i].to.toNat 0:=congrArg E.to hok
  have p1:=gn.pos b.edges[i].fr.toNat (by omega) (by omega);have p2:=gn.pos b.edges[i].to.toNat (by omega) (by omega);unfold mapE;rw[p1,p2];exact hok
theorem glue_law0{a b:Gr}(hva:vG a=0)(hvb:vG b=0){x es:List Int}(h:isPair a b (x,es))(hs:(glue a b x es).g.nodes.length<=40/\(glue a b x es).g.edges.length<=80):
  vG (glue a b x es).g=0/\validM a (glue a b x es).g (glue a b x es).l=0/\validM b (glue a b x es).g (glue a b x es).r=0:=by
 have ha:=validG_edges hva;have hb:=validG_edges hvb;obtain⟨_,ta,tea⟩:=validG_types hva;obtain⟨_,tb,teb⟩:=validG_types hvb;obtain⟨gn,ge⟩:=glued_of ha hb h;have hl:(glue a b x es).l=idM a:=rfl
 rw[hl];generalize glue a b x es=o at *;obtain⟨tn,htn,htnb⟩:=gn.pre;obtain⟨te,hte,hteb⟩:=ge.pre;have nl:a.nodes.length<=o.g.nodes.length:=by rw[htn];simp
 have el:a.edges.length<=o.g.edges.length:=by rw[hte];simp
 have hv:vG o.g=0:=by
  refine validG_of (by omega) (fun n hn=>?_) fun e he=>?_
  .rw[htn] at hn;rcases List.mem_append.1 hn with hn|hn
   .exact ta n hn
   .exact tb n (htnb n hn)
  .rw[hte] at he;rw[fitsB_iff];rcases List.mem_append.1 he with he|he
   .have:=(fitsB_iff _ _).1 (tea e he)
    exact⟨this.1,by omega,by omega⟩
   .obtain⟨y,hy,rfl⟩:=List.mem_map.1 (hteb e he);have:=(fitsB_iff _ _).1 (teb y hy)
    obtain⟨y1,y2,y3,y4⟩:=hb y hy;have r1:=gn.rng y.fr.toNat (by omega);have r2:=gn.rng y.to.toNat (by omega);exact⟨this.1,r1,r2⟩
 refine⟨hv,?_,?_⟩
 .unfold validM;have z1:firstE (nodeE a o.g (idM a)) a.nodes.length=0:=firstE_zero _ fun i hi=>by
   have e1:(idM a).nodes.getD i 0=i:=iota_getD hi
   unfold nodeE;rw[e1,if_neg (by omega),Int.toNat_natCast,if_pos];rw[htn,getD_pre hi]
  have z2:firstE (edgeE a o.g (idM a)) a.edges.length=0:=firstE_zero _ fun i hi=>by
   have e1:(idM a).edges.getD i 0=i:=iota_getD hi
   obtain⟨a1,a2,a3,a4⟩:=ha _ (getD_mem (d:=default) hi);have e2:(idM a).nodes.getD (a.edges.getD i default).fr.toNat 0=(a.edges.getD i default).fr.toNat:=iota_getD (by omega)
   have e3:(idM a).nodes.getD (a.edges.getD i default).to.toNat 0=(a.edges.getD i default).to.toNat:=iota_getD (by omega)
   unfold edgeE;rw[e1,if_neg (by omega),Int.toNat_natCast];have e4:o.g.edges.getD i default=a.edges.getD i default:=by rw[hte,getD_pre hi]
   simp only[e4,e2,e3,ne_eq,not_true_eq_false,↓reduceIte];rw[if_neg (by omega)]
  rw[if_neg (by simp[hva]),if_neg (by simp[hv]),if_neg (by simp[idM]),if_neg (by simp[z1]),z2]
 .unfold validM;have ln:=gn.len;have le:=ge.len;have z1:firstE (nodeE b o.g o.r) b.nodes.length=0:=firstE_zero _ fun i hi=>by
   have r1:=gn.rng i hi;unfold nodeE;rw[if_neg (by omega),if_pos];exact gn.val i hi
  have z2:firstE (edgeE b o.g o.r) b.edges.length=0:=firstE_zero _ fun i hi=>by
   have r1:=ge.rng i hi;have v1:=ge.val i hi;have g3:(b.edges.map (mapE o.r.nodes)).getD i default=mapE o.r.nodes (b.edges.getD i default):=by simp[hi]
   rw[g3] at v1;unfold edgeE;rw[if_neg (by omega)];simp only[v1,mapE,ne_eq,not_true_eq_false,or_self,↓reduceIte]
  rw[if_neg (by simp[hvb]),if_neg (by simp[hv]),if_neg (by omega),if_neg (by simp[z1]),z2]
theorem glue_law{a b:Gr}(hva:vG a=0)(hvb:vG b=0)(hs:a.nodes.length+b.nodes.length<=40/\a.edges.length+b.edges.length<=80){x es:List Int}(h:isPair a b (x,es)):
  vG (glue a b x es).g=0/\validM a (glue a b x es).g (glue a b x es).l=0/\validM b (glue a b x es).g (glue a b x es).r=0:=by
 have hxl:x.length=b.nodes.length:=h.1.1
 have hel:es.length=b.edges.length:=h.2.1
 have l1:=(glueN_len a.nodes b.nodes x x.length).1;have l2:=(glueE_len a.edges b.edges (glueN a.nodes b.nodes x x.length).2 es es.length).1;have m1:(glue a b x es).g.nodes.length<=a.nodes.length+x.length:=l1
 have m2:(glue a b x es).g.edges.length<=a.edges.length+es.length:=l2
 exact glue_law0 hva hvb h (by omega)
theorem glue_law2{a b:Gr}(hva:vG a=0)(hvb:vG b=0)(hs:a.nodes.length+b.nodes.length<=40/\a.edges.length+b.edges.length<=80){x es:List Int}(h:isPair a b (x,es)):
  injM a (glue a b x es).g (glue a b x es).l=true/\injM b (glue a b x es).g (glue a b x es).r=true/\jointly a b (glue a b x es).g (glue a b x es).l (glue a b x es).r=true:=by
 obtain⟨hv,h1,h2⟩:=glue_law hva hvb hs h;obtain⟨gn,ge⟩:=glued_of (validG_edges hva) (validG_edges hvb) h;have i1:∀n,distK (iota n) n=true:=fun n=>distK_of fun j k hjk hk=>by
  rw[iota_getD hk,iota_getD (by omega)];omega
 have i2:∀l:List Int,∀n m:Nat,(∀v:Nat,n<=v->v<m->(v:Int)∈l)->covK (iota n) l m=true:=fun l n m hc=>by
  simp only[covK,List.all_eq_true,List.mem_range,Bool.or_eq_true,decide_eq_true_eq];intro v hv;by_cases hvn:v<n
  .left;simp only[iota,List.mem_map,List.mem_range];exact⟨v,hvn,rfl⟩
  .right;exact hc v (by omega) hv
 refine⟨?_,?_,?_⟩
 .have e1:(glue a b x es).l=idM a:=rfl
  unfold injM;rw[h1,e1];simp[idM,i1]
 .unfold injM;rw[h2,gn.len,ge.len,distK_of gn.dist,distK_of ge.dist];rfl
 .unfold jointly;rw[h1,h2];have c1:=i2 _ _ _ gn.cov;have c2:=i2 _ _ _ ge.cov;have e1:(glue a b x es).l.nodes=iota a.nodes.length:=rfl
  have e2:(glue a b x es).l.edges=iota a.edges.length:=rfl
  rw[e1,e2,c1,c2];rfl
end Go.AM
namespace Go.Proofs
open Go.Shelf
open Tryz
def Tryz.lays189_ren:Go.Shelf.Ren:=⟨fun|189=>245|125=>283|257=>282|128=>312|129=>313|294=>304|295=>305|296=>306|297=>307|298=>308|299=>309|216=>243|300=>310|301=>311|328=>329|329=>330|330=>331|331=>332|332=>333|215=>281|343=>341|n=>n,fun|28=>26|3=>3|46=>273|0=>0|51=>300|53=>58|4=>4|183=>319|182=>318|131=>234|5=>5|9=>9|218=>333|222=>337|228=>340|229=>180|n=>n,fun|n=>n⟩
theorem Tryz.lays189:Go.Proofs.Lays.n189 prog Tryz.lays189_ren:={
 mixed:=by kernel_rfl
 f125:=func283.trans (congrArg some (by kernel_rfl))
 f128:=func312.trans (congrArg some (by kernel_rfl))
 f129:=func313.trans (congrArg some (by kernel_rfl))
 f189:=func245.trans (congrArg some (by kernel_rfl))
 f215:=func281.trans (congrArg some (by kernel_rfl))
 f216:=func243.trans (congrArg some (by kernel_rfl))
 f257:=func282.trans (congrArg some (by kernel_rfl))
 f294:=func304.trans (congrArg some (by kernel_rfl))
 f295:=func305.trans (congrArg some (by kernel_rfl))
 f296:=func306.trans (congrArg some (by kernel_rfl))
 f297:=func307.trans (congrArg some (by kernel_rfl))
 f298:=func308.trans (congrArg some (by kernel_rfl))
 f299:=func309.trans (congrArg some (by kernel_rfl))
 f300:=func310.trans (congrArg some (by kernel_rfl))
 f301:=func311.trans (congrArg some (by kernel_rfl))
 f328:=func329.trans (congrArg some (by kernel_rfl))
 f329:=func330.trans (congrArg some (by kernel_rfl))
 f330:=func331.trans (congrArg some (by kernel_rfl))
 f331:=func332.trans (congrArg some (by kernel_rfl))
 f332:=func333.trans (congrArg some (by kernel_rfl))
 f343:=func341.trans (congrArg some (by kernel_rfl))
 t0:=underlying0
 a0:=isAgg0
 z0:=sizeOf0
 v0:=zeroValue0
 t3:=underlying3
 a3:=isAgg3
 z3:=sizeOf3
 v3:=zeroValue3
 t4:=underlying4
 a4:=isAgg4
 z4:=sizeOf4
 v4:=zeroValue4
 t5:=underlying5
 a5:=isAgg5
 z5:=sizeOf5
 v5:=zeroValue5
 t9:=underlying9
 a9:=isAgg9
 z9:=sizeOf9
 v9:=zeroValue9
 t28:=underlying26
 a28:=isAgg26
 z28:=sizeOf26
 v28:=zeroValue26
 t46:=underlying273
 a46:=isAgg273
 z46:=sizeOf273
 v46:=zeroValue273
 t51:=underlying300
 a51:=isAgg300
 z51:=sizeOf300
 v51:=zeroValue300
 t53:=underlying58
 a53:=isAgg58
 z53:=sizeOf58
 v53:=zeroValue58
 t131:=underlying234
 a131:=isAgg234
 z131:=sizeOf234
 v131:=zeroValue234
 t182:=underlying318
 a182:=isAgg318
 z182:=sizeOf318
 v182:=zeroValue318
 t183:=underlying319
 a183:=isAgg319
 z183:=sizeOf319
 v183:=zeroValue319
 t218:=underlying333
 a218:=isAgg333
 z218:=sizeOf333
 v218:=zeroValue333
 t222:=underlying337
 a222:=isAgg337
 z222:=sizeOf337
 v222:=zeroValue337
 t228:=underlying340
 a228:=isAgg340
 z228:=sizeOf340
 v228:=zeroValue340
 t229:=underlying180
 a229:=isAgg180
 z229:=sizeOf180
 v229:=zeroValue180 }
open Go.Sort Go.RowKit in
theorem Tryz.slices_Sort_int(blk off cap:Nat)(zs:List Int)(w:World)(hH:Holds (Value.int .i64) w blk off zs.toArray)(hblk:blk<w.heap.size)(hsz:zs.length<4611686018427387904):
  Calls prog 245 #[.slice (some ⟨blk,off,none⟩) zs.length cap] w fun e w' =>
   e=.returned (.tuple #[])/\∃n os,w'=grow (putRow (Value.int .i64) (Sort.ahead w n) blk off (zs.mergeSort fun x y=>decide (x<=y)).toArray) os:=Any.slices_Sort_int Tryz.lays189 blk off cap zs w hH hblk hsz
def Tryz.laysNm215_ren:Go.Shelf.Ren:=⟨fun|15=>120|n=>n,fun|22=>26|3=>3|4=>4|n=>n,fun|n=>n⟩
theorem Tryz.laysNm215:Go.Proofs.Lays2.n15 prog Tryz.laysNm215_ren:={
 mixed:=by kernel_rfl
 f15:=func120.trans (congrArg some (by kernel_rfl))
 t3:=underlying3
 a3:=isAgg3
 z3:=sizeOf3
 v3:=zeroValue3
 t4:=underlying4
 a4:=isAgg4
 z4:=sizeOf4
 v4:=zeroValue4
 t22:=underlying26
 a22:=isAgg26
 z22:=sizeOf26
 v22:=zeroValue26
 i3:=by kernel_rfl }
open Go.RowKit Go.Lib in
theorem Tryz.slices_Clone_int(b off n c:Nat)(zs:List Int)(w:World)(hz:n<=zs.length)(hbig:n*8<=140737488355328)(hc:∀j,j<zs.length->w.cell? ⟨b,off+j,none⟩=some (.int .i64 (zs.getD j 0))):
  Calls prog 120 #[.slice (some ⟨b,off,none⟩) n c] w fun e w'=>∃v',e=.returned v'/\w'.ownsRow w.heap.size 3 1 v' n ((zs.take n).map (Value.int .i64))/\v'≠.slice none 0 0/\Below w.heap.size w w':=Any.slices_Clone_int Tryz.laysNm215 b off n c zs w hz hbig hc
open Go.RowKit Go.Lib in
theorem Tryz.slices_Clone_int_nil(n c:Nat)(w:World):
  Calls prog 120 #[.slice none n c] w fun e w'=>e=.returned (.slice none 0 0)/\w'=w:=Any.slices_Clone_int_nil Tryz.laysNm215 n c w
open Go.RowKit Go.Lib in
theorem Tryz.slices_Clone_int_zero(a:Addr)(c:Nat)(w:World):
  Calls prog 120 #[.slice (some a) 0 c] w fun e w'=>∃v',e=.returned v'/\w'.ownsRow w.heap.size 3 1 v' 0 []/\v'≠.slice none 0 0/\Below w.heap.size w w':=Any.slices_Clone_int_zero Tryz.laysNm215 a c w
def Tryz.laysNm220_ren:Go.Shelf.Ren:=⟨fun|20=>246|n=>n,fun|22=>26|3=>3|4=>4|0=>0|n=>n,fun|n=>n⟩
theorem Tryz.laysNm220:Go.Proofs.Lays2.n20 prog Tryz.laysNm220_ren:={
 mixed:=by kernel_rfl
 f20:=func246.trans (congrArg some (by kernel_rfl))
 t0:=underlying0
 a0:=isAgg0
 z0:=sizeOf0
 v0:=zeroValue0
 t3:=underlying3
 a3:=isAgg3
 z3:=sizeOf3
 v3:=zeroValue3
 t4:=underlying4
 a4:=isAgg4
 z4:=sizeOf4
 v4:=zeroValue4
 t22:=underlying26
 a22:=isAgg26
 z22:=sizeOf26
 v22:=zeroValue26
 i3:=by kernel_rfl }
open Go.RowKit Go.Lib Go.Sort in
theorem Tryz.slices_Compact_int(blk off cap:Nat)(zs:List Int)(w:World)(hH:Holds (Value.int .i64) w blk off zs.toArray)(hsz:zs.length<=9223372036854775807)(hcap:zs.length<=cap):
  Calls prog 246 #[.slice (some ⟨blk,off,none⟩) zs.length cap] w fun e w'=>e=.returned (.slice (some ⟨blk,off,none⟩) (Lib.compact zs).length cap)/\∃q,w'=putRow (Value.int .i64) (Sort.ahead w q) blk off (Lib.compact zs++List.replicate (zs.length-(Lib.compact zs).length) 0).toArray:=Any.slices_Compact_int Tryz.laysNm220 blk off cap zs w hH hsz hcap
open Go.RowKit Go.Lib Go.Sort in
theorem Tryz.slices_Compact_int_empty(a:Option Addr)(cap:Nat)(w:World):
  Calls prog 246 #[.slice a 0 cap] w fun e w'=>e=.returned (.slice a 0 cap)/\w'=w:=Any.slices_Compact_int_empty Tryz.laysNm220 a cap w
open Go.RowKit Go.Sort in
theorem Tryz.slices_Sort_int_none(p:Option Addr)(cap:Nat)(w:World):
  Calls prog 245 #[.slice p 0 cap] w fun e w'=>e=.returned (.tuple #[])/\w'=w:=Any.slices_Sort_int_none Tryz.lays189 p cap w
end Go.Proofs
namespace Go.Proofs.YtebmobphgaiaiaaGreat.images
open Go Go.Proofs Go.RowKit Go.Shelf Go.Sort
open Tryz
theorem below_grow{B:Nat}{w0 w:World}{os:Array Obj}(h:Below B w0 w)(hB:B<=w.heap.size):Below B w0 (grow w os) :=
 ⟨h.os,h.tape,h.output,by simp[grow];have:=h.size;omega,fun k hk=>by
  rw[<-h.block k hk];exact heap_grow_old _ _ (by omega)⟩
set_option maxHeartbeats 2000000 in
set_option maxRecDepth 100000 in
theorem any(b off n c:Nat)(zs:List Int)(w:World)(hz:zs.length=n)(hbig:n*8<=140737488355328)(hc:∀j,j<zs.length->w.cell? ⟨b,off+j,none⟩=some (.int .i64 (zs.getD j 0))):
    Calls prog 189 #[.slice (some ⟨b,off,none⟩) n c] w fun e w'=>e=.returned (.int .i64 (Lib.compact (zs.mergeSort fun x y=>decide (x<=y))).length)/\Below w.heap.size w w':=by
  have hclone:=Tryz.slices_Clone_int b off n c zs w (by omega) hbig hc;rw[List.take_of_length_le (by omega)] at hclone;clear hc
  go_enter func189,ntmps189
  go_wp2_with (first
    | (go_at_call 120;refine hclone.mono ?_;rintro e w1 ⟨v1,rfl,hown,hnn,hbel⟩
       obtain⟨g,cap,rfl,hbg,hgl,hncap,hcm,hlen,hH⟩:=Lib.holds_of_ownsRow hown hnn;have hsort:=Tryz.slices_Sort_int g 0 cap zs w1 hH hgl (by omega);rw[hlen] at hsort;have X:Aside (Below w.heap.size w w1/\w.heap.size<=g/\g<w1.heap.size/\n<=cap/\cap<=maxLen/\Holds (Value.int .i64) w1 g 0 zs.toArray):=⟨hbel,hbg,hgl,hncap,hcm,hH⟩
       clear hown hbel hH hnn)
    | (go_at_call 245;refine hsort.mono ?_;rintro e w2 ⟨rfl,nn,os,rfl⟩
       have hl2:(zs.mergeSort fun x y=>decide (x<=y)).length=n:=by rw[List.length_mergeSort];exact hz
       have hH2:Holds (Value.int .i64) (grow (putRow (Value.int .i64) (Sort.ahead w1 nn) g 0 (zs.mergeSort fun x y=>decide (x<=y)).toArray) os) g 0 (zs.mergeSort fun x y=>decide (x<=y)).toArray :=
         holds_grow _ _ os g 0 _ (by simpa[putRow,mapBlock,Sort.ahead] using X.out.2.2.1) (holds_putRow _ _ g 0 _ _ (holds_ahead _ w1 nn g 0 _ X.out.2.2.2.2.2) (by simp))
       have hcomp:=Tryz.slices_Compact_int g 0 cap (zs.mergeSort fun x y=>decide (x<=y)) _ hH2 (by omega) (by have:=X.out.2.2.2.1;omega);rw[hl2] at hcomp;clear hH2 hsort)
    | (go_at_call 246;refine hcomp.mono ?_;rintro e w3 ⟨rfl,q,rfl⟩))
  go_ret
  exact⟨rfl,Lib.below_putRow (below_grow (Lib.below_putRow X.out.1 X.out.2.1) (by have:=X.out.1.size;simp[putRow,mapBlock,Sort.ahead];omega)) X.out.2.1⟩
set_option maxHeartbeats 2000000 in
set_option maxRecDepth 100000 in
theorem zero(a:Addr)(c:Nat)(w:World):Calls prog 189 #[.slice (some a) 0 c] w fun e w'=>e=.returned (.int .i64 0)/\Below w.heap.size w w':=by
  have hclone:=Tryz.slices_Clone_int_zero a c w
  go_enter func189,ntmps189
  go_wp2_with (first
    | (go_at_call 120;refine hclone.mono ?_;rintro e w1 ⟨v1,rfl,hown,hnn,hbel⟩
       obtain⟨g,cap,rfl,_,_,_,_,_,_⟩:=Lib.holds_of_ownsRow (enc:=Value.int .i64) (zs:=[]) hown hnn;have X:Aside (Below w.heap.size w w1):=hbel
       clear hown hbel hnn)
    | (go_at_call 245;refine(Tryz.slices_Sort_int_none _ _ _).mono ?_;rintro e w2 ⟨rfl,rfl⟩)
    | (go_at_call 246;refine(Tryz.slices_Compact_int_empty _ _ _).mono ?_;rintro e w3 ⟨rfl,rfl⟩))
  go_ret
  exact⟨rfl,X.out⟩
set_option maxHeartbeats 2000000 in
set_option maxRecDepth 100000 in
theorem none(n c:Nat)(w:World):Calls prog 189 #[.slice none n c] w fun e w'=>e=.returned (.int .i64 0)/\Below w.heap.size w w':=by
 go_enter func189,ntmps189
 go_wp2_with (first
  | (go_at_call 120;refine(Tryz.slices_Clone_int_nil n c _).mono ?_;rintro e w1 ⟨rfl,rfl⟩)
  | (go_at_call 245;refine(Tryz.slices_Sort_int_none _ _ _).mono ?_;rintro e w2 ⟨rfl,rfl⟩)
  | (go_at_call 246;refine(Tryz.slices_Compact_int_empty _ _ _).mono ?_;rintro e w3 ⟨rfl,rfl⟩))
 go_ret
 exact⟨rfl,Below.refl _ _⟩
end Go.Proofs.YtebmobphgaiaiaaGreat.images
