import Derived.Test.YtchfmhhbiealcaaGreatDoorPIC2
import Derived.Orders
set_option linter.unusedSimpArgs false
set_option linter.unusedVariables false
namespace Go.AM
theorem d7.{u,v}:type_of% @List.map_congr_left.{u,v}:=@List.map_congr_left
theorem cq:type_of% @Bool.true_and:=@Bool.true_and
theorem ek:type_of% @Bool.or_eq_true:=@Bool.or_eq_true
theorem cj.{u}:type_of% @List.mem_cons.{u}:=@List.mem_cons
theorem b8.{u}:type_of% @List.mem_filter.{u}:=@List.mem_filter
theorem ba:type_of% @List.mem_range:=@List.mem_range
theorem db:type_of% @Bool.not_eq_true':=@Bool.not_eq_true'
theorem f7:type_of% @List.pairwise_lt_range:=@List.pairwise_lt_range
theorem dn.{u}:type_of% @List.pairwise_cons.{u}:=@List.pairwise_cons
theorem dj.{u}:type_of% @List.filter_append.{u}:=@List.filter_append
theorem fg.{u}:type_of% @List.filter_eq_self.{u}:=@List.filter_eq_self
open Go
variable {P:Program} {wr:Bool}
theorem nB{ρ ρ':Operand->AV}{o:Option Operand}{d n:Nat}(h:∀x,o=some x->ρ x=ρ' x):dE ρ o d n=dE ρ' o d n:=by
 cases o with
 | none=>rfl
 | some x=>simp only[dE,h x rfl]
theorem aD1{base:Nat}{o:Oper}{ρ ρ':Operand->AV}{v:AV}(h:∀x∈o.op.operands,ρ x=ρ' x):aBD P base o ρ v->aBD P base o ρ' v:=by
 unfold aBD;cases ju:o.op<;>rw[ju] at h<;>simp only[imp_self]
 case move x=>rw[h x (by simp[Op.operands])];exact id
 case assign x=>rw[h x (by simp[Op.operands])];exact id
 case pick c a b=>rw[h c (by simp[Op.operands]),h a (by simp[Op.operands]),h b (by simp[Op.operands])];exact id
 case build T parts =>
  have e:(parts.toList.map fun p=>(p.1,ρ p.2))=parts.toList.map fun p=>(p.1,ρ' p.2):=d7 fun p hp=>by
   rw[h p.2 (by simp only[Op.operands];rw[<-Array.mem_toList_iff];simpa using ⟨p.1,by simpa using hp⟩)]
  rw[e];exact id
 case buildSlice T len parts =>
  have e:(parts.toList.map fun p=>ρ p.2)=parts.toList.map fun p=>ρ' p.2:=d7 fun p hp=>by
   rw[h p.2 (by simp only[Op.operands];rw[<-Array.mem_toList_iff];simpa using ⟨p.1,by simpa using hp⟩)]
  rw[e];exact id
 case nilCheck x=>rw[h x (by simp[Op.operands])];exact id
 case binOp op T x y T2=>rw[h x (by simp[Op.operands]),h y (by simp[Op.operands])];exact id
 case unOp op T x=>rw[h x (by simp[Op.operands])];exact id
 case convert s t x=>rw[h x (by simp[Op.operands])];exact id
 case makeFunc fn first caps =>
  have e:caps.toList.map ρ=caps.toList.map ρ':=d7 fun p hp=>h p (by simp only[Op.operands];rw[<-Array.mem_toList_iff];simp[hp])
  rw[e];exact id
 case fieldAddr T x f=>rw[h x (by simp[Op.operands])];exact id
 case field T x f=>rw[h x (by simp[Op.operands])];exact id
 case indexAddr T x i=>rw[h x (by simp[Op.operands]),h i (by simp[Op.operands])];exact id
 case index T x i=>rw[h x (by simp[Op.operands]),h i (by simp[Op.operands])];exact id
 case extract t i=>rw[h t (by simp[Op.operands])];exact id
 case slice T x lo hi mx =>
  have e1:∀d n,dE ρ lo d n=dE ρ' lo d n:=fun d n=>nB fun y hy=>h y (by simp[Op.operands,hy])
  have e2:∀d n,dE ρ hi d n=dE ρ' hi d n:=fun d n=>nB fun y hy=>h y (by simp[Op.operands,hy])
  have e3:∀d n,dE ρ mx d n=dE ρ' mx d n:=fun d n=>nB fun y hy=>h y (by simp[Op.operands,hy])
  rw[h x (by simp[Op.operands])];unfold dB;simp only[e1,e2,e3];exact id
 case call c =>
  have e:c.args.toList.map ρ=c.args.toList.map ρ':=d7 fun p hp=>h p (by simp only[Op.operands,Call.operands];rw[<-Array.mem_toList_iff];simp;exact .inr (by simpa using hp))
  rw[e];exact id
theorem aDB{o:Oper}{ρ ρ':Operand->AV}{box:Bxs}{v:AV}(h:∀x∈o.op.operands,ρ x=ρ' x):oU P o ρ box v->oU P o ρ' box v:=by
 unfold oU;cases ju:o.op<;>rw[ju] at h<;>simp only[imp_self]
 case load T p=>rw[h p (by simp[Op.operands])];exact id
theorem aEe{base:Nat}{o:Oper}{ρ ρ':Operand->AV}{box box':Bxs}{v:AV}(h:∀x∈o.op.operands,ρ x=ρ' x):pH P base o ρ box v box'->pH P base o ρ' box v box':=by
 unfold pH;cases ju:o.op<;>rw[ju] at h<;>simp only[imp_self]
 case store T p x=>rw[h p (by simp[Op.operands]),h x (by simp[Op.operands])];exact id
 case box T x=>rw[h x (by simp[Op.operands])];exact id
 case makeSlice T l c=>rw[h l (by simp[Op.operands]),h c (by simp[Op.operands])];exact id
 case call c =>
  have e:c.args.toList.map ρ=c.args.toList.map ρ':=d7 fun p hp=>h p (by simp only[Op.operands,Call.operands];rw[<-Array.mem_toList_iff];simp;exact .inr (by simpa using hp))
  rw[e];exact id
theorem aEp{o:Oper}{ρ ρ':Operand->AV}{tok tok':Nat->Bool}{nt nt':Nat}{v:AV}(h:∀x∈o.op.operands,ρ x=ρ' x):aD2 P o ρ tok nt v tok' nt'->aD2 P o ρ' tok nt v tok' nt':=by
 unfold aD2;refine Or.imp ?_ (Or.imp ?_ ?_)
 .unfold aC3;cases ju:o.op<;>rw[ju] at h<;>simp only[imp_self]
  case call c =>
   have e':∀x,x∈c.args.toList->ρ x=ρ' x:=fun x hx=>h x (by simp only[Op.operands,Call.operands];rw[<-Array.mem_toList_iff];simp;exact .inr (by simpa using hx))
   split
   .rename_i s x T T' h1 h2 h3;rw[e' s (by rw[h2];simp),e' x (by rw[h2];simp)];exact id
   .exact id
 .unfold aHx;cases ju:o.op<;>rw[ju] at h<;>simp only[imp_self]
  case call c =>
   have e':∀x,x∈c.args.toList->ρ x=ρ' x:=fun x hx=>h x (by simp only[Op.operands,Call.operands];rw[<-Array.mem_toList_iff];simp;exact .inr (by simpa using hx))
   split
   .rename_i s x T T' h1 h2 h3;rw[e' s (by rw[h2];simp),e' x (by rw[h2];simp)];exact id
   .exact id
 .rintro⟨φ,h1,h2⟩;refine⟨φ,?_,h2⟩;rw[<-h1];unfold fM;cases ju:o.op<;>rw[ju] at h<;>try simp only
  case makeMap T r=>cases r<;>rfl
  case lookup T m k b =>
   cases b
   .have e1:=h m (by simp[Op.operands]);have e2:=h k (by simp[Op.operands])
    dsimp only
    rw[e1,e2]
   .rfl
theorem aEg{o:Oper}{ρ ρ':Operand->AV}{box:Bxs}{tok tok':Nat->Bool}{nt nt':Nat}{v:AV}(h:∀x∈o.op.operands,ρ x=ρ' x):rW P o ρ box tok nt v tok' nt'->rW P o ρ' box tok nt v tok' nt':=by
 unfold rW;cases ju:o.op<;>rw[ju] at h<;>simp only[imp_self]
 case call c =>
  have e:c.args.toList.map ρ=c.args.toList.map ρ':=d7 fun p hp=>h p (by simp only[Op.operands,Call.operands];rw[<-Array.mem_toList_iff];simp;exact .inr (by simpa using hp))
  split
  .rename_i f h1;rw[h f (by simp only[Op.operands,Call.operands,h1];simp),e];exact id
  .exact id
theorem aD3{o:Oper}{ρ ρ':Operand->AV}{box box':Bxs}{tok tok':Nat->Bool}{nt nt':Nat}{v:AV}(h:∀x∈o.op.operands,ρ x=ρ' x):aB5 P o ρ box tok nt v box' tok' nt'->aB5 P o ρ' box tok nt v box' tok' nt':=by
 unfold aB5;cases ju:o.op<;>rw[ju] at h<;>simp only[imp_self]
 case call c =>
  have e:c.args.toList.map ρ=c.args.toList.map ρ':=d7 fun p hp=>h p (by simp only[Op.operands,Call.operands];rw[<-Array.mem_toList_iff];simp;exact .inr (by simpa using hp))
  split
  .rename_i f h1;rw[h f (by simp only[Op.operands,Call.operands,h1];simp),e];split
   .rintro⟨x,k,i,off,rows,g1,g2,g3⟩;have hx:x∈c.args.toList:=by
     obtain⟨cal,args,tys⟩:=c;simp only at h1;subst h1;simp only[aAT] at g1;exact List.mem_of_mem_head? g1
    refine⟨x,k,i,off,rows,g1,?_,g3⟩;rw[<-h x (by simp only[Op.operands,Call.operands];rw[<-Array.mem_toList_iff];simp;exact .inr (by simpa using hx))];exact g2
   .exact id
  .exact id
theorem aAu{base:Nat}{o:Oper}{ρ ρ':Operand->AV}{box box':Bxs}{tok tok':Nat->Bool}{nt nt':Nat}{v:AV}(h:∀x∈o.op.operands,ρ x=ρ' x):
  Eff P wr base o ρ box tok nt v box' tok' nt'->Eff P wr base o ρ' box tok nt v box' tok' nt':=by
 unfold Eff;split
 .exact fun ⟨h1,h2⟩=>⟨aD1 h h1,h2⟩
 .exact fun ⟨h1,h2⟩=>⟨aDB h h1,h2⟩
 .exact fun ⟨h1,h2⟩=>⟨aEe h h1,h2⟩
 .exact fun hh=>hh.imp (fun ⟨h1,h2⟩=>⟨h1.imp (aEp h) (aEg h),h2⟩) fun ⟨h1,h2⟩=>⟨h1,aD3 h h2⟩
def aE6:Op->Bool
 | .box .. => true
 | .makeSlice .. => true
 | _=>false
theorem oQ{base:Nat}{o:Oper}{ρ:Operand->AV}{b b':Bxs}{v:AV}(hm:aE6 o.op=true)(h:pH P base o ρ b v b'):
  ∃s rows,b (base+s)=none/\b'=upd b (base+s) (some rows)/\∀c,c (base+s)=none->pH P base o ρ c v (upd c (base+s) (some rows)):=by
 unfold pH at h ⊢;cases ju:o.op<;>rw[ju] at hm h<;>first|cases hm|skip
 .simp only at h ⊢;split at h
  .rename_i s cs h1 h2;obtain⟨g1,g2,g3⟩:=h;exact⟨s,[cs],g1,g3,fun c hc=>by simp only[h1,h2];exact⟨hc,g2,by first|rfl|trivial⟩⟩
  .exact h.elim
 .simp only at h ⊢;split at h
  .rename_i sz by' zs s k1 n k2 n' h1 h2 h3 h4
   obtain⟨g1,g2,g3,g4,g5,g6⟩:=h;exact⟨s,_,g4,g6,fun c hc=>by simp only[h1,h2,h3,h4];exact⟨g1,g2,g3,hc,g5,by first|rfl|trivial⟩⟩
  .exact h.elim
theorem aCD{α:Type}(f:Nat->α){i j:Nat}(h:i≠j)(a b:α):upd (upd f i a) j b=upd (upd f j b) i a:=by
 funext k
 simp only[upd];by_cases h1:k=i<;>by_cases h2:k=j
 .exact absurd (h1.symm.trans h2) h
 .simp[h1,h2];intro e;exact absurd e h
 .simp[h1,h2];intro e;exact absurd e.symm h
 .simp[h1,h2]
def aFz:Op->Bool
 | .call { callee:=.value _,.. }=>true
 | _=>false
theorem rW.val{o:Oper}{ρ:Operand->AV}{box:Bxs}{tok tok':Nat->Bool}{nt nt':Nat}{v:AV}(h:rW P o ρ box tok nt v tok' nt'):aFz o.op=true:=by
 unfold rW at h;split at h
 .rename_i c ho;split at h
  .rename_i f hf;rw[ho];obtain⟨cal,args,tys⟩:=c;simp only at hf;subst hf;rfl
  .exact h.elim
 .exact h.elim
theorem rW.ext{o:Oper}{ρ:Operand->AV}{box box1:Bxs}{tok tok':Nat->Bool}{nt nt':Nat}{v:AV}(h:rW P o ρ box tok nt v tok' nt')(he:Ext box box1):rW P o ρ box1 tok nt v tok' nt':=by
 unfold rW at h ⊢;split at h
 .split at h
  .split at h
   .exact dH.ext h he
   .exact h.elim
  .exact h.elim
 .exact h.elim
def oH(a b:Oper):Bool:=match cls a.op,cls b.op with
 | .t,.w=>aFz a.op&&!aE6 b.op
 | .w,.t=>aFz b.op
 | .r,.w=>true
 | .w,.r=>true
 | .w,.w=>!(aE6 a.op&&aE6 b.op)
 | .t,.t=>true
 | _,_=>false
theorem nH{a b:Prop}(h:a∨false=true/\b):a:=h.resolve_right fun h=>by cases h.1
theorem aIJ{base:Nat}{x y:Oper}{ρ ρ':Operand->AV}{b0 b1 b2:Bxs}{t0 t1 t2:Nat->Bool}{n0 n1 n2:Nat}{vx vy:AV}(hc:oH x y=false)(hx:Eff P false base x ρ b0 t0 n0 vx b1 t1 n1)(hy:Eff P false base y ρ' b1 t1 n1 vy b2 t2 n2):∃c t n,Eff P false base y ρ' b0 t0 n0 vy c t n/\Eff P false base x ρ c t n vx b2 t2 n2:=by
 unfold Eff at hx hy ⊢;unfold oH at hc;cases h1:cls x.op<;>cases h2:cls y.op<;>simp only[h1,h2] at hc hx hy ⊢<;>first|(exact absurd hc (by decide))|skip
 .obtain⟨e,rfl,rfl,rfl⟩:=hx;obtain⟨e',rfl,rfl,rfl⟩:=hy;exact⟨_,_,_,⟨e',rfl,rfl,rfl⟩,e,rfl,rfl,rfl⟩
 .obtain⟨e,rfl,rfl,rfl⟩:=hx;obtain⟨e',rfl,rfl,rfl⟩:=hy;exact⟨_,_,_,⟨e',rfl,rfl,rfl⟩,e,rfl,rfl,rfl⟩
 .obtain⟨e,rfl,rfl,rfl⟩:=hx;obtain⟨e',rfl,rfl⟩:=hy;exact⟨_,_,_,⟨e',rfl,rfl⟩,e,rfl,rfl,rfl⟩
 .obtain⟨e,rfl,rfl,rfl⟩:=hx;obtain⟨e',rfl⟩:=nH hy;exact⟨_,_,_,.inl ⟨e',rfl⟩,e,rfl,rfl,rfl⟩
 .obtain⟨e,rfl,rfl,rfl⟩:=hx;obtain⟨e',rfl,rfl,rfl⟩:=hy;exact⟨_,_,_,⟨e',rfl,rfl,rfl⟩,e,rfl,rfl,rfl⟩
 .obtain⟨e,rfl,rfl,rfl⟩:=hx;obtain⟨e',rfl,rfl,rfl⟩:=hy;exact⟨_,_,_,⟨e',rfl,rfl,rfl⟩,e,rfl,rfl,rfl⟩
 .obtain⟨e,rfl,rfl,rfl⟩:=hx;obtain⟨e',rfl⟩:=nH hy;exact⟨_,_,_,.inl ⟨e',rfl⟩,e,rfl,rfl,rfl⟩
 .obtain⟨e,rfl,rfl⟩:=hx;obtain⟨e',rfl,rfl,rfl⟩:=hy;exact⟨_,_,_,⟨e',rfl,rfl,rfl⟩,e,rfl,rfl⟩
 .obtain⟨e,rfl,rfl⟩:=hx;obtain⟨e',rfl,rfl⟩:=hy;simp only[Bool.not_eq_false',bd] at hc;obtain⟨s,rows,g1,rfl,g3⟩:=oQ hc.1 e;obtain⟨s',rows',k1,rfl,k3⟩:=oQ hc.2 e';have hne:base+s≠base+s':=fun e=>by rw[<-e,uS] at k1;cases k1
  rw[uO _ _ (Ne.symm hne)] at k1;refine⟨_,_,_,⟨k3 b0 k1,rfl,rfl⟩,?_,rfl,rfl⟩;rw[aCD _ hne];exact g3 _ (by rw[uO _ _ hne];exact g1)
 .obtain⟨e,rfl,rfl⟩:=hx;obtain⟨e',rfl⟩:=nH hy;rcases e' with e'|e'
  .exact⟨_,_,_,.inl ⟨.inl e',rfl⟩,e,rfl,rfl⟩
  .rw[e'.val] at hc;cases hc
 .obtain⟨e,rfl⟩:=nH hx;obtain⟨e',rfl,rfl,rfl⟩:=hy;exact⟨_,_,_,⟨e',rfl,rfl,rfl⟩,.inl ⟨e,rfl⟩⟩
 .obtain⟨e,rfl⟩:=nH hx;obtain⟨e',rfl,rfl,rfl⟩:=hy;exact⟨_,_,_,⟨e',rfl,rfl,rfl⟩,.inl ⟨e,rfl⟩⟩
 .obtain⟨e,rfl⟩:=nH hx;obtain⟨e',rfl,rfl⟩:=hy;rcases e with e|e
  .exact⟨_,_,_,⟨e',rfl,rfl⟩,.inl ⟨.inl e,rfl⟩⟩
  .rw[e.val] at hc;simp only[cq,Bool.not_eq_false'] at hc;obtain⟨s,rows,g1,rfl,g3⟩:=oQ hc e';refine⟨_,_,_,⟨e',rfl,rfl⟩,.inl ⟨.inr (e.ext fun k r hk=>?_),rfl⟩⟩;rw[uO _ _ (fun e2=>by rw[e2,g1] at hk;cases hk)];exact hk
def aBn(P:Program)(wr:Bool)(base:Nat)(ops:Array Oper)(o:Oper)(S:AS)(v:AV)(box':Bxs)(tok':Nat->Bool)(nt':Nat):Prop:=match o.guard with
 | none=>Eff P wr base o S.ev S.box S.tok S.nt v box' tok' nt'
 | some (j,want)=>match dN ops S j with
  | some b=>if b=some want then Eff P wr base o S.ev S.box S.tok S.nt v box' tok' nt' else v=.tup []/\box'=S.box/\tok'=S.tok/\nt'=S.nt
  | none=>False
theorem hJ{base:Nat}{ops:Array Oper}{o:Oper}{S S':AS}:cH P wr base ops o S S'↔∃v box' tok' nt',aBn P wr base ops o S v box' tok' nt'/\S'=⟨bU S.tmps o.dst v,box',tok',nt'⟩:=by
 cases hg:o.guard with
 | none=>simp only[cH,aBn,hg,yI]
 | some q =>
  obtain⟨j,want⟩:=q;simp only[cH,aBn,hg];cases hy:dN ops S j with
  | none =>
   simp only;exact⟨False.elim,fun ⟨_,_,_,_,h,_⟩=>h⟩
  | some b =>
   simp only;by_cases hb:b=some want
   .simp only[hb,↓reduceIte,yI]
   .simp only[hb,↓reduceIte];constructor
    .rintro rfl;exact⟨_,_,_,_,⟨rfl,rfl,rfl,rfl⟩,rfl⟩
    .rintro⟨v,b,t,n,⟨rfl,rfl,rfl,rfl⟩,rfl⟩;rfl
theorem aMO{S:AS}{o:Oper}{x:Operand}{v:AV}{b:Bxs}{t:Nat->Bool}{n:Nat}(h:∀d,o.dst=some d->x≠.tmp d):(⟨bU S.tmps o.dst v,b,t,n⟩:AS).ev x=S.ev x:=by
 cases x with
 | tmp s =>
  simp only[AS.ev,bU];cases hd:o.dst with
  | none=>rfl
  | some d=>exact uO _ _ (fun e=>h d hd (by rw[e]))
 | const _=>rfl
 | global _=>rfl
 | func _=>rfl
theorem yL{ops:Array Oper}{o:Oper}{x:Operand}(hx:x∈o.op.operands){d:Tmp}(h:d∉o.looksAt ops):x≠.tmp d:=by
 rintro rfl;apply h;simp only[Oper.looksAt,ap,List.mem_filterMap];exact .inl ⟨.tmp d,by simpa using hx,rfl⟩
theorem aCi{ops:Array Oper}{o:Oper}{j:Nat}{want:Bool}(hg:o.guard=some (j,want)){d:Tmp}(h:d∉o.looksAt ops):(ops[j]?).bind (·.dst)≠some d:=by
 intro e;apply h;simp only[Oper.looksAt,hg,ap];exact .inr (by simp[e])
theorem aBZ{base:Nat}{ops:Array Oper}{x y:Oper}{S:AS}{v vx:AV}{b b':Bxs}{t t':Nat->Bool}{n n':Nat}(h:∀d,x.dst=some d->d∉y.looksAt ops):
  aBn P wr base ops y ⟨bU S.tmps x.dst vx,b,t,n⟩ v b' t' n'↔aBn P wr base ops y ⟨S.tmps,b,t,n⟩ v b' t' n':=by
 have qv:∀z∈y.op.operands,(⟨bU S.tmps x.dst vx,b,t,n⟩:AS).ev z=(⟨S.tmps,b,t,n⟩:AS).ev z:=fun z hz=>aMO (S:=⟨S.tmps,b,t,n⟩) fun d hd=>yL hz (h d hd)
 have Ag:Eff P wr base y (⟨bU S.tmps x.dst vx,b,t,n⟩:AS).ev b t n v b' t' n'↔Eff P wr base y (⟨S.tmps,b,t,n⟩:AS).ev b t n v b' t' n' :=
  ⟨aAu qv,aAu fun z hz=>(qv z hz).symm⟩
 unfold aBn;cases hg:y.guard with
 | none=>simp only;exact Ag
 | some q =>
  obtain⟨j,want⟩:=q;have hy:dN ops (⟨bU S.tmps x.dst vx,b,t,n⟩:AS) j=dN ops (⟨S.tmps,b,t,n⟩:AS) j:=by
   unfold dN;cases hd:(ops[j]?).bind (·.dst) with
   | none=>rfl
   | some d =>
    simp only[bU];cases hx:x.dst with
    | none=>rfl
    | some e =>
     simp only;rw[uO _ _ (fun e'=>aCi hg (h e hx) (by rw[hd,e']))]
  simp only[hy];split
  .split
   .exact Ag
   .exact Iff.rfl
  .exact Iff.rfl
theorem aFI{f:Nat->AV}{x y:Option Tmp}{v u:AV}(h:∀d,x=some d->y≠some d):bU (bU f x v) y u=bU (bU f y u) x v:=by
 cases x<;>cases y<;>simp only[bU]
 rename_i d e;have hne:d≠e:=fun e'=>h d rfl (by rw[e'])
 funext j
 simp only[upd];by_cases h1:j=e<;>by_cases h2:j=d
 .exact absurd (h2.symm.trans h1) hne
 .simp[h1,h2];intro e';exact absurd e'.symm hne
 .simp[h1,h2,hne]
 .simp[h1,h2]
theorem tM{base:Nat}{ops:Array Oper}{x y:Oper}{S S1 S2:AS}(hap:x.apart ops y=true)(sw:∀{c0 c1 c2:Bxs} {s0 s1 s2:Nat->Bool} {m0 m1 m2:Nat} {vx vy:AV},Eff P wr base x S.ev c0 s0 m0 vx c1 s1 m1->Eff P wr base y S.ev c1 s1 m1 vy c2 s2 m2->∃c t n,Eff P wr base y S.ev c0 s0 m0 vy c t n/\Eff P wr base x S.ev c t n vx c2 s2 m2)(hx:cH P wr base ops x S S1)(hy:cH P wr base ops y S1 S2):
  ∃S1',cH P wr base ops y S S1'/\cH P wr base ops x S1' S2:=by
 obtain⟨a1,a2,a3⟩:=Oper.apart_spec hap;obtain⟨vx,b1,t1,n1,ex,rfl⟩:=hJ.1 hx;obtain⟨vy,b2,t2,n2,ey,rfl⟩:=hJ.1 hy;rw[aBZ (S:=⟨S.tmps,b1,t1,n1⟩) a1] at ey
 -- each is an effect,or nothing at all
 have key:∃c t n,aBn P wr base ops y S vy c t n/\aBn P wr base ops x ⟨S.tmps,c,t,n⟩ vx b2 t2 n2:=by
  have ydep:∀(b:Bxs) t n,dN ops ⟨S.tmps,b,t,n⟩=dN ops S:=fun b t n=>rfl
  have evdep:∀(b:Bxs) t n,(⟨S.tmps,b,t,n⟩:AS).ev=S.ev:=fun b t n=>by funext z;cases z<;>rfl
  unfold aBn at ex ey ⊢;simp only[ydep,evdep] at ex ey ⊢
  -- part on the two guards
  cases CD:x.guard with
  | none =>
   simp only[CD] at ex ⊢;cases Ah:y.guard with
   | none=>simp only[Ah] at ey ⊢;exact sw ex ey
   | some q =>
    obtain⟨j,want⟩:=q;simp only[Ah] at ey ⊢;cases Ai:dN ops S j with
    | none=>rw[Ai] at ey;exact ey.elim
    | some b =>
     rw[Ai] at ey;simp only at ey ⊢;by_cases hb:b=some want
     .simp only[hb,↓reduceIte] at ey ⊢;exact sw ex ey
     .simp only[hb,↓reduceIte] at ey ⊢;obtain⟨rfl,rfl,rfl,rfl⟩:=ey;exact⟨_,_,_,⟨rfl,rfl,rfl,rfl⟩,ex⟩
  | some qx =>
   obtain⟨jx,wx⟩:=qx;simp only[CD] at ex ⊢;cases CE:dN ops S jx with
   | none=>rw[CE] at ex;exact ex.elim
   | some bx =>
    rw[CE] at ex;simp only at ex ⊢;by_cases mu:bx=some wx
    .simp only[mu,↓reduceIte] at ex ⊢;cases Ah:y.guard with
     | none=>simp only[Ah] at ey ⊢;exact sw ex ey
     | some q =>
      obtain⟨j,want⟩:=q;simp only[Ah] at ey ⊢;cases Ai:dN ops S j with
      | none=>rw[Ai] at ey;exact ey.elim
      | some b =>
       rw[Ai] at ey;simp only at ey ⊢;by_cases hb:b=some want
       .simp only[hb,↓reduceIte] at ey ⊢;exact sw ex ey
       .simp only[hb,↓reduceIte] at ey ⊢;obtain⟨rfl,rfl,rfl,rfl⟩:=ey;exact⟨_,_,_,⟨rfl,rfl,rfl,rfl⟩,ex⟩
    .simp only[mu,↓reduceIte] at ex ⊢;obtain⟨rfl,rfl,rfl,rfl⟩:=ex;exact⟨b2,t2,n2,ey,rfl,rfl,rfl,rfl⟩
 obtain⟨c,t,n,k1,k2⟩:=key;refine⟨_,hJ.2 ⟨vy,c,t,n,k1,rfl⟩,hJ.2 ⟨vx,b2,t2,n2,?_,?_⟩⟩
 .rw[aBZ (S:=⟨S.tmps,c,t,n⟩) a3];exact k2
 .rw[aFI (fun d hd=>a2 d hd)]
theorem wD{base:Nat}{ops:Array Oper}{x y:Oper}{S S1 S2:AS}(hap:x.apart ops y=true)(hc:oH x y=false)(hx:cH P false base ops x S S1)(hy:cH P false base ops y S1 S2):
  ∃S1',cH P false base ops y S S1'/\cH P false base ops x S1' S2:=tM hap (fun h1 h2=>aIJ hc h1 h2) hx hy
def gU:Op->Option Operand
 | .load _ p=>some p
 | .store _ p _=>some p
 | _=>none
theorem aCQ{o:Oper}{p:Operand}{ρ:Operand->AV}{b:Bxs}{v:AV}(ho:gU o.op=some p)(mj:cls o.op=.r)(h:oU P o ρ b v){k':Nat}{rows:Option (List (List AV))}(hk:∀k i off,ρ p=.ptr k i off->k≠k'):
  oU P o ρ (upd b k' rows) v:=by
 cases ju:o.op<;>rw[ju] at ho mj<;>simp only[gU,cls,ad,reduceCtorEq] at ho mj
 subst ho;unfold oU at h ⊢;simp only[ju] at h ⊢;split at h
 .rename_i ag n h1 h2;split at h
  .rename_i h3;exact h
  .rename_i k i off h3;rw[uO _ _ (hk k i off h3)];exact h
  .exact h.elim
 .exact h.elim
theorem aGl{o:Oper}{p:Operand}{ρ:Operand->AV}{b:Bxs}{v:AV}{k':Nat}{rows:Option (List (List AV))}(ho:gU o.op=some p)(mj:cls o.op=.r)(hk:∀k i off,ρ p=.ptr k i off->k≠k')(h:oU P o ρ (upd b k' rows) v):oU P o ρ b v:=by
 have e:upd (upd b k' rows) k' (b k')=b:=by
  funext j
  simp only[upd];split
  .rename_i e;rw[e]
  .rfl
 rw[<-e];exact aCQ ho mj h hk
theorem qB{base:Nat}{o:Oper}{p:Operand}{ρ:Operand->AV}{b b':Bxs}{v:AV}(ho:gU o.op=some p)(mj:cls o.op=.w)(h:pH P base o ρ b v b'):
  ∃k i off row,ρ p=.ptr k i off/\b'=upd b k row/\∀k' r',k'≠k->pH P base o ρ (upd b k' r') v (upd (upd b k' r') k row):=by
 cases ju:o.op<;>rw[ju] at ho mj<;>simp only[gU,cls,ad,reduceCtorEq] at ho mj
 subst ho;unfold pH at h;simp only[ju] at h;split at h
 .rename_i n cs k i off h1 h2 h3;split at h
  .rename_i rows h4;split at h
   .rename_i r h5;obtain⟨g1,g2,g3,g4⟩:=h;refine⟨k,i,off,_,h3,g4,fun k' r' hne=>?_⟩;unfold pH;simp only[ju,h1,h2,h3,uO _ _ (Ne.symm hne),h4,h5];exact⟨g1,g2,g3,by first|rfl|trivial⟩
   .exact h.elim
  .exact h.elim
 .exact h.elim
theorem aI7{α:Type}(b:Nat->α)(k:Nat)(r:α):upd (upd b k r) k (b k)=b:=by
 funext j
 simp only[upd];split
 .rename_i e;rw[e]
 .rfl
theorem aJk{base:Nat}{x y:Oper}{p q:Operand}{ρ:Operand->AV}{b0 b1 b2:Bxs}{t0 t1 t2:Nat->Bool}{n0 n1 n2:Nat}{vx vy:AV}(hp:gU x.op=some p)(hq:gU y.op=some q)(hk:∀k i off k' i' off',ρ p=.ptr k i off->ρ q=.ptr k' i' off'->k≠k')(hx:Eff P wr base x ρ b0 t0 n0 vx b1 t1 n1)(hy:Eff P wr base y ρ b1 t1 n1 vy b2 t2 n2):∃c t n,Eff P wr base y ρ b0 t0 n0 vy c t n/\Eff P wr base x ρ c t n vx b2 t2 n2:=by
 have cl:∀{o:Oper} {p:Operand},gU o.op=some p->cls o.op=.r∨cls o.op=.w:=by
  intro o p h;cases ju:o.op<;>rw[ju] at h<;>simp only[gU,reduceCtorEq] at h
  .exact .inl rfl
  .exact .inr rfl
 unfold Eff at hx hy ⊢;rcases cl hp with h1|h1<;>rcases cl hq with h2|h2<;>simp only[h1,h2] at hx hy ⊢
 .obtain⟨e,rfl,rfl,rfl⟩:=hx;obtain⟨e',rfl,rfl,rfl⟩:=hy;exact⟨_,_,_,⟨e',rfl,rfl,rfl⟩,e,rfl,rfl,rfl⟩
 .obtain⟨e,rfl,rfl,rfl⟩:=hx;obtain⟨e',rfl,rfl⟩:=hy;obtain⟨k',i',off',row,g1,rfl,g3⟩:=qB hq h2 e';exact⟨_,_,_,⟨e',rfl,rfl⟩,aCQ hp h1 e fun k i off hh=>hk k i off k' i' off' hh g1,rfl,rfl,rfl⟩
 .obtain⟨e,rfl,rfl⟩:=hx;obtain⟨e',rfl,rfl,rfl⟩:=hy;obtain⟨k',i',off',row,g1,rfl,g3⟩:=qB hp h1 e;exact⟨_,_,_,⟨aGl hq h2 (fun k i off hh=>Ne.symm (hk k' i' off' k i off g1 hh)) e',rfl,rfl,rfl⟩,e,rfl,rfl⟩
 .obtain⟨e,rfl,rfl⟩:=hx;obtain⟨e',rfl,rfl⟩:=hy;obtain⟨k,i,off,row,g1,rfl,g3⟩:=qB hp h1 e;obtain⟨k',i',off',row',g1',rfl,g3'⟩:=qB hq h2 e';have hne:=hk _ _ _ _ _ _ g1 g1';have e2:=g3' k (b0 k) hne;rw[aI7] at e2;refine⟨_,_,_,⟨e2,rfl,rfl⟩,?_,rfl,rfl⟩;rw[aCD _ hne];exact g3 k' row' (Ne.symm hne)
variable {P:Program} {wr:Bool}
def LeK(base:Nat)(G:Gh)(w:World)(b:Bxs)(G':Gh)(w':World)(b':Bxs):Prop:=Le G w G' w'/\∀k,k<base->G.bx k=none->G'.bx k=none/\b' k=b k
theorem LeK.refl(base:Nat)(G:Gh)(w:World)(b:Bxs):LeK base G w b G w b:=⟨Le.refl G w,fun _ _ h=>⟨h,rfl⟩⟩
theorem LeK.trans{base:Nat}{G1 G2 G3:Gh}{w1 w2 w3:World}{b1 b2 b3:Bxs}(h:LeK base G1 w1 b1 G2 w2 b2)(k:LeK base G2 w2 b2 G3 w3 b3):LeK base G1 w1 b1 G3 w3 b3 :=
 ⟨h.1.trans k.1,fun j hj hg=>⟨(k.2 j hj (h.2 j hj hg).1).1,(k.2 j hj (h.2 j hj hg).1).2.trans (h.2 j hj hg).2⟩⟩
theorem aGO.leK{base:Nat}{o:Oper}{G G':Gh}{w w':World}{box box':Bxs}(h:aGO base o G G' box box')(g9:Le G w G' w'):LeK base G w box G' w' box' :=
 ⟨g9,fun k hk hg=>h k (fun e=>by
  cases hd:o.dst with
  | none=>rw[hd] at e;cases e
  | some d =>
   rw[hd] at e;simp only[dd,ad] at e
   omega) hg⟩
def lL(P:Program)(wr:Bool)(base:Nat)(ops:Array Oper):List Nat->AS->AS->Prop
 | [],S,S'=>S'=S
 | i::r,S,S'=>∃o S1,ops[i]?=some o/\cH P wr base ops o S S1/\lL P wr base ops r S1 S'
def aEr(P:Program)(wr:Bool)(base:Nat)(ops:Array Oper):List Oper->AS->AS->Prop
 | [],S,S'=>S'=S
 | o::r,S,S'=>∃S1,cH P wr base ops o S S1/\aEr P wr base ops r S1 S'
theorem lL.of_aRun{base:Nat}{ops:Array Oper}{S':AS}:∀(l:List Oper) (k:Nat) (S:AS),ops.toList.drop k=l->aEr P wr base ops l S S'->lL P wr base ops (List.range' k l.length) S S'
 | [],k,S,_,h=>h
 | o::l,k,S,hl,⟨S1,h1,h2⟩=>by
  have hk:ops.toList[k]?=some o:=by
   have:=fp (·[0]?) hl
   simpa using this
  refine⟨o,S1,by simpa using hk,h1,?_⟩;refine lL.of_aRun l (k+1) S1 ?_ h2;have:=fp List.tail hl
  simpa[List.tail_drop] using this
theorem lL.of_all{base:Nat}{ops:Array Oper}{S S':AS}(h:aEr P wr base ops ops.toList S S'):lL P wr base ops (List.range ops.size) S S':=by
 have:=lL.of_aRun ops.toList 0 S (by simp) h
 simpa[List.range_eq_range'] using this
def dX(o:Oper):List Nat:=(o.after.toList.filter fun e=>Region.binds .any e).map (·.on)
def om(f:Nat->Nat)(js:List Nat):Nat:=js.foldl (fun m j=>m ||| (2 ^ j ||| f j)) 0
theorem aMP(f:Nat->Nat)(q:Nat)(js:List Nat):(om f js).testBit q=true↔∃j∈js,q=j∨(f j).testBit q=true:=by
 have key:∀(js:List Nat) (m0:Nat),(js.foldl (fun m j=>m ||| (2 ^ j ||| f j)) m0).testBit q=true↔m0.testBit q=true∨∃j∈js,q=j∨(f j).testBit q=true:=by
  intro js;induction js with
  | nil=>intro m0;simp
  | cons j js ih =>
   intro m0;rw[List.foldl_cons,ih];simp only[Nat.testBit_or,Nat.testBit_two_pow,ek,au,cj];constructor
   .rintro((h|h|h)|⟨x,hx,h⟩)
    .exact .inl h
    .exact .inr ⟨j,.inl rfl,.inl h.symm⟩
    .exact .inr ⟨j,.inl rfl,.inr h⟩
    .exact .inr ⟨x,.inr hx,h⟩
   .rintro(h|⟨x,rfl|hx,h|h⟩)
    .exact .inl (.inl h)
    .exact .inl (.inr (.inl h.symm))
    .exact .inl (.inr (.inr h))
    .exact .inr ⟨x,hx,.inl h⟩
    .exact .inr ⟨x,hx,.inr h⟩
 unfold om;rw[key];simp
def qI:List Oper->List Nat->List Nat
 | [],acc=>acc
 | o::r,acc=>qI r (acc++[om (fun j=>acc.getD j 0) (dX o)])
def kY:Op->Bool
 | .alloc _=>true
 | _=>false
def gW(ops:Array Oper):Bool :=
 (List.range ops.size).all fun i=>(List.range ops.size).all fun j=>i==j||(match ops[i]?,ops[j]? with
  | some x,some y=>!kY x.op||x.dst != y.dst
  | _,_=>true)
def sZ(n:Nat)(ops:Array Oper):Bool:=ops.toList.all fun o=>match o.dst with
 | some d=>decide (d<n)
 | none=>true
def aHR(ops:Array Oper):Bool :=
 let an:=qI ops.toList []
 (List.range ops.size).all fun i=>(match ops[i]? with|some o=>(dX o).all fun j=>decide (j<i)|none=>true) &&
  (List.range i).all fun j=>(an.getD i 0).testBit j||(match ops[j]?,ops[i]? with
   | some x,some y=>Oper.apart ops x y&&!oH x y
   | _,_=>false)
theorem sA:∀(l:List Oper) (acc:List Nat) (i:Nat),i<acc.length->(qI l acc).getD i 0=acc.getD i 0
 | [],acc,i,_=>rfl
 | o::l,acc,i,h=>by
  rw[qI,sA l _ i (by simp;omega)];simp only[ao];rw[bg h]
theorem aFc:∀(l:List Oper) (acc:List Nat) (i:Nat) (o:Oper),l[i]?=some o->(qI l acc).getD (acc.length+i) 0=om (fun j=>if j<acc.length+i then (qI l acc).getD j 0 else 0) (dX o)
 | [],acc,i,o,h=>by simp at h
 | o0::l,acc,0,o,h=>by
  simp at h;subst h;rw[qI,sA l _ _ (by simp)];simp only[ao,e9,da (nr0 _),Nat.sub_self,List.getElem?_cons_zero,du];congr 1
  funext j
  split
  .rename_i hj;have:=sA l (acc++[om (fun j=>acc.getD j 0) (dX o0)]) j (by simp;omega)
   simp only[ao] at this;rw[this,bg hj]
  .rename_i hj;rw[dx (by omega)];rfl
 | o0::l,acc,i+1,o,h=>by
  have ih:=aFc l (acc++[om (fun j=>acc.getD j 0) (dX o0)]) i o (by simpa using h);simp only[am,ce,c8,b6] at ih;rw[qI];have e:acc.length+(i+1)=acc.length+1+i:=by omega
  rw[e,ih]
theorem aIn{ops:Array Oper}{done:Nat->Prop}(qi:∀i o,ops[i]?=some o->done i->∀j∈dX o,done j):∀(i:Nat) (o:Oper),ops[i]?=some o->(∀j∈dX o,done j) ->
  ∀j,((qI ops.toList []).getD i 0).testBit j=true->done j:=by
 intro i;induction i using Nat.strongRecOn with
 | ind i ih =>
  intro o ho hd j hj;have:=aFc ops.toList [] i o (by simpa using ho)
  simp only[c8,b6] at this;rw[this,aMP] at hj;obtain⟨q,hq,hj⟩:=hj;rcases hj with rfl|hj
  .exact hd _ hq
  .split at hj
   .rename_i hlt;cases zf:ops[q]? with
    | none =>
     have hge:ops.size<=q:=by simpa using zf
     have qj:i<ops.size:=(bp.1 ho).1
     omega
    | some oq=>exact ih q hlt oq zf (qi q oq zf (hd q hq)) j hj
   .simp at hj
theorem vT{base:Nat}{ops:Array Oper}{Sf:AS}{Iv:AS->Prop}(Aj:∀(i:Nat) (o:Oper) (S S':AS) (rest:List Nat),ops[i]?=some o->i∉rest->cH P wr base ops o S S'->lL P wr base ops rest S' Sf->Iv S->Iv S'){i:Nat}{o:Oper}(hi:ops[i]?=some o):
  ∀(r1 r2:List Nat) (S:AS),(r1++i::r2).Nodup->Iv S ->
  (∀j∈r1,∀x,ops[j]?=some x->∀S S1 S2,Iv S->cH P wr base ops x S S1->cH P wr base ops o S1 S2->∃S1',cH P wr base ops o S S1'/\cH P wr base ops x S1' S2) ->
  lL P wr base ops (r1++i::r2) S Sf->lL P wr base ops (i::(r1++r2)) S Sf
 | [],r2,S,_,_,_,h=>h
 | j::r1,r2,S,hnd,hS,hj,⟨x,S1,hx,h1,h2⟩=>by
  have qk:=List.nodup_cons.1 hnd
  obtain⟨o',S2,ho',k1,k2⟩:=vT Aj hi r1 r2 S1 qk.2 (Aj j x S S1 _ hx qk.1 h1 h2 hS) (fun q hq=>hj q (by simp[hq])) h2;rw[hi] at ho';cases ho'
  obtain⟨S1',g1,g2⟩:=hj j (by simp) x hx S S1 S2 hS h1 k1;exact⟨o,S1',hi,g1,x,S2,hx,g2,k2⟩
theorem aDW{ops:Array Oper}{listed:Array Bool}{i:Nat}(h:i∈Region.ready .any ops listed):∃o,ops[i]?=some o/\listed.getD i true=false/\∀j∈dX o,listed.getD j false=true:=by
 simp only[Region.ready,b8,ba,bd,db] at h;obtain⟨h1,h2,h3⟩:=h;have ho:ops[i]?=some ops[i]:=fk h1
 refine⟨ops[i],ho,h2,?_⟩;rw[ho] at h3;simp only[dd,du] at h3;intro j hj;simp only[dX,bc,b8] at hj;obtain⟨e,⟨he,hb⟩,rfl⟩:=hj;have:=(Array.all_eq_true_iff_forall_mem.1 h3) e (by simpa using he)
 simpa[hb] using this
theorem aDa{a:Array Bool}{i:Nat}(h:i<a.size)(b c:Bool):a.getD i b=a.getD i c:=by simp[Array.getD,h]
theorem uU{n nb base:Nat}{ops:Array Oper}{Q:Exit->Act->World->Prop}{Sf:AS}{G0:Gh}{w0:World}{b0:Bxs}(pz:∀(i:Nat) (o:Oper),ops[i]?=some o->∀j∈dX o,j<i){Iv:AS->Prop}(Aj:∀(i:Nat) (o:Oper) (S S':AS) (rest:List Nat),ops[i]?=some o->i∉rest->cH P wr base ops o S S'->lL P wr base ops rest S' Sf->Iv S->Iv S')(Dt:∀(i j:Nat) (o x:Oper),ops[i]?=some o->ops[j]?=some x->j<i->((qI ops.toList []).getD i 0).testBit j=false->∀S S1 S2,Iv S->cH P wr base ops x S S1->cH P wr base ops o S1 S2->∃S1',cH P wr base ops o S S1'/\cH P wr base ops x S1' S2)(hal:gW ops=true)(lh:sZ n ops=true)(j5:base+n<=nb)(hQ:∀a' w' G',cS n nb G' Sf a' w'->LeK base G0 w0 b0 G' w' Sf.box->Q .normal a' w'):∀(fuel:Nat) (listed:Array Bool) (rem:List Nat) (S:AS) (a:Act) (w:World) (G:Gh),
  listed.size=ops.size->rem=(List.range ops.size).filter (fun i=>!listed.getD i true)->rem.length=fuel->(∀i o,ops[i]?=some o->listed.getD i false=true->∀j∈dX o,listed.getD j false=true) ->
  Iv S->lL P wr base ops rem S Sf->cS n nb G S a w->(∀i∈rem,∀o,ops[i]?=some o->pM P base o G S.box)->LeK base G0 w0 b0 G w S.box->wpAny P .any ops Q fuel listed a w:=by
 have hd:∀(o:Oper) d,o∈ops->o.dst=some d->d<n:=by
  intro o d ho qh;have:=ax.1 lh o (by simpa using ho)
  rw[qh] at this;simpa using this
 intro fuel;induction fuel with
 | zero =>
  intro listed rem S a w G hsz n9 hlen qi r7 jd hr hp g9;have h0:rem=[]:=bf hlen
  rw[h0] at jd n9;refine⟨?_,?_⟩
  .simp only[Region.ready];rw[List.filter_eq_nil_iff];intro i hi;have:=(List.filter_eq_nil_iff.1 n9.symm) i hi
   simp at this;simp[this]
  .have hS:Sf=S:=jd
   subst hS;exact hQ a w G hr g9
 | succ fuel ih =>
  intro listed rem S a w G hsz n9 hlen qi r7 jd hr hp g9;refine⟨fun wv=>?_,fun i hi=>?_⟩
  .-- something is ready: the first that is left
   exfalso
   cases r8:rem with
   | nil=>rw[r8] at hlen;simp at hlen
   | cons i r =>
    have i5:i∈rem:=by rw[r8];simp
    have hmem':=i5
    rw[n9,b8,ba] at i5;have ho:ops[i]?=some ops[i]:=fk i5.1
    have li:rem.Pairwise (· < ·):=by rw[n9];exact f7.filter _
    rw[r8] at li;have xy:∀j,j<i->listed.getD j false=true:=by
     intro j hj;have qe:j<listed.size:=by rw[hsz];omega
     cases hl:listed.getD j false with
     | true=>rfl
     | false =>
      have CF:j∈rem:=by
       rw[n9,b8,ba];refine⟨by omega,?_⟩;rw[aDa qe true false,hl];rfl
      rw[r8] at CF;rcases cj.1 CF with e|e
      .omega
      .have:=(dn.1 li).1 j e
       omega
    have t7:i∈Region.ready .any ops listed:=by
     simp only[Region.ready,b8,ba];refine⟨i5.1,?_⟩;rw[ho];simp only[dd,du,bd];refine⟨i5.2,?_⟩;rw[Array.all_eq_true_iff_forall_mem];intro e he;by_cases hb:Region.binds .any e=true
     .have qj:e.on<i:=pz i _ ho e.on (by simp only[dX,bc,b8];exact⟨e,⟨by simpa using he,hb⟩,rfl⟩)
      simp[xy e.on qj]
     .simp[hb]
    rw[wv] at t7;simp at t7
  .obtain⟨o,ho,hl,Ak⟩:=aDW hi;have ko:i<ops.size:=(bp.1 ho).1
   have ww:i∈rem:=by
    rw[n9,b8,ba];exact⟨ko,by simp[hl]⟩
   obtain⟨r1,r2,sk⟩:=List.append_of_mem ww;have li:rem.Pairwise (· < ·):=by rw[n9];exact f7.filter _
   rw[sk] at li;have mv:∀j∈r1,j<i:=fun j hj=>(List.pairwise_append.1 li).2.2 j hj i (by simp)
   have xz:∀j∈r2,i<j:=fun j hj=>(dn.1 (List.pairwise_append.1 li).2.1).1 j hj
   have x7:∀j∈r1,∀x,ops[j]?=some x->∀S S1 S2,Iv S->cH P wr base ops x S S1->cH P wr base ops o S1 S2->∃S1',cH P wr base ops o S S1'/\cH P wr base ops x S1' S2:=by
    intro j hj x hx;refine Dt i j o x ho hx (mv j hj) ?_;cases h2:((qI ops.toList []).getD i 0).testBit j with
    | false=>rfl
    | true =>
     exfalso
     have wy:j∈rem:=by rw[sk];simp[hj]
     rw[n9,b8] at wy;have Al:=aIn (done:=fun q=>listed.getD q false=true) qi i o ho Ak j h2;have qe:j<listed.size:=by rw[hsz];have:=mv j hj;omega
     rw[aDa qe true false,Al] at wy;simp at wy
   have hnd:(r1++i::r2).Nodup:=li.imp (fun h=>Nat.ne_of_lt h)
   have vi:i∉r1++r2:=fun hm=>by
    rcases ap.1 hm with h|h
    .have:=mv i h;omega
    .have:=xz i h;omega
   rw[sk] at jd;obtain⟨o',S1,ho',jo,ql⟩:=vT Aj ho r1 r2 S hnd r7 x7 jd;rw[ho] at ho';cases ho'
   have B8:=Aj i o S S1 _ ho vi jo ql r7;refine aCm ho jo hr hd j5 (hp i ww o ho) fun a' w' G' qc B9 hk=>?_
   have sm:∀j,j≠i->∀b,(listed.setIfInBounds i true).getD j b=listed.getD j b:=fun j hj b=>getD_set_ne b (Ne.symm hj)
   have Am:r1++r2=(List.range ops.size).filter fun j=>!(listed.setIfInBounds i true).getD j true:=by
    have e1:r1++r2=rem.filter (· != i):=by
     rw[sk,dj,List.filter_cons];simp only[bne_self_eq_false,bt,↓reduceIte];rw[fg.2 (fun j hj=>by have:=mv j hj;simp;omega),fg.2 (fun j hj=>by have:=xz j hj;simp;omega)]
    rw[e1,n9,List.filter_filter];apply List.filter_congr;intro j hj;by_cases e:j=i
    .subst e;have:(listed.setIfInBounds j true).getD j true=true:=by
      simp[Array.getD]
     simp[this]
    .rw[sm j e];simp[e]
   refine ih (listed.setIfInBounds i true) (r1++r2) S1 a' w' G' (by simp[hsz]) Am (by rw[sk] at hlen;simp at hlen ⊢;omega) ?_ B8 ql qc ?_ (g9.trans (hk.leK B9))
   .intro j x hx qm q hq;by_cases e:j=i
    .subst e;rw[ho] at hx;cases hx;exact getD_set_true (Ak q hq)
    .rw[sm j e] at qm;exact getD_set_true (qi j x hx qm q hq)
   .intro j hj x hx;have wy:j∈rem:=by
     rw[sk];rcases ap.1 hj with h|h
     .exact ap.2 (.inl h)
     .exact ap.2 (.inr (List.mem_cons_of_mem _ h))
    have An:=hp j wy x hx;have hne:j≠i:=by
     rcases ap.1 hj with h|h
     .have:=mv j h;omega
     .have:=xz j h;omega
    unfold pM at An ⊢;split at An
    .rename_i T s ju wo;obtain⟨zs,h1,h2,h3⟩:=An;have qe:j<ops.size:=(bp.1 hx).1
     have gz:=ax.1 (ax.1 hal j (by simpa using qe)) i (by simpa using ko);rw[hx,ho] at gz;have x8:x.dst≠o.dst:=by
      simp only[ek,gr,hne,false_or,ju,kY,Bool.not_true,bt] at gz;simpa using gz
     have:=hk (base+s) (fun e=>x8 (by
      rw[wo];cases qh:o.dst with
      | none=>rw[qh] at e;cases e
      | some d =>
       rw[qh] at e;simp only[dd,ad] at e;have:s=d:=Nat.add_left_cancel e
       rw[this])) h3
     exact⟨zs,h1,by rw[this.2];exact h2,this.1⟩
    .trivial
theorem aGH{n nb base:Nat}{ops:Array Oper}{Q:Exit->Act->World->Prop}{Sf:AS}{G0:Gh}{w0:World}{b0:Bxs}(oe:aHR ops=true)(hal:gW ops=true)(lh:sZ n ops=true)(j5:base+n<=nb)(hQ:∀a' w' G',cS n nb G' Sf a' w'->LeK base G0 w0 b0 G' w' Sf.box->Q .normal a' w')(fuel:Nat)(listed:Array Bool)(rem:List Nat)(S:AS)(a:Act)(w:World)(G:Gh)(h1:listed.size=ops.size)(h2:rem=(List.range ops.size).filter (fun i=>!listed.getD i true))(h3:rem.length=fuel)(h4:∀i o,ops[i]?=some o->listed.getD i false=true->∀j∈dX o,listed.getD j false=true)(h5:lL P false base ops rem S Sf)(h6:cS n nb G S a w)(h7:∀i∈rem,∀o,ops[i]?=some o->pM P base o G S.box)(h8:LeK base G0 w0 b0 G w S.box):wpAny P .any ops Q fuel listed a w:=by
 have key:∀(i:Nat) (o:Oper),ops[i]?=some o->(∀j∈dX o,j<i)/\∀j x,ops[j]?=some x->j<i->((qI ops.toList []).getD i 0).testBit j=true∨x.apart ops o=true/\oH x o=false:=by
  intro i o ho;have ko:i<ops.size:=(bp.1 ho).1
  have gz:=ax.1 oe i (by simpa using ko);rw[ho] at gz;simp only[bd] at gz;refine⟨fun j hj=>by simpa using ax.1 gz.1 j hj,fun j x hx hj=>?_⟩;have h2:=ax.1 gz.2 j (by simpa using hj);rw[hx] at h2;simpa only[ek,bd,db] using h2
 refine uU (fun i o ho=>(key i o ho).1) (Iv:=fun _=>True) (fun _ _ _ _ _ _ _ _ _ _=>trivial) ?_ hal lh j5 hQ fuel listed rem S a w G h1 h2 h3 h4 trivial h5 h6 h7 h8;intro i j o x ho hx hj hb S S1 S2 _ g1 g2;rcases (key i o ho).2 j x hx hj with h|⟨h,h'⟩
 .rw[hb] at h;cases h
 .exact wD h h' g1 g2
def aAA(ops:Array Oper):Bool :=
 (List.range ops.size).all fun i=>(List.range ops.size).all fun j=>i==j||(match ops[i]?,ops[j]? with
  | some x,some y=>x.dst==none||x.dst != y.dst
  | _,_=>true)
def aEX(o:Op):Bool:=(gU o).isSome
def aAY(ops:Array Oper):Bool :=
 let an:=qI ops.toList []
 aAA ops&&(List.range ops.size).all fun i=>(match ops[i]? with|some o=>(dX o).all fun j=>decide (j<i)|none=>true) &&
  (List.range i).all fun j=>(an.getD i 0).testBit j||(match ops[j]?,ops[i]? with
   | some x,some y=>Oper.apart ops x y&&(!oH x y||aEX x.op&&aEX y.op)
   | _,_=>false)
def NP(x:AV):Prop:=match x with|.ptr .. => False|_=>True
def NK(x y:AV):Prop:=match x with
 | .ptr k _ _=>match y with
  | .ptr k' _ _=>k≠k'
  | _=>True
 | _=>True
theorem NK.symm{x y:AV}(h:NK x y):NK y x:=by
 cases x<;>cases y<;>simp only[NK] at h ⊢
 exact Ne.symm h
def qV:List Oper->List (Bool × Operand)
 | []=>[]
 | o::r=>match o.op with
  | .load _ p=>(false,p)::qV r
  | .store _ p _=>(true,p)::qV r
  | _=>qV r
def aID(S:AS)(b:Bool)(p:Operand):List (Bool × Operand)->Prop
 | []=>True
 | (c,q)::r=>(match b,c with|false,false=>True|_,_=>NK (S.ev p) (S.ev q))/\aID S b p r
def Far(S:AS):List (Bool × Operand)->Prop
 | []=>True
 | (b,p)::r=>aID S b p r/\Far S r
theorem aCv{S:AS}{b:Bool}{p:Operand}{l:List (Bool × Operand)}(h:aID S b p l):∀c q,(c,q)∈l->(b||c)=true->NK (S.ev p) (S.ev q):=by
 induction l with
 | nil=>intro c q hm;simp at hm
 | cons x r ih =>
  obtain⟨c0,q0⟩:=x;intro c q hm hb;simp only[aID] at h;rcases cj.1 hm with e|hm
  .cases e;have h1:=h.1;cases b<;>cases c0<;>first|exact h1|(simp at hb)
  .exact ih h.2 c q hm hb
theorem aJa{o:Oper}{p:Operand}(hp:gU o.op=some p){l:List Oper}(h:o∈l):(match o.op with|.store .. => true|_=>false,p)∈qV l:=by
 induction l with
 | nil=>simp at h
 | cons x r ih =>
  rcases cj.1 h with e|h
  .subst e;unfold qV;cases ju:o.op<;>rw[ju] at hp<;>simp only[gU,ad,reduceCtorEq] at hp
   .subst hp;simp
   .subst hp;simp
  .have:=ih h
   unfold qV;split
   .exact List.mem_cons_of_mem _ this
   .exact List.mem_cons_of_mem _ this
   .exact this
theorem aIY{S:AS}:∀{l:List Oper} {i j:Nat} {x y:Oper} {p q:Operand},Far S (qV l)->i<j->l[i]?=some x->l[j]?=some y->gU x.op=some p->gU y.op=some q->oH x y=true->NK (S.ev p) (S.ev q):=by
 intro l;induction l with
 | nil=>intro i j x y p q _ _ h;simp at h
 | cons o r ih =>
  intro i j x y p q hf pg hx hy hp hq hc;cases j with
  | zero=>omega
  | succ j =>
   cases i with
   | succ i =>
    refine ih (i:=i) (j:=j) ?_ (by omega) (by simpa using hx) (by simpa using hy) hp hq hc;unfold qV at hf;split at hf
    .exact hf.2
    .exact hf.2
    .exact hf
   | zero =>
    simp at hx;subst hx;have hm:y∈r:=eq (by simpa using hy)
    have ll:=aJa hq hm
    cases ju:o.op<;>rw[ju] at hp<;>simp only[gU,ad,reduceCtorEq] at hp
    .subst hp;unfold qV at hf;rw[ju] at hf;refine aCv hf.1 _ _ ll ?_;cases zf:y.op<;>rw[zf] at hq<;>simp only[gU,ad,reduceCtorEq] at hq
     .simp[oH,ju,zf,cls] at hc
     .rfl
    .subst hp;unfold qV at hf;rw[ju] at hf;exact aCv hf.1 _ _ ll (by simp)
def rF(ops:Array Oper)(S:AS):Prop:=∀o∈ops.toList,∀d,o.dst=some d->NP (S.tmps d)
def Ivs(Sf S:AS):Prop:=∀t,S.tmps t=Sf.tmps t∨NP (S.tmps t)
theorem aBw{ops:Array Oper}(h:aAA ops=true){i j:Nat}{x y:Oper}{d:Tmp}(hx:ops[i]?=some x)(hy:ops[j]?=some y)(h1:x.dst=some d)(h2:y.dst=some d):i=j:=by
 have hi:=(bp.1 hx).1;have hj:=(bp.1 hy).1;have:=ax.1 (ax.1 h i (by simpa using hi)) j (by simpa using hj)
 rw[hx,hy] at this;simpa[h1,h2] using this
theorem pK{base:Nat}{ops:Array Oper}{Sf:AS}{t:Tmp}:∀{rest:List Nat} {S:AS},(∀j∈rest,∀x,ops[j]?=some x->x.dst≠some t)->lL P wr base ops rest S Sf->Sf.tmps t=S.tmps t
 | [],S,_,h=>by
  have:Sf=S:=h
  rw[this]
 | j::r,S,hr,⟨x,S1,hx,h1,h2⟩=>by
  rw[pK (fun q hq=>hr q (by simp[hq])) h2];obtain⟨v,b,t',n',he,rfl⟩:=hJ.1 h1;have:=hr j (by simp) x hx
  simp only[bU];cases hd:x.dst with
  | none=>rfl
  | some d=>exact uO _ _ (fun e=>this (by rw[hd,e]))
theorem aIo{base:Nat}{ops:Array Oper}{Sf:AS}(hu:aAA ops=true)(i:Nat)(o:Oper)(S S':AS)(rest:List Nat)(ho:ops[i]?=some o)(vi:i∉rest)(jo:cH P wr base ops o S S')(jd:lL P wr base ops rest S' Sf)(r7:Ivs Sf S):Ivs Sf S':=by
 intro t;by_cases hd:o.dst=some t
 .refine .inl (pK (fun j hj x hx ve=>?_) jd).symm;have:=aBw hu ho hx hd ve
  subst this;exact vi hj
 .obtain⟨v,b,t',n',he,rfl⟩:=hJ.1 jo;have:bU S.tmps o.dst v t=S.tmps t:=by
   unfold bU;cases qh:o.dst with
   | none=>rfl
   | some d=>exact uO _ _ (fun e=>hd (by rw[qh,e]))
  show bU S.tmps o.dst v t=Sf.tmps t∨NP (bU S.tmps o.dst v t)
  rw[this];exact r7 t
theorem aEl{n nb base:Nat}{ops:Array Oper}{Q:Exit->Act->World->Prop}{Sf:AS}{G0:Gh}{w0:World}{b0:Bxs}(oe:aAY ops=true)(hal:gW ops=true)(lh:sZ n ops=true)(j5:base+n<=nb)(x9:Far Sf (qV ops.toList))(hQ:∀a' w' G',cS n nb G' Sf a' w'->LeK base G0 w0 b0 G' w' Sf.box->Q .normal a' w')(fuel:Nat)(listed:Array Bool)(rem:List Nat)(S:AS)(a:Act)(w:World)(G:Gh)(n9:rem=List.range ops.size)(t8:rF ops S)(h1:listed.size=ops.size)(h2:rem=(List.range ops.size).filter (fun i=>!listed.getD i true))(h3:rem.length=fuel)(h4:∀i o,ops[i]?=some o->listed.getD i false=true->∀j∈dX o,listed.getD j false=true)(h5:lL P false base ops rem S Sf)(h6:cS n nb G S a w)(h7:∀i∈rem,∀o,ops[i]?=some o->pM P base o G S.box)(h8:LeK base G0 w0 b0 G w S.box):wpAny P .any ops Q fuel listed a w:=by
 unfold aAY at oe;simp only[bd] at oe;obtain⟨hu,oe⟩:=oe;have key:∀(i:Nat) (o:Oper),ops[i]?=some o->(∀j∈dX o,j<i)/\∀j x,ops[j]?=some x->j<i->((qI ops.toList []).getD i 0).testBit j=true∨x.apart ops o=true/\(oH x o=false∨aEX x.op=true/\aEX o.op=true):=by
  intro i o ho;have ko:i<ops.size:=(bp.1 ho).1
  have gz:=ax.1 oe i (by simpa using ko);rw[ho] at gz;simp only[bd] at gz;refine⟨fun j hj=>by simpa using ax.1 gz.1 j hj,fun j x hx hj=>?_⟩;have h2:=ax.1 gz.2 j (by simpa using hj);rw[hx] at h2;simpa only[ek,bd,db] using h2
 have start:Ivs Sf S:=by
  intro t;by_cases hd:∃o∈ops.toList,o.dst=some t
  .obtain⟨o,ho,hd⟩:=hd;exact .inr (t8 o ho t hd)
  .refine .inl (pK (fun j _ x hx ve=>hd ⟨x,by simpa using ef hx,ve⟩) h5).symm
 refine uU (fun i o ho=>(key i o ho).1) (Iv:=Ivs Sf) (fun i o S' S'' rest ho vi jo jd r7=>aIo hu i o S' S'' rest ho vi jo jd r7) ?_ hal lh j5 hQ fuel listed rem S a w G h1 h2 h3 h4 start h5 h6 h7 h8;intro i j o x ho hx hj hb S' S1 S2 r7 g1 g2;rcases (key i o ho).2 j x hx hj with h|⟨h,h'⟩
 .rw[hb] at h;cases h
 .cases hc:oH x o with
  | false=>exact wD h hc g1 g2
  | true =>
   rcases h' with h'|⟨tx,wz⟩
   .rw[hc] at h';cases h'
   .obtain⟨p,hp⟩:=c7.1 tx;obtain⟨q,hq⟩:=c7.1 wz;have zg:=aIY x9 hj (by simpa using hx) (by simpa using ho) hp hq hc;refine tM h (fun {c0 c1 c2 s0 s1 s2 m0 m1 m2 vx vy} e1 e2=>?_) g1 g2;have back:∀(z:Operand) k i off,S'.ev z=.ptr k i off->Sf.ev z=.ptr k i off:=by
     intro z k i off hz;cases z with
     | tmp t =>
      rcases r7 t with e|e
      .exact e.symm.trans hz
      .have Dv:S'.tmps t=.ptr k i off:=hz
       rw[Dv] at e;exact e.elim
     | const c=>exact hz
     | global c=>exact hz
     | func c=>exact hz
    refine aJk hp hq (fun k i1 off k' i2 off' hk jl=>?_) e1 e2;rw[back p _ _ _ hk,back q _ _ _ jl] at zg;exact zg
variable {P:Program}
structure Cx where
 base:Nat
 nb:Nat
 n:Nat
 B0:Bxs
structure LeB (base:Nat) (G:Gh) (w:World) (G':Gh) (w':World):Prop where
 os:w'.os=w.os
 tape:w'.tape=w.tape
 output:w'.output=w.output
 size:w.heap.size<=w'.heap.size
 whole:∀b,b<w.heap.size->G.kind b=.whole->G'.kind b=.whole/\w'.heap[b]?=w.heap[b]?
 part:∀b f c,G.kind b=.part f c->(∃f',f<=f'/\G'.kind b=.part f' c)/\∀a:Addr,a.block=b->a.off<f->w'.cell? a=w.cell? a
 bx:∀k,k<base->G'.bx k=G.bx k
 nt:G.nt<=G'.nt
 tk:∀t,t<G.nt->G'.tk t=none∨(G'.tk t=G.tk t/\∀g,G.tk t=some (some g)->G'.kind g=G.kind g/\(G.kind g=.ex->w'.heap[g]?=w.heap[g]?))
 ty:∀(b:Nat) cs T f,w.heap[b]?=some (.cells cs T f)->∃cs' f',w'.heap[b]?=some (.cells cs' T f')
theorem LeK.leB{base:Nat}{G G':Gh}{w w':World}{b b':Bxs}(h:LeK base G w b G' w' b'):LeB base G w G' w' :=
 ⟨h.1.os,h.1.tape,h.1.output,h.1.size,h.1.whole,h.1.part,fun k hk=>by
  cases hg:G.bx k with
  | none=>exact(h.2 k hk hg).1
  | some x=>exact h.1.bx k x hg,h.1.nt,h.1.tk,h.1.ty⟩
theorem LeB.refl(base:Nat)(G:Gh)(w:World):LeB base G w G w:=(LeK.refl base G w fun _=>none).leB
theorem LeB.trans{base:Nat}{G1 G2 G3:Gh}{w1 w2 w3:World}(h:LeB base G1 w1 G2 w2)(k:LeB base G2 w2 G3 w3):LeB base G1 w1 G3 w3 where
 os:=k.os.trans h.os
 tape:=k.tape.trans h.tape
 output:=k.output.trans h.output
 size:=bz h.size k.size
 whole b hb hk:=by
  obtain⟨h1,h2⟩:=h.whole b hb hk;obtain⟨k1,k2⟩:=k.whole b (cn hb h.size) h1;exact⟨k1,k2.trans h2⟩
 part b f c hk:=by
  obtain⟨⟨f1,hf1,h1⟩,h2⟩:=h.part b f c hk;obtain⟨⟨f2,tg,k1⟩,k2⟩:=k.part b f1 c h1;exact⟨⟨f2,bz hf1 tg,k1⟩,fun a ha ho=>(k2 a ha (cn ho hf1)).trans (h2 a ha ho)⟩
 bx j hj:=(k.bx j hj).trans (h.bx j hj)
 nt:=bz h.nt k.nt
 tk t ht:=by
  rcases k.tk t (cn ht h.nt) with k1|⟨k1,k2⟩
  .exact .inl k1
  .rcases h.tk t ht with h1|⟨h1,h2⟩
   .exact .inl (k1.trans h1)
   .exact .inr ⟨k1.trans h1,fun g hg=>by
     obtain⟨a1,a2⟩:=h2 g hg;obtain⟨b1,b2⟩:=k2 g (h1.trans hg);exact⟨b1.trans a1,fun he=>(b2 (a1.trans he)).trans (a2 he)⟩⟩
 ty b cs T f hb:=by
  obtain⟨_,_,h1⟩:=h.ty b cs T f hb;exact k.ty b _ T _ h1
inductive bD (p q:Nat->Prop):AV->Prop
 | bot:bD p q .bot
 | d {x}:bD p q (.d x)
 | osl {sz es o} (h:∀t,o=.tok t->q t):bD p q (.osl sz es o)
 | cptr {cs off}:bD p q (.cptr cs off)
 | ptr {k i off} (h:p k):bD p q (.ptr k i off)
 | here {k T} (h:p k):bD p q (.here k T)
 | buf {E t es} (h:q t):bD p q (.buf E t es)
 | msl {k off n sz} (h:p k):bD p q (.msl k off n sz)
 | fn {f caps} (h:∀c∈caps,bD p q c):bD p q (.fn f caps)
 | agg {cs} (h:∀c∈cs,bD p q c):bD p q (.agg cs)
 | tup {cs} (h:∀c∈cs,bD p q c):bD p q (.tup cs)
 | ex {t sz es} (h:q t):bD p q (.ex t sz es)
 | stk {t sz es} (h:q t):bD p q (.stk t sz es)
 | que {t sz es} (h:q t):bD p q (.que t sz es)
 | mp {t es} (h:q t) (hs:∀e∈es,∀t',e.2.2=.tok t'->q t'):bD p q (.mp t es)
 | mpd {es}:bD p q (.mpd es)
inductive lY:D->D->Prop
 | refl {x}:lY x x
 | emp {sz sz'}:lY (.sl sz []) (.sl sz' [])
 | sl {sz:Nat} {es es':List (List D)} (hl:es.length=es'.length) (hs:∀i (h1:i<es.length) (h2:i<es'.length),es[i].length=es'[i].length)
   (h:∀i (h1:i<es.length) (h2:i<es'.length) j (g1:j<es[i].length) (g2:j<es'[i].length),lY es[i][j] es'[i][j]):lY (.sl sz es) (.sl sz es')
theorem lY.len{sz sz':Nat}{es es':List (List D)}(h:lY (.sl sz es) (.sl sz' es')):es'.length=es.length:=by
 cases h with
 | refl=>rfl
 | emp=>rfl
 | sl hl=>exact hl.symm
theorem RVd.dsub{c:Addr->Option Value}{ps:Addr->Prop}{x y:D}{v:Value}(h:lY x y)(r:RVd c ps x v):RVd c ps y v:=by
 induction h generalizing v with
 | refl=>exact r
 | emp =>
  cases r with
  | sl u iq iu hsz hA hc hr=>exact .sl (es:=[]) u iq iu (by simp) (by simp) (fun a _ i j hi _=>by simp at hi) (fun i j hi _=>by simp at hi)
 | @sl sz es es' hl hs h ih =>
  generalize hn:es.length=n at r;cases r with
  | sl u iq iu hsz hA hc hr =>
   have BA:∀e∈es',e.length=sz:=by
    intro e he;obtain⟨i,hi,rfl⟩:=bi he;have h1:i<es.length:=by omega
    rw[<-hs i h1 hi];exact hsz _ (aa h1)
   rw[hl];refine .sl u (by omega) iu BA (fun hne=>hA fun e=>hne ?_) (fun a ha i j hi hj=>hc a ha i j (by omega) hj) (fun i j hi hj=>?_)
   .subst e;simp at hl;exact bf (by simpa using hl.symm)
   .have h1:i<es.length:=by omega
    have g1:j<es[i].length:=by rw[hs i h1 hi];exact hj
    exact ih i h1 hi j g1 hj (hr i j h1 g1)
def DS1(r r':List D):Prop:=r.length=r'.length/\∀j (g1:j<r.length) (g2:j<r'.length),lY r[j] r'[j]
def DSs(es es':List (List D)):Prop:=es.length=es'.length/\∀i (h1:i<es.length) (h2:i<es'.length),DS1 es[i] es'[i]
theorem DSs.sub{es es':List (List D)}(h:DSs es es')(sz:Nat):lY (.sl sz es) (.sl sz es') :=
 .sl h.1 (fun i h1 h2=>(h.2 i h1 h2).1) fun i h1 h2 j g1 g2=>(h.2 i h1 h2).2 j g1 g2
@[simp] theorem aNh(x:D):lY x x:=.refl
@[simp] theorem aPx(s s':Nat):lY (.sl s []) (.sl s' []):=.emp
@[simp] theorem aQG:DS1 [] []:=⟨rfl,fun j h=>by simp at h⟩
@[simp] theorem aPv(r:List D):DS1 r r:=⟨rfl,fun j _ _=>.refl⟩
@[simp] theorem aPA{x y:D}{xs ys:List D}:DS1 (x::xs) (y::ys)↔lY x y/\DS1 xs ys:=by
 constructor
 .rintro⟨h1,h2⟩;exact⟨h2 0 (by simp) (by simp),by simpa using h1,fun j g1 g2=>h2 (j+1) (by simpa using g1) (by simpa using g2)⟩
 .rintro⟨h1,h2,h3⟩;refine⟨by simp[h2],fun j g1 g2=>?_⟩
  match j with
  | 0=>exact h1
  | j+1=>exact h3 j (by simpa using g1) (by simpa using g2)
theorem DSs.snoc{es:List (List D)}{r r':List D}(h:DS1 r r'):DSs (es++[r]) (es++[r']):=by
 refine⟨by simp,fun i h1 h2=>?_⟩;by_cases e:i<es.length
 .rw[bu e,bu e];simp
 .have:i=es.length:=by simp at h1;omega
  subst this;simpa using h
theorem DSs.one{r r':List D}(h:DS1 r r'):DSs [r] [r']:=DSs.snoc (es:=[]) h
inductive To (p q:Nat->Prop) (fz:Option (Nat × Nat × List (List D))):AV->AV->Prop
 | bot {x}:To p q fz x .bot
 | same {x} (h:bD p q x):To p q fz x x
 | data {sz es o}:To p q fz (.osl sz es o) (.d (.sl sz es))
 | nil {sz sz' es} (hz:sz'=0->sz=0):es=[]->To p q fz (.osl sz es .full) (.osl sz' [] .full)
 | dsub {x y} (h:lY x y):To p q fz (.d x) (.d y)
 | odsub {sz es o y} (h:lY (.sl sz es) y):To p q fz (.osl sz es o) (.d y)
 | osub {sz es sz' es'} (hz:sz'=0->sz=0) (h:lY (.sl sz es) (.sl sz' es')):To p q fz (.osl sz es .full) (.osl sz' es' .full)
 | otok {sz es es' o} (h:lY (.sl sz es) (.sl sz es')) (ho:∀t,o=.tok t->q t):To p q fz (.osl sz es o) (.osl sz es' o)
 | frz {k sz es} (h:fz=some (k,sz,es)):To p q fz (.msl k 0 es.length sz) (.d (.sl sz es))
 | agg {cs ds:List AV} (hl:cs.length=ds.length) (h:∀i (h1:i<cs.length) (h2:i<ds.length),To p q fz cs[i] ds[i]):To p q fz (.agg cs) (.agg ds)
 | tup {cs ds:List AV} (hl:cs.length=ds.length) (h:∀i (h1:i<cs.length) (h2:i<ds.length),To p q fz cs[i] ds[i]):To p q fz (.tup cs) (.tup ds)
def Gh.weak(G:Gh)(p:Nat->Prop)[DecidablePred p](b:Option Nat)(nt':Nat):Gh :=
 { bx:=fun k=>if p k then G.bx k else none,kind:=fun j=>if b=some j then .whole else G.kind j,tk:=fun t=>if t<nt' then G.tk t else none,nt:=nt' }
theorem cU{G:Gh}{w:World}{nt':Nat}{p:Nat->Prop}[DecidablePred p]{b:Option Nat}(hb:∀j,b=some j->G.kind j=.box)(a:Addr)(u:Value)(h:G.ps a)(hc:w.cell? a=some u):(G.weak p b nt').ps a/\w.cell? a=some u:=by
 refine⟨?_,hc⟩;unfold Gh.ps at h ⊢;simp only[Gh.weak];by_cases e:b=some a.block
 .simp[e]
 .simp only[e,↓reduceIte];exact h
theorem qC{G:Gh}{nt':Nat}{p:Nat->Prop}[DecidablePred p]{b:Option Nat}(hb:∀j,b=some j->G.kind j=.box){sz n:Nat}{o:Own}{v:Value}(h:sM G sz n o v)(hq:∀t,o=.tok t->t<G.nt->t<nt'):sM (G.weak p b nt') sz n o v:=by
 cases o with
 | full=>exact h
 | tok t =>
  obtain⟨h1,h2⟩:=h;have hlt:=hq t rfl h1;refine⟨hlt,fun x hx=>?_⟩;simp only[Gh.weak,hlt,↓reduceIte] at hx;have:=h2 x hx
  cases x with
  | none=>exact this
  | some g =>
   obtain⟨cap,hv,hk⟩:=this;refine⟨cap,hv,?_⟩;simp only[Gh.weak];by_cases e:b=some g
   .have:=hb g e
    rw[hk] at this;cases this
   .simp only[e,↓reduceIte];exact hk
theorem RV.weak{G:Gh}{w:World}{nt':Nat}{p q:Nat->Prop}[DecidablePred p]{b:Option Nat}(hb:∀j,b=some j->G.kind j=.box){x:AV}{v:Value}(h:RV G w x v)(ho:bD p q x)(hq:∀t,q t->t<G.nt->t<nt'):RV (G.weak p b nt') w x v:=by
 induction h with
 | bot=>exact .bot
 | d h1=>exact .d (h1.mono (cU hb))
 | osl h1 h2 =>
  cases ho with
  | osl ho=>exact .osl (h1.mono (cU hb)) (qC hb h2 fun t ht=>hq t (ho t ht))
 | ptr h1 =>
  cases ho with
  | ptr hp=>exact .ptr (by simp only[Gh.weak,hp,↓reduceIte];exact h1)
 | buf h1 h2 h3 h4 =>
  cases ho with
  | buf ho=>exact .buf (h1.mono (cU hb)) (qC hb h2 fun t ht=>hq t (by cases ht;exact ho)) (by simp only[Gh.weak];split;exact h3;exact fun e=>by cases e) (by simp only[Gh.weak];split;exact h4;exact fun g e=>by cases e)
 | here h1 h2 =>
  cases ho with
  | here hp=>exact .here (by simp only[Gh.weak,hp,↓reduceIte];exact h1) h2
 | cptr a u hc hr=>exact .cptr a u (fun j hj=>cU hb _ _ (hc j hj).1 (hc j hj).2) (fun j hj=>(hr j hj).mono (cU hb))
 | msl h1 h2 h3 =>
  cases ho with
  | msl hp=>exact .msl (by simp only[Gh.weak,hp,↓reduceIte];exact h1) h2 h3
 | fn hl _ ih =>
  cases ho with
  | fn hp=>exact .fn hl fun i h1 h2=>ih i h1 h2 (hp _ (aa h1))
 | agg hl _ jc ih =>
  cases ho with
  | agg hp=>exact .agg hl (fun i h1 h2=>ih i h1 h2 (hp _ (aa h1))) jc
 | tup hl _ ih =>
  cases ho with
  | tup hp=>exact .tup hl fun i h1 h2=>ih i h1 h2 (hp _ (aa h1))
 | ex h1 =>
  cases ho with
  | ex ho =>
   obtain⟨r1,r0,r2⟩:=h1;have hlt:=hq _ ho r1;refine .ex ⟨hlt,r0,fun x hx=>?_⟩;simp only[Gh.weak,hlt,↓reduceIte] at hx;obtain⟨g,cap,cs,e,rfl,h2,h3,h4,h5,h6,h7,h8,h9,zb⟩:=r2 x hx;refine⟨g,cap,cs,e,rfl,h2,h3,h4,?_,h6,h7,h8,fun i g1 g2=>(h9 i g1 g2).mono (cU hb),zb⟩;simp only[Gh.weak];rw[ac]
   .exact h5
   .intro e1;have:=hb g e1
    rw[h5] at this;cases this
 | stk h1 =>
  cases ho with
  | stk ho =>
   obtain⟨r1,A,cap,hv,hc1,hm,r2⟩:=h1;have hlt:=hq _ ho r1;refine .stk ⟨hlt,A,cap,hv,hc1,hm,fun x hx=>?_⟩;simp only[Gh.weak,hlt,↓reduceIte] at hx;have h0:=r2 x hx;cases x with
   | none=>exact h0
   | some g =>
    obtain⟨hA,vs,sp,e,h5,h6,h7,h8,h9⟩:=h0;refine⟨hA,vs,sp,e,?_,h6,h7,h8.mono (cU hb),h9⟩;simp only[Gh.weak];rw[ac]
    .exact h5
    .intro e1;have:=hb g e1
     rw[h5] at this;cases this
 | que h1 h2 =>
  cases ho with
  | que ho =>
   have hlt:=hq _ ho h2.1;refine .que (h1.mono (cU hb)) (h2.imp hlt fun x hx=>?_);simp only[Gh.weak,hlt,↓reduceIte] at hx;refine⟨hx,fun g _ f c hk=>?_⟩;simp only[Gh.weak];rw[ac]
   .exact hk
   .intro e1;have:=hb g e1
    rw[hk] at this;cases this
 | mp h1 =>
  cases ho with
  | mp ho hs =>
   have hlt:=hq _ ho h1.1;refine .mp (h1.imp hlt (fun e he t ht=>hq t (hs e he t ht)) (cU hb) (fun x hx=>?_) fun e he n u h2=>qC hb h2 fun t ht=>hq t (hs e he t ht));simp only[Gh.weak,hlt,↓reduceIte] at hx;refine⟨hx,fun g _ hk=>⟨?_,rfl⟩⟩;simp only[Gh.weak];rw[ac]
   .exact hk
   .intro e1;have:=hb g e1
    rw[hk] at this;cases this
 | mpd h1=>exact .mpd (h1.imp (cU hb) fun r _ hk=>⟨by simp only[Gh.weak];split;rfl;exact hk,rfl⟩)
def aN4(S:Bxs)(fz:Option (Nat × Nat × List (List D))):Prop:=∀k sz es,fz=some (k,sz,es)->∃rows,S k=some rows/\rows.length=es.length/\(∀r∈rows,r.length=sz) /\
 ∀i (h1:i<rows.length) (h2:i<es.length),yM rows[i]=some es[i]
theorem RV.to{G:Gh}{m:bF}{w:World}{nt':Nat}{p q:Nat->Prop}[DecidablePred p]{fz:Option (Nat × Nat × List (List D))}{b:Option Nat}(hm:aR G m w)(hb:∀j,b=some j->G.kind j=.box)(hfz:aN4 m.box fz)(BB:∀k sz es,fz=some (k,sz,es)->∀j s,G.bx k=some (j,s)->b=some j){x y:AV}{v:Value}(h:RV G w x v)(ht:To p q fz x y)(hq:∀t,q t->t<G.nt->t<nt'):RV (G.weak p b nt') w y v:=by
 induction ht generalizing v with
 | bot=>exact .bot
 | same ho=>exact h.weak hb ho hq
 | data =>
  cases h with
  | osl h1 h2=>exact .d (h1.mono (cU hb))
 | nil hz he =>
  subst he;cases h with
  | osl h1 h2 =>
   obtain⟨A,rfl,hA⟩:=h2;exact .osl (.sl (es:=[]) (fun _ _=>default) (nr0 _) (by decide) (by simp) (by simp) (by simp) (by simp)) ⟨A,rfl,fun e=>hA (hz e)⟩
 | dsub hd =>
  cases h with
  | d h1=>exact .d ((h1.mono (cU hb)).dsub hd)
 | odsub hd =>
  cases h with
  | osl h1 h2=>exact .d ((h1.mono (cU hb)).dsub hd)
 | osub hz hd =>
  cases h with
  | osl h1 h2 =>
   obtain⟨A,rfl,hA⟩:=h2;have h3:=(h1.mono (cU (nt':=nt') (p:=p) hb)).dsub hd;exact .osl h3 ⟨A,by rw[hd.len],fun e=>hA (hz e)⟩
 | otok hd ho =>
  cases h with
  | osl h1 h2=>exact .osl ((h1.mono (cU hb)).dsub hd) (by rw[hd.len];exact qC hb h2 fun t ht=>hq t (ho t ht))
 | @frz k sz es hf =>
  obtain⟨rows,hk,hl,p7,wo⟩:=hfz k sz es hf;generalize hn:es.length=n0 at h;cases h with
  | msl h1 h2 h3 =>
   rename_i bb cap;subst hn;obtain⟨iv,cells,e,hh,hs,hR,jc⟩:=hm.box k rows bb sz hk h1;have vj:=BB k sz es hf bb sz h1;have BC:∀e∈es,e.length=sz:=by
    intro l Dw;obtain⟨i,hi,rfl⟩:=bi Dw;have hr:=wo i (by omega) hi;have CG:RVs G w rows[i] (cells.toList.drop (i*sz) |>.take sz):=by
     have:=(hR.drop (i*sz)).take sz
     have e1:(rows.flatten.drop (i*sz)).take sz=rows[i]:=by
      have su:rows[i]?=some rows[i]:=ab (by omega)
      have hlen:rows[i].length=sz:=p7 _ (aa _)
      apply List.ext_getElem?;intro j;by_cases hj:j<sz
      .rw[eg hj,gc,gM p7 su hj]
      .rw[dx (by simp;omega),dx (by omega)]
     rw[e1] at this;exact this
    have:=(nD CG hr).1
    rw[this,<-CG.1];exact p7 _ (aa _)
   have j8:gX w.cell? (G.weak p b nt').ps sz es (some ⟨bb,0*sz,none⟩) cells.toList:=by
    constructor
    .rw[<-hR.1,dG p7,hl]
    .intro a ha q u hq;cases ha;rw[bK];refine⟨?_,?_⟩
     .simp[Gh.ps,Gh.weak,vj]
     .rw[ee w bb _ cells e (0,0) hh];simpa using hq
    .exact jc
    .exact fun _=>⟨_,rfl⟩
    .exact BC
    .intro i j hi hj;have su:rows[i]?=some rows[i]:=ab (by omega)
     have qe:j<sz:=by rw[<-BC _ (aa hi)];exact hj
     have hx:rows.flatten[i*sz+j]?=rows[i][j]?:=gM p7 su qe
     have wy:j<rows[i].length:=by rw[p7 _ (aa _)];exact qe
     rw[ab wy] at hx;obtain⟨u,hu,m7⟩:=hR.get hx;refine⟨u,hu,?_⟩;have hd:=wo i (by omega) hi;have m8:RVs G w rows[i] (rows[i].mapIdx fun q _=>cells.toList.getD (i*sz+q) default):=by
      refine⟨by simp,fun q g1 g2=>?_⟩;have hq:rows.flatten[i*sz+q]?=some rows[i][q]:=by
       rw[gM p7 su (by rw[<-p7 _ (aa _)];exact g1)];exact ab g1
      obtain⟨u',vg,qc⟩:=hR.get hq;simp only[List.getElem_mapIdx,ao,vg,du];exact qc
     have:=(nD m8 hd).2 j hj (by simp;exact wy)
     simp only[List.getElem_mapIdx,ao,hu,du] at this;exact this.mono (cU hb)
   exact .d (RVd.of_flat h2 h3 j8)
 | agg hl _ ih =>
  cases h with
  | agg kj hh jc=>exact .agg (hl.symm.trans kj) (fun i h1 h2=>ih i (by omega) h1 (hh i (by omega) h2)) jc
 | tup hl _ ih =>
  cases h with
  | tup kj hh=>exact .tup (hl.symm.trans kj) (fun i h1 h2=>ih i (by omega) h1 (hh i (by omega) h2))
variable {P:Program}
def tl:List (Nat × AV)->Nat->AV
 | [],_=>.bot
 | (i,v)::r,t=>if t=i then v else tl r t
def lk{α:Type}:List (Nat × α)->Nat->Option α
 | [],_=>none
 | (i,v)::r,t=>if t=i then some v else lk r t
def lb(base:Nat)(out:Bxs)(loc:List (Nat × List (List AV))):Bxs:=fun k=>if k<base then out k else lk loc (k-base)
theorem aKF(l:List (Nat × AV))(d:Nat)(v:AV):bU (tl l) (some d) v=tl ((d,v)::l):=by
 funext t
 simp only[bU,upd,tl]
theorem aF6(f:Nat->AV)(v:AV):bU f none v=f:=rfl
theorem aMo(t:Nat):tl [] t=.bot:=rfl
theorem jG(i:Nat)(v:AV)(r:List (Nat × AV))(t:Nat):tl ((i,v)::r) t=if t=i then v else tl r t:=rfl
theorem aMb{α:Type}(t:Nat):lk ([]:List (Nat × α)) t=none:=rfl
theorem cB{α:Type}(i:Nat)(v:α)(r:List (Nat × α))(t:Nat):lk ((i,v)::r) t=if t=i then some v else lk r t:=rfl
theorem aN(base s:Nat)(out:Bxs)(loc:List (Nat × List (List AV))):lb base out loc (base+s)=lk loc s:=by
 have h:¬(base+s<base):=by omega
 simp[lb,h]
theorem lO{base k:Nat}(h:k<base)(out:Bxs)(loc:List (Nat × List (List AV))):lb base out loc k=out k:=by
 simp[lb,h]
theorem aIK(base s:Nat)(out:Bxs)(loc:List (Nat × List (List AV)))(rows:List (List AV)):upd (lb base out loc) (base+s) (some rows)=lb base out ((s,rows)::loc):=by
 funext k
 simp only[upd,lb,lk];by_cases h:k=base+s
 .subst h;have h:¬(base+s<base):=by omega
  simp[h]
 .by_cases hk:k<base
  .simp[h,hk]
  .have:k-base≠s:=by omega
   simp[h,hk,this]
theorem uL{base k:Nat}(h:k<base)(out:Bxs)(loc:List (Nat × List (List AV)))(v:Option (List (List AV))):upd (lb base out loc) k v=lb base (upd out k v) loc:=by
 funext j
 simp only[upd,lb];by_cases hj:j=k
 .subst hj;simp[h]
 .simp[hj]
def aFf(cx:Cx)(nt0:Nat)(G0:Gh):Prop:=∀k rows,k<cx.base->cx.B0 k=some rows->G0.bx k≠none->∀r∈rows,∀x∈r,bD (· < cx.base) (· < nt0) x
theorem RV.ok{G:Gh}{w:World}{x:AV}{v:Value}{p q:Nat->Prop}(h:RV G w x v)(hp:∀k y,G.bx k=some y->p k)(hq:∀t,t<G.nt->q t):bD p q x:=by
 induction h with
 | bot=>exact .bot
 | d _=>exact .d
 | osl _ h2=>exact .osl fun t ht=>by subst ht;exact hq t h2.1
 | ptr h=>exact .ptr (hp _ _ h)
 | here h _=>exact .here (hp _ _ h)
 | buf _ h _ _=>exact .buf (hq _ h.1)
 | cptr a u hc hr=>exact .cptr
 | msl h _ _=>exact .msl (hp _ _ h)
 | fn hl _ ih=>exact .fn fun c hc=>by obtain⟨i,hi,rfl⟩:=bi hc;exact ih i hi (by omega)
 | agg hl _ _ ih=>exact .agg fun c hc=>by obtain⟨i,hi,rfl⟩:=bi hc;exact ih i hi (by omega)
 | tup hl _ ih=>exact .tup fun c hc=>by obtain⟨i,hi,rfl⟩:=bi hc;exact ih i hi (by omega)
 | ex h=>exact .ex (hq _ h.1)
 | stk h=>exact .stk (hq _ h.1)
 | que _ h=>exact .que (hq _ h.1)
 | mp h=>exact .mp (hq _ h.1) fun e he t ht=>hq t (h.2.1 e he t ht)
 | mpd=>exact .mpd
theorem bD.imp{p q p' q':Nat->Prop}{x:AV}(h:bD p q x)(hp:∀k,p k->p' k)(hq:∀t,q t->q' t):bD p' q' x:=by
 induction h with
 | bot=>exact .bot
 | d=>exact .d
 | osl h=>exact .osl fun t ht=>hq t (h t ht)
 | cptr=>exact .cptr
 | ptr h=>exact .ptr (hp _ h)
 | here h=>exact .here (hp _ h)
 | buf h=>exact .buf (hq _ h)
 | msl h=>exact .msl (hp _ h)
 | fn _ ih=>exact .fn ih
 | agg _ ih=>exact .agg ih
 | tup _ ih=>exact .tup ih
 | ex h=>exact .ex (hq _ h)
 | stk h=>exact .stk (hq _ h)
 | que h=>exact .que (hq _ h)
 | mp h hs=>exact .mp (hq _ h) fun e he t ht=>hq t (hs e he t ht)
 | mpd=>exact .mpd
theorem bD.and{p q p' q':Nat->Prop}{x:AV}(h:bD p q x)(k:bD p' q' x):bD (fun j=>p j/\p' j) (fun t=>q t/\q' t) x:=by
 induction h with
 | bot=>exact .bot
 | d=>exact .d
 | osl h=>cases k with|osl k=>exact .osl fun t ht=>⟨h t ht,k t ht⟩
 | cptr=>exact .cptr
 | ptr h=>cases k with|ptr k=>exact .ptr ⟨h,k⟩
 | here h=>cases k with|here k=>exact .here ⟨h,k⟩
 | buf h=>cases k with|buf k=>exact .buf ⟨h,k⟩
 | msl h=>cases k with|msl k=>exact .msl ⟨h,k⟩
 | fn _ ih=>cases k with|fn k=>exact .fn fun c hc=>ih c hc (k c hc)
 | agg _ ih=>cases k with|agg k=>exact .agg fun c hc=>ih c hc (k c hc)
 | tup _ ih=>cases k with|tup k=>exact .tup fun c hc=>ih c hc (k c hc)
 | ex h=>cases k with|ex k=>exact .ex ⟨h,k⟩
 | stk h=>cases k with|stk k=>exact .stk ⟨h,k⟩
 | que h=>cases k with|que k=>exact .que ⟨h,k⟩
 | mp h hs=>cases k with|mp k ks=>exact .mp ⟨h,k⟩ fun e he t ht=>⟨hs e he t ht,ks e he t ht⟩
 | mpd=>exact .mpd
def gA(p q:Nat->Prop)(fz:Option (Nat × Nat × List (List D)))(rows rows':List (List AV)):Prop :=
 rows.length=rows'.length/\∀i (h1:i<rows.length) (h2:i<rows'.length),rows[i].length=rows'[i].length/\∀j (g1:j<rows[i].length) (g2:j<rows'[i].length),To p q fz rows[i][j] rows'[i][j]
structure aIr (cx:Cx) (nt0:Nat) (out:Bxs) (loc loc':List (Nat × List (List AV))) (fz:Option (Nat × Nat × List (List D))) (S S':AS):Prop where
 hb:S.box=lb cx.base out loc
 hb':S'.box=lb cx.base out loc'
 nt:S'.nt<=S.nt
 nt0:nt0<=S'.nt
 tok:∀t,S'.tok t=true->S.tok t=true/\(S'.nt=S.nt∨t<S'.nt)
 tmps:∀t,To (fun k=>lb cx.base out loc' k≠none) (fun t=>S'.nt=S.nt∨t<S'.nt) (fz.map fun x=>(cx.base+x.1,x.2)) (S.tmps t) (S'.tmps t)
 boxes:∀s rows',lk loc' s=some rows'->∃rows,lk loc s=some rows/\gA (fun k=>lb cx.base out loc' k≠none) (fun t=>S'.nt=S.nt∨t<S'.nt) (fz.map fun x=>(cx.base+x.1,x.2)) rows rows'
 fz:∀s sz es,fz=some (s,sz,es)->lk loc' s=none/\∃rows,lk loc s=some rows/\rows.length=es.length/\(∀r∈rows,r.length=sz)/\∀i (h1:i<rows.length) (h2:i<es.length),yM rows[i]=some es[i]
 out:∀k rows,k<cx.base->out k=some rows->cx.B0 k=some rows∨∀r∈rows,∀x∈r,bD (fun k=>lb cx.base out loc' k≠none) (fun t=>S'.nt=S.nt∨t<S'.nt) x
theorem aI5{α:Type}{sz:Nat}:∀{rows rows':List (List α)},(∀r∈rows,r.length=sz)->rows.length=rows'.length->(∀i (h1:i<rows.length) (h2:i<rows'.length),rows[i].length=rows'[i].length)->∀r∈rows',r.length=sz:=by
 intro rows rows' hs hl h r hr;obtain⟨i,hi,rfl⟩:=bi hr;rw[<-h i (by omega) hi];exact hs _ (aa _)
theorem aIr.sound{cx:Cx}{nt0:Nat}{out:Bxs}{loc loc':List (Nat × List (List AV))}{fz:Option (Nat × Nat × List (List D))}{S S':AS}(h:aIr cx nt0 out loc loc' fz S S'){G0 G:Gh}{w0 w:World}{a:Act}(he:aFf cx nt0 G0)(g9:LeB cx.base G0 w0 G w)(hr:cS cx.n cx.nb G S a w)(Ao:G0.nt<=nt0):∃G',cS cx.n cx.nb G' S' a w/\LeB cx.base G0 w0 G' w /\
   ∀{x y:AV} {v:Value},RV G w x v->To (fun k=>lb cx.base out loc' k≠none) (fun t=>S'.nt=S.nt∨t<S'.nt) (fz.map fun x=>(cx.base+x.1,x.2)) x y->RV G' w y v:=by
 have hm:=hr.mem
 let p:Nat->Prop:=fun k=>lb cx.base out loc' k≠none
 letI:DecidablePred p:=fun _=>Classical.propDecidable _
 let q:Nat->Prop:=fun t=>S'.nt=S.nt∨t<S'.nt
 have hGnt:G.nt=S.nt:=hm.nt
 have hq:∀t,q t->t<G.nt->t<S'.nt:=by
  intro t ht hlt;rcases ht with h1|h1
  .omega
  .exact h1
 -- the frozen block
 let b:Option Nat:=fz.bind fun x=>(G.bx (cx.base+x.1)).map (·.1)
 have hb:∀j,b=some j->G.kind j=.box:=by
  intro j hj;obtain⟨x,_,hj⟩:=dp.1 hj;obtain⟨⟨j',s'⟩,h1,rfl⟩:=cr.1 hj;exact(hm.blt h1).2
 have hfz:aN4 S.box (fz.map fun x=>(cx.base+x.1,x.2)):=by
  intro k sz es hk;obtain⟨⟨s,sz',es'⟩,hf,hx⟩:=cr.1 hk;simp only[aq] at hx;obtain⟨rfl,rfl,rfl⟩:=hx;obtain⟨_,rows,h1,h2⟩:=h.fz s sz' es' hf;exact⟨rows,by rw[h.hb,aN];exact h1,h2⟩
 have BB:∀k sz es,(fz.map fun x=>(cx.base+x.1,x.2))=some (k,sz,es)->∀j s,G.bx k=some (j,s)->b=some j:=by
  intro k sz es hk j s hj;obtain⟨⟨s0,sz',es'⟩,hf,hx⟩:=cr.1 hk;simp only[aq] at hx;obtain⟨rfl,rfl,rfl⟩:=hx;simp only[b,hf,hj,dd,ew]
 have hto:∀{x y:AV} {v:Value},RV G w x v->To p q (fz.map fun x=>(cx.base+x.1,x.2)) x y->RV (G.weak p b S'.nt) w y v :=
  fun hx ht=>RV.to (m:=⟨S.box,cx.nb,S.tok,S.nt⟩) hm hb hfz BB hx ht hq
 -- a box that stays is not the frozen one
 have hne:∀k j s,p k->G.bx k=some (j,s)->b≠some j:=by
  intro k j s hp hk e;obtain⟨⟨s0,sz,es⟩,hf,e⟩:=dp.1 e;obtain⟨⟨j',s'⟩,h1,h2⟩:=cr.1 e;simp only at h2;subst h2;have i4:=hm.inj k (cx.base+s0) j' s s' hk h1;subst i4;have:=(h.fz s0 sz es hf).1
  exact hp (by rw[aN];exact this)
 have hpS:∀k,p k->∃rows',S'.box k=some rows':=by
  intro k hp;cases hk:S'.box k with
  | none=>exact absurd (by rw[<-h.hb'];exact hk) hp
  | some r=>exact⟨r,rfl⟩
 have CH:∀a u,G.ps a->w.cell? a=some u->(G.weak p b S'.nt).ps a/\w.cell? a=some u:=fun a u h1 h2=>cU hb a u h1 h2
 refine⟨G.weak p b S'.nt,⟨hr.defers,hr.size,fun t=>hto (hr.tmps t) (h.tmps t),?_⟩,?_,hto⟩
 .constructor
  case box =>
   intro k rows' j sz hk hj;simp only[Gh.weak] at hj;split at hj
   .rename_i hp;by_cases iv:k<cx.base
    .have jl:out k=some rows':=by
      simp only at hk;rw[h.hb',lO iv] at hk;exact hk
     have ua:S.box k=some rows':=by rw[h.hb,lO iv];exact jl
     obtain⟨h1,cs,e,h2,h3,h4,h5⟩:=hm.box k rows' j sz ua hj;refine⟨?_,cs,e,h2,h3,?_,h5⟩
     .simp only[Gh.weak,hne k j sz hp hj,↓reduceIte];exact h1
     .refine⟨h4.1,fun i g1 g2=>?_⟩;have p8:=h4.2 i g1 g2;refine hto p8 (.same ?_);have i5:rows'.flatten[i]∈rows'.flatten:=aa _
      obtain⟨r,vk,zh⟩:=f8.1 i5;rcases h.out k rows' iv jl with h6|h6
      .have ub:G0.bx k≠none:=by rw[<-g9.bx k iv,hj];simp
       have Bd:=he k rows' iv h6 ub r vk _ zh;have p9:bD (fun k=>∃y,G.bx k=some y) (fun t=>t<G.nt) rows'.flatten[i]:=p8.ok (fun k y hy=>⟨y,hy⟩) (fun t ht=>ht)
       refine(Bd.and p9).imp (fun k' jl=>?_) (fun t ht=>?_)
       .obtain⟨hlt,y,hy⟩:=jl;intro mg;rw[lO hlt] at mg;have:S.box k'=none:=by rw[h.hb,lO hlt];exact mg
        rw[hm.nobox k' this] at hy;cases hy
       .exact .inr (cn ht.1 h.nt0)
      .exact h6 r vk _ zh
    .have i4:k=cx.base+(k-cx.base):=by omega
     simp only at hk;rw[h.hb',i4,aN] at hk;obtain⟨rows,h1,h2,h3⟩:=h.boxes _ rows' hk;have ua:S.box k=some rows:=by rw[h.hb,i4,aN];exact h1
     obtain⟨g1,cs,e,g2,g3,g4,g5⟩:=hm.box k rows j sz ua hj;have o9:=aI5 g3 h2 (fun i a b=>(h3 i a b).1)
     refine⟨?_,cs,e,g2,o9,?_,g5⟩
     .simp only[Gh.weak,hne k j sz hp hj,↓reduceIte];exact g1
     .have hlen:rows'.flatten.length=rows.flatten.length:=by rw[dG o9,dG g3,h2]
      refine⟨hlen.trans g4.1,fun i a1 a2=>?_⟩;have lc:0<sz:=by
       rcases Nat.eq_zero_or_pos sz with e0|e0
       .subst e0;rw[dG o9] at a1;simp at a1
       .exact e0
      have hi:i<rows'.length*sz:=by rw[<-dG o9];exact a1
      have hd:i / sz<rows'.length:=(Nat.div_lt_iff_lt_mul lc).2 hi
      have vn:i % sz<sz:=Nat.mod_lt _ lc
      have vo:i / sz*sz+i % sz=i:=by rw[Nat.mul_comm];exact Nat.div_add_mod i sz
      have e1:rows'.flatten[i]?=rows'[i / sz][i % sz]?:=by
       have:=gM o9 (ab hd) vn
       rw[vo] at this;exact this
      have e2:rows.flatten[i]?=(rows[i / sz]'(by omega))[i % sz]?:=by
       have:=gM g3 (ab (by omega:i / sz<rows.length)) vn
       rw[vo] at this;exact this
      have CJ:i % sz<rows'[i / sz].length:=by rw[o9 _ (aa _)];exact vn
      have ya:i % sz<(rows[i / sz]'(by omega)).length:=by rw[g3 _ (aa _)];exact vn
      rw[ab a1,ab CJ] at e1;rw[ab (by omega),ab ya] at e2;have hx:=g4.2 i (by omega) a2;rw[Option.some.inj e2] at hx;rw[Option.some.inj e1];exact hto hx ((h3 (i / sz) (by omega) hd).2 (i % sz) ya CJ)
   .cases hj
  case nobox =>
   intro k hk;simp only[Gh.weak];rw[ac];intro hp;exact hp (by rw[<-h.hb'];exact hk)
  case inj =>
   intro k k' j s s' hk jl;simp only[Gh.weak] at hk jl;split at hk
   .split at jl
    .exact hm.inj k k' j s s' hk jl
    .cases jl
   .cases hk
  case nb =>
   intro k hk;cases ua:S'.box k with
   | none=>exact ua
   | some rows' =>
    exfalso
    have hS:=hm.nb k hk;simp only at hS;rw[h.hb] at hS;rw[h.hb'] at ua;by_cases iv:k<cx.base
    .rw[lO iv] at hS ua;rw[hS] at ua;cases ua
    .have i4:k=cx.base+(k-cx.base):=by omega
     rw[i4,aN] at hS ua;obtain⟨rows,h1,_⟩:=h.boxes _ rows' ua;rw[hS] at h1;cases h1
  case nt=>rfl
  case toks =>
   intro t ht;obtain⟨h1,h2⟩:=h.tok t ht;obtain⟨h3,x,h4⟩:=hm.toks t h1;have hlt:t<S'.nt:=by
    rcases h2 with h2|h2
    .simp only at h3;omega
    .exact h2
   exact⟨hlt,x,by simp only[Gh.weak,hlt,↓reduceIte];exact h4⟩
  case tokb =>
   intro t g ht;simp only[Gh.weak] at ht;split at ht
   .obtain⟨f,cur,e,h1,h2⟩:=hm.tokb t g ht;refine⟨f,cur,e,?_,h2⟩;simp only[Gh.weak];rw[ac]
    .exact h1
    .intro e1;have:=hb g e1
     rw[this] at h1;rcases h1 with ⟨h1,_⟩|h1<;>cases h1
   .cases ht
  case tinj =>
   intro t t' g ht k9;simp only[Gh.weak] at ht k9;split at ht
   .split at k9
    .exact hm.tinj t t' g ht k9
    .cases k9
   .cases ht
  case tnt =>
   intro t x ht;simp only[Gh.weak] at ht ⊢;split at ht
   .assumption
   .cases ht
  case glob=>exact hm.glob.mono CH
  case fresh =>
   intro j hj;simp only[Gh.weak];split
   .rfl
   .exact hm.fresh j hj
 .refine⟨g9.os,g9.tape,g9.output,g9.size,fun j hj hk=>⟨?_,(g9.whole j hj hk).2⟩,fun j f c hk=>?_,fun k hk=>?_,bz Ao h.nt0,fun t ht=>?_,g9.ty⟩
  .simp only[Gh.weak];split
   .rfl
   .exact(g9.whole j hj hk).1
  .obtain⟨⟨f',mf,h1⟩,h2⟩:=g9.part j f c hk;refine⟨⟨f',mf,?_⟩,h2⟩;simp only[Gh.weak];rw[ac]
   .exact h1
   .intro e;have:=hb j e
    rw[h1] at this;cases this
  .rw[<-g9.bx k hk];simp only[Gh.weak];split
   .rfl
   .rename_i hp;cases hg:G.bx k with
    | none=>rfl
    | some y =>
     exfalso
     apply hp;intro mg;rw[lO hk] at mg;have:S.box k=none:=by rw[h.hb,lO hk];exact mg
     rw[hm.nobox k this] at hg;cases hg
  .have hlt:t<S'.nt:=cn ht (bz Ao h.nt0)
   rcases g9.tk t ht with h1|⟨h1,h2⟩
   .exact .inl (by simp only[Gh.weak,hlt,↓reduceIte];exact h1)
   .refine .inr ⟨by simp only[Gh.weak,hlt,↓reduceIte];exact h1,fun g hg=>?_⟩;have qy:G.tk t=some (some g):=h1.trans hg
    obtain⟨f,cur,e,h3,_⟩:=hm.tokb t g qy;simp only[Gh.weak];rw[ac]
    .exact h2 g hg
    .intro e1;have:=hb g e1
     rw[this] at h3;rcases h3 with ⟨h3,_⟩|h3<;>cases h3
variable {P:Program}
def LeC(cx:Cx)(G0:Gh)(w0:World)(G:Gh)(w:World)(S:AS):Prop:=LeB cx.base G0 w0 G w/\∀k,k<cx.base->G0.bx k=none->S.box k=cx.B0 k
theorem LeC.step{cx:Cx}{G0 G G':Gh}{w0 w w':World}{S S':AS}(h:LeC cx G0 w0 G w S)(k:LeK cx.base G w S.box G' w' S'.box):LeC cx G0 w0 G' w' S' :=
 ⟨h.1.trans k.leB,fun j hj hg=>((k.2 j hj (by rw[h.1.bx j hj];exact hg)).2).trans (h.2 j hj hg)⟩
def AT(P:Program)(cx:Cx)(nt0:Nat)(c:Code)(S:AS)(K:Exit->AS->Prop):Prop :=
 ∀G0 w0,aFf cx nt0 G0->G0.nt<=nt0->∀G a w,cS cx.n cx.nb G S a w->LeC cx G0 w0 G w S ->
  c.wp P (fun e a' w'=>∃S' G',K e S'/\cS cx.n cx.nb G' S' a' w'/\LeC cx G0 w0 G' w' S') a w
theorem AT.mono{cx:Cx}{nt0:Nat}{c:Code}{S:AS}{K K':Exit->AS->Prop}(h:AT P cx nt0 c S K)(hk:∀e S,K e S->K' e S):AT P cx nt0 c S K' :=
 fun G0 w0 he hn G a w hr hl=>wp_mono (h G0 w0 he hn G a w hr hl) fun e a' w' ⟨S',G',h1,h2⟩=>⟨S',G',hk _ _ h1,h2⟩
theorem AT.weak{cx:Cx}{nt0:Nat}{c:Code}{S S':AS}{K:Exit->AS->Prop}{out:Bxs}{loc loc':List (Nat × List (List AV))}{fz:Option (Nat × Nat × List (List D))}(h:aIr cx nt0 out loc loc' fz S S')(k:AT P cx nt0 c S' K):AT P cx nt0 c S K:=by
 intro G0 w0 he hn G a w hr hl;obtain⟨G',qc,kj,_⟩:=h.sound he hl.1 hr hn;exact k G0 w0 he hn G' a w qc ⟨kj,fun j hj hg=>by rw[<-hl.2 j hj hg,h.hb',h.hb,lO hj,lO hj]⟩
def bB(cx:Cx)(nt0:Nat)(S S':AS):Prop:=∃out loc loc' fz,aIr cx nt0 out loc loc' fz S S'
theorem AT.weaks{cx:Cx}{nt0:Nat}{c:Code}{S S':AS}{K:Exit->AS->Prop}(h:bB cx nt0 S S')(k:AT P cx nt0 c S' K):AT P cx nt0 c S K:=by
 obtain⟨_,_,_,_,h⟩:=h;exact AT.weak h k
def cO(o:Oper)(ρ:Operand->AV):Option (FuncId × List AV):=match o.op with
 | .call c=>match c.callee with
  | .value f=>match ρ f with
   | .fn (.func fid) caps=>some (fid,c.args.toList.map ρ++caps)
   | _=>none
  | _=>none
 | _=>none
def rU(P:Program)(o:Oper)(ρ:Operand->AV):Option (Bool × List (List D)):=match o.op with
 | .binOp op T x y _=>match aF P T with
  | some _=>match y with
   | .const (.slice none 0 0)=>match ρ x with
    | .d (.raw (.slice none 0 0))=>match op with
     | .eql=>some (false,[[]])
     | .neq=>some (true,[[]])
     | _=>none
    | xa=>match xa.elems? with
     | some (_,es)=>match op with
      | .eql=>some (true,es)
      | .neq=>some (false,es)
      | _=>none
     | none=>none
   | _=>none
  | none=>none
 | _=>none
theorem lD(d:Nat){T E:TypeId}(h:P.underlying T=some (.slice E))(A:Option Addr)(n c:Nat)(w:World):(Op.equalIn (d+1) T (.slice A n c) (.slice none 0 0)).run P w=.ok A.isNone w:=by
 cases A<;>simp[Op.equalIn,bm h]
theorem tN{T E:TypeId}(h:P.underlying T=some (.slice E))(A:Option Addr)(n c:Nat)(w:World):(binOp .eql T (.slice A n c) (.slice none 0 0)).run P w=.ok (.bool A.isNone) w:=by
 have:=lD 9999 h A n c w
 simp only[binOp,Op.equal,Op.maxDepth,aw,this,aj,ay]
theorem sO{T E:TypeId}(h:P.underlying T=some (.slice E))(A:Option Addr)(n c:Nat)(w:World):(binOp .neq T (.slice A n c) (.slice none 0 0)).run P w=.ok (.bool (!A.isNone)) w:=by
 have:=lD 9999 h A n c w
 simp only[binOp,Op.equal,Op.maxDepth,aw,this,aj,ay]
theorem aF1{o:Oper}{ρ:Operand->AV}{ρv:Operand->Value}{G:Gh}{w:World}{t:Bool}{es:List (List D)}(h:rU P o ρ=some (t,es))(qv:∀v,ρv (.const v)=v)(hρ:∀x∈o.op.operands,RV G w (ρ x) (ρv x)):
  ∃b,(es≠[]->b=!t)/\(execOp ρv o).run P w=.ok (.value (.bool b)) w:=by
 unfold rU at h;split at h
 .rename_i op T x y T' ho;split at h
  .rename_i E hE;have hu:P.underlying T=some (.slice E):=by
    unfold aF at hE;split at hE
    .cases hE;assumption
    .cases hE
   split at h
   .split at h
    .rename_i xr;have hx:=hρ x (by rw[ho];simp[Op.operands]);rw[xr] at hx;generalize hv:ρv x=xv at hx;cases hx with
     | d hx =>
      cases hx with
      | raw _ =>
       have he:∀op x y,(eqGuard op T x y (.slice none 0 0) (.slice none 0 0)).run P w=.ok () w:=fun op x y=>by cases op<;>rfl
       split at h
       .cases h;refine⟨true,fun _=>rfl,?_⟩;simp only[execOp,ho,hv,qv,aw,he,aj,tN hu,ay,Option.isNone_none]
       .cases h;refine⟨false,fun _=>rfl,?_⟩;simp only[execOp,ho,hv,qv,aw,he,aj,sO hu,ay,Option.isNone_none,Bool.not_true]
       .cases h
    .split at h
     .rename_i sz es' zj;have hx:=(hρ x (by rw[ho];simp[Op.operands])).elems zj;generalize hv:ρv x=xv at hx;cases hx with
      | sl u iq iu hsz hA hc hr =>
       rename_i A cap;split at h
       .cases h;refine⟨A.isNone,fun hne=>?_,?_⟩
        .obtain⟨a,rfl⟩:=hA hne;rfl
        .have he:∀op x y,(eqGuard op T x y (.slice A es.length cap) (.slice none 0 0)).run P w=.ok () w:=fun op x y=>by cases op<;>rfl
         simp only[execOp,ho,hv,qv,aw,he,aj,tN hu,ay]
       .cases h;refine⟨!A.isNone,fun hne=>?_,?_⟩
        .obtain⟨a,rfl⟩:=hA hne;rfl
        .have he:∀op x y,(eqGuard op T x y (.slice A es.length cap) (.slice none 0 0)).run P w=.ok () w:=fun op x y=>by cases op<;>rfl
         simp only[execOp,ho,hv,qv,aw,he,aj,sO hu,ay]
       .cases h
     .cases h
   .cases h
  .cases h
 .cases h
def Op1(P:Program)(cx:Cx)(o:Oper)(S:AS)(K:AS->Prop):Prop:=match cO o S.ev with
 | some (fid,args)=>aC P fid args ⟨S.box,cx.nb,S.tok,S.nt⟩ fun v m'=>K ⟨bU S.tmps o.dst v,m'.box,m'.tok,m'.nt⟩
 | none=>(∃S1,yI P false cx.base o S S1/\K S1)∨∃t es,rU P o S.ev=some (t,es)/\∀b,(es≠[]->b=!t)->K ⟨bU S.tmps o.dst (.d (.raw (.bool b))),S.box,S.tok,S.nt⟩
def lM(P:Program)(cx:Cx)(ops:Array Oper):List Oper->AS->(AS->Prop)->Prop
 | [],S,K=>K S
 | o::r,S,K=>match o.guard with
  | none=>Op1 P cx o S fun S1=>lM P cx ops r S1 K
  | some (j,want)=>match dN ops S j with
   | some b=>(b=some want->Op1 P cx o S fun S1=>lM P cx ops r S1 K)/\(b≠some want->lM P cx ops r { S with tmps:=bU S.tmps o.dst (.tup []) } K)
   | none=>False
def aD6(P:Program)(base:Nat):List Oper->(Bxs)->((Bxs)->Prop)->Prop
 | [],b,K=>K b
 | o::r,b,K=>match o.op,o.dst with
  | .alloc T,some s=>match aH P T with
   | some zs=>b (base+s)=none/\aD6 P base r (upd b (base+s) (some [tP (base+s) T zs])) K
   | none=>False
  | _,_=>aD6 P base r b K
def qW(P:Program)(cx:Cx)(ops:Array Oper)(draw:Bool)(S:AS)(K:AS->Prop):Prop :=
 aD6 P cx.base ops.toList S.box fun b=>match draw with
  | true=>∃S',aEr P false cx.base ops ops.toList { S with box:=b } S'/\K S'
  | false=>lM P cx ops ops.toList { S with box:=b } K
theorem aR.pre{G:Gh}{m:bF}{w:World}(h:aR G m w){k:Nat}(hk:m.box k=none)(j5:k<m.nb)(rows:List (List AV)):aR G { m with box:=upd m.box k (some rows) } w:=by
 have mu:=h.nobox k hk;constructor
 case box =>
  intro j rs b sz hj hb;by_cases e:j=k
  .subst e;rw[mu] at hb;cases hb
  .simp only at hj;rw[uO _ _ e] at hj;exact h.box j rs b sz hj hb
 case nobox =>
  intro j hj;by_cases e:j=k
  .subst e;exact mu
  .simp only at hj;rw[uO _ _ e] at hj;exact h.nobox j hj
 case inj=>exact h.inj
 case nb =>
  intro j hj;simp only at hj ⊢;rw[uO _ _ (by omega)];exact h.nb j hj
 case nt=>exact h.nt
 case toks=>exact h.toks
 case tokb=>exact h.tokb
 case tinj=>exact h.tinj
 case tnt=>exact h.tnt
 case glob=>exact h.glob
 case fresh=>exact h.fresh
def aDQ(base:Nat)(l:List Oper):List Nat:=l.filterMap fun o=>match o.op,o.dst with
 | .alloc _,some s=>some (base+s)
 | _,_=>none
theorem lB{base n nb:Nat}(j5:base+n<=nb){K:(Bxs)->Prop}:∀(l:List Oper) (b0:Bxs) {G:Gh} {S:AS} {a:Act} {w:World},cS n nb G { S with box:=b0 } a w ->
  (∀o∈l,∀d,o.dst=some d->d<n)->(l.filterMap fun o=>match o.op,o.dst with|.alloc _,some s=>some (base+s)|_,_=>none).Nodup->aD6 P base l b0 K ->
  ∃b,K b/\cS n nb G { S with box:=b } a w/\(∀o∈l,pM P base o G b)/\∀k,k∉aDQ base l->b k=b0 k
 | [],b0,G,S,a,w,hr,_,_,h=>⟨b0,h,hr,by simp,fun _ _=>rfl⟩
 | o::l,b0,G,S,a,w,hr,hd,hnd,h=>by
  unfold aD6 at h;split at h
  .rename_i T s ju hs;split at h
   .rename_i zs hz;obtain⟨h1,h2⟩:=h;have hlt:base+s<nb:=cn (Nat.add_lt_add_left (hd o (by simp) s hs) base) j5
    have mu:=hr.mem.nobox _ h1;have qc:cS n nb G { S with box:=upd b0 (base+s) (some [tP (base+s) T zs]) } a w:=⟨hr.defers,hr.size,hr.tmps,hr.mem.pre h1 hlt _⟩
    have qk:=hnd
    simp only[List.filterMap_cons,ju,hs,List.nodup_cons] at qk;obtain⟨b,k1,k2,k3,k4⟩:=lB j5 l _ qc (fun o ho=>hd o (by simp[ho])) qk.2 h2;have hb:b (base+s)=some [tP (base+s) T zs]:=by
     rw[k4 _ qk.1,uS]
    refine⟨b,k1,k2,fun o' ho'=>?_,fun k hk=>?_⟩
    .rcases cj.1 ho' with rfl|ho'
     .unfold pM;rw[ju,hs];exact⟨zs,hz,hb,mu⟩
     .exact k3 o' ho'
    .simp only[aDQ,List.filterMap_cons,ju,hs,cj,not_or] at hk;rw[k4 k hk.2,uO _ _ hk.1]
   .exact h.elim
  .rename_i jq;have qk:(l.filterMap fun o=>match o.op,o.dst with|.alloc _,some s=>some (base+s)|_,_=>none).Nodup:=by
    rw[List.filterMap_cons] at hnd;split at hnd
    .exact hnd
    .exact(List.nodup_cons.1 hnd).2
   obtain⟨b,k1,k2,k3,k4⟩:=lB j5 l b0 hr (fun o ho=>hd o (by simp[ho])) qk h;refine⟨b,k1,k2,fun o' ho'=>?_,fun k hk=>?_⟩
   .rcases cj.1 ho' with rfl|ho'
    .unfold pM;split
     .rename_i T s g1 g2;exact absurd g2 (fun e=>jq T s g1 e)
     .trivial
    .exact k3 o' ho'
   .refine k4 k fun jl=>hk ?_
    simp only[aDQ,List.mem_filterMap] at jl ⊢;obtain⟨x,hx,he⟩:=jl;exact⟨x,List.mem_cons_of_mem _ hx,he⟩
theorem oL{base:Nat}{ops:Array Oper}(h:gW ops=true):(ops.toList.filterMap fun o=>match o.op,o.dst with|.alloc _,some s=>some (base+s)|_,_=>none).Nodup:=by
 have key:∀(l:List Oper) (k:Nat),ops.toList.drop k=l->(l.filterMap fun o=>match o.op,o.dst with|.alloc _,some s=>some (base+s)|_,_=>none).Nodup:=by
  intro l;induction l with
  | nil=>intro k _;simp
  | cons o l ih =>
   intro k hk;have hl:ops.toList.drop (k+1)=l:=by
    have:=fp List.tail hk
    simpa[List.tail_drop] using this
   have ho:ops.toList[k]?=some o:=by
    have:=fp (·[0]?) hk
    simpa using this
   have BD:k<ops.size:=by
    have:=(a8.1 ho).1
    simpa using this
   rw[List.filterMap_cons];split
   .exact ih (k+1) hl
   .rename_i y hy;refine List.nodup_cons.2 ⟨fun hm=>?_,ih (k+1) hl⟩;obtain⟨o',ho',vh⟩:=List.mem_filterMap.1 hm;obtain⟨j,hj,rfl⟩:=bi ho';have Ap:ops[k+1+j]?=some l[j]:=by
     have:ops.toList[k+1+j]?=some l[j]:=by
      rw[<-List.getElem?_drop,hl];exact ab hj
     simpa using this
    have qe:=(bp.1 Ap).1;have ms:ops[k]?=some o:=by simpa using ho
    have:=ax.1 (ax.1 h k (by simpa using BD)) (k+1+j) (by simpa using qe)
    rw[ms,Ap] at this;have hne:¬k=k+1+j:=by omega
    split at hy
    .rename_i T s g1 g2;split at vh
     .rename_i T' s' g1' g2';have:s=s':=Nat.add_left_cancel ((Option.some.inj hy).trans (Option.some.inj vh).symm)
      simp[hne,g1,kY,g2,g2',this] at *
     .cases vh
    .cases hy
 exact key ops.toList 0 rfl
theorem oX{cx:Cx}{ops:Array Oper}{Q:Exit->Act->World->Prop}{G0:Gh}{w0:World}{K:AS->Prop}(lh:∀(o:Oper) d,o∈ops->o.dst=some d->d<cx.n)(j5:cx.base+cx.n<=cx.nb)(hal:gW ops=true)(hQ:∀S a' w' G',K S->cS cx.n cx.nb G' S a' w'->LeC cx G0 w0 G' w' S->Q .normal a' w'):∀(l:List Oper) (k:Nat) (S:AS) (a:Act) (w:World) (G:Gh),ops.toList.drop k=l ->
  (∀o∈l,pM P cx.base o G S.box)->cS cx.n cx.nb G S a w->LeC cx G0 w0 G w S->lM P cx ops l S K->wpOps P ops Q (List.range' k l.length) a w
 | [],k,S,a,w,G,_,_,hr,hl,h=>by
  simp only[c8,List.range'_zero,wpOps];exact hQ S a w G h hr hl
 | o::l,k,S,a,w,G,hk,hp,hr,hl,h=>by
  have kj:ops.toList.drop (k+1)=l:=by
   have:=fp List.tail hk
   simpa[List.tail_drop] using this
  have ho:ops[k]?=some o:=by
   have:=fp (·[0]?) hk
   have h1:ops.toList[k]?=some o:=by simpa using this
   simpa using h1
  have Dy:o∈ops:=ef ho
  have rz:∀d,o.dst=some d->d<cx.n:=fun d hd=>lh o d Dy hd
  simp only[ce,List.range'_succ];rw[wpOps_cons]
  -- what is left,from a later state on
  have rest:∀S1 a1 w1 G1,lM P cx ops l S1 K->cS cx.n cx.nb G1 S1 a1 w1->LeC cx G0 w0 G1 w1 S1->aGO cx.base o G G1 S.box S1.box->wpOps P ops Q (List.range' (k+1) l.length) a1 w1:=by
   intro S1 a1 w1 G1 h1 r9 ma p9;refine oX lh j5 hal hQ l (k+1) S1 a1 w1 G1 kj (fun o' ho'=>?_) r9 ma h1;have BE:=hp o' (by simp[ho']);unfold pM at BE ⊢;split at BE
   .rename_i T s ju wo;obtain⟨zs,g1,g2,g3⟩:=BE;obtain⟨j,hj,rfl⟩:=bi ho';have Ap:ops[k+1+j]?=some l[j]:=by
     have:ops.toList[k+1+j]?=some l[j]:=by
      rw[<-List.getElem?_drop,kj];exact ab hj
     simpa using this
    have qe:=(bp.1 Ap).1;have BD:=(bp.1 ho).1;have gz:=ax.1 (ax.1 hal (k+1+j) (by simpa using qe)) k (by simpa using BD);rw[Ap,ho] at gz;have hne:¬k+1+j=k:=by omega
    have x8:l[j].dst≠o.dst:=by
     simp only[ek,gr,hne,false_or,ju,kY,Bool.not_true,bt] at gz;simpa using gz
    have:=p9 (cx.base+s) (fun e=>x8 (by
     rw[wo];cases qh:o.dst with
     | none=>rw[qh] at e;cases e
     | some d =>
      rw[qh] at e;simp only[dd,ad] at e;have:s=d:=Nat.add_left_cancel e
      rw[this])) g3
    exact⟨zs,g1,by rw[this.2];exact g2,this.1⟩
   .trivial
  -- one operation
  have one:Op1 P cx o S (fun S1=>lM P cx ops l S1 K)->o.wp P a w (wpOps P ops Q (List.range' (k+1) l.length)) Q:=by
   intro h1;unfold Op1 at h1;split at h1
   .rename_i fid args my;unfold cO at my;split at my
    .rename_i c ju;split at my
     .rename_i f ik;split at my
      .rename_i fid' caps hf;simp only[ad,aq] at my;obtain⟨rfl,rfl⟩:=my;obtain⟨qg,hc⟩:=h1;have qw:=hr.ev f;rw[hf] at qw;generalize hv:a.eval f=fv at qw;cases qw with
       | fn hlen hh =>
        rename_i cvs;have hargs:RVs G w (c.args.toList.map S.ev++caps) ((c.args.map a.eval).toList++cvs):=by
         refine RVs.append ⟨by simp,fun i h1 h2=>?_⟩ ⟨hlen,hh⟩;simp only[bj,fl];exact hr.ev _
        have n8:=hc G w _ hr.mem hargs;unfold Oper.wp;have jv:(execOp a.eval o).run P w=.ok (.enter fid' ((c.args.map a.eval).toList++cvs).toArray) w:=by
         have e:((c.args.map a.eval).toList++cvs).toArray = #[]++c.args.map a.eval++cvs.toArray:=by simp
         simp only[execOp,ju,resolve,ik,hv,Deferred.ofValue,aw,ay,aj,invoke,e];exact qg _ w
        rw[jv];refine Calls.mono n8 fun e w' ⟨u,av,m',G',g1,g2,g3,g4,g5,g6,g7⟩=>?_
        subst g1;have qa:aR G' ⟨m'.box,cx.nb,m'.tok,m'.nt⟩ w':=by
         have:(⟨m'.box,cx.nb,m'.tok,m'.nt⟩:bF)=m':=by cases m';simp at g3;simp[g3]
         rw[this];exact g4
        have r9:=hr.put g6 rz g5 qa;exact rest _ _ _ G' g2 r9 (hl.step ⟨g6,fun k _ hg=>g7 k hg⟩) fun k _ hg=>g7 k hg
      .cases my
     .cases my
    .cases my
   .rcases h1 with ⟨S1,hs,h2⟩|⟨t,es,hn,h2⟩
    .exact Oper.wp_mono (fun a1 w1 ⟨G1,k1,k2,k3⟩=>rest S1 a1 w1 G1 h2 k1 (hl.step (k3.leK k2)) k3) (oW hs hr rz j5 (hp o (by simp)))
    .obtain⟨b,hb,jd⟩:=aF1 hn (fun _=>rfl) (fun x _=>hr.ev x);have Aq:dK P o a.eval G w fun u G' w'=>u=.bool b/\G'=G/\w'=w:=dK.pure jd ⟨rfl,rfl,rfl⟩
     refine Aq.wp (n:=cx.n) (nb:=cx.nb) (S:=S) fun u G' w' g9 ⟨k1,k2,k3⟩=>?_
     subst k1;subst k2;subst k3;have r9:=hr.put g9 rz (RV.raw (G:=G') (w:=w') (v:=.bool b) rfl) hr.mem;exact rest _ _ _ G' (h2 b hb) r9 (hl.step ⟨g9,fun k _ hg=>⟨hg,rfl⟩⟩) fun k _ hg=>⟨hg,rfl⟩
  unfold wpOp;rw[ho];simp only[];unfold lM at h;split at h
  .rename_i hg;have hw:Region.wanted o (yielded ops a.tmps)=true:=by simp[Region.wanted,hg]
   rw[af hw];exact .inl (one h)
  .rename_i j want hg;split at h
   .rename_i b hy;have vh:=tI hr hy (fun o d h1 h2=>lh o d (ef h1) h2)
    by_cases e:b=some want
    .have hw:Region.wanted o (yielded ops a.tmps)=true:=by simp[Region.wanted,hg,vh,e]
     rw[af hw];exact .inl (one (h.1 e))
    .have hw:¬Region.wanted o (yielded ops a.tmps)=true:=by simp[Region.wanted,hg,vh,e]
     rw[ac hw];exact rest _ _ _ G (h.2 e) (hr.put (Le.refl G w) rz RV.undef hr.mem) (hl.step (LeK.refl _ _ _ _)) fun k _ qy=>⟨qy,rfl⟩
   .exact h.elim
variable {P:Program}
theorem cS.drew{n nb:Nat}{G:Gh}{S:AS}{a:Act}{w:World}(h:cS n nb G S a w):cS n nb G S a w.drew :=
 ⟨h.defers,h.size,fun t=>(h.tmps t).mono Le.drew,h.mem.drew⟩
theorem oV{n:Nat}{ops:Array Oper}(h:sZ n ops=true):∀(o:Oper) d,o∈ops->o.dst=some d->d<n:=by
 intro o d ho qh;have:=ax.1 h o (by simpa using ho)
 rw[qh] at this;simpa using this
def iL(n:Nat)(ops:Array Oper)(draw:Bool):Bool:=gW ops&&sZ n ops&&(!draw||aHR ops)
theorem AT.region{cx:Cx}{nt0 id:Nat}{ops:Array Oper}{draw:Bool}{S:AS}{K:Exit->AS->Prop}(hf:P.follows .mixedOrders=true)(j5:cx.base+cx.n<=cx.nb)(gt:iL cx.n ops draw=true)(h:qW P cx ops draw S (K .normal)):AT P cx nt0 (.region id ops draw) S K:=by
 simp only[iL,bd,ek,db] at gt;obtain⟨⟨hal,lh⟩,oe⟩:=gt;intro G0 w0 he hn G a w hr hl;have hd:=oV lh;obtain⟨b,hb,r9,hp,jm⟩:=lB j5 ops.toList S.box (S:=S) hr (fun o ho d qh=>hd o d (by simpa using ho) qh) (oL hal) h;have ma:LeC cx G0 w0 G w { S with box:=b }:=⟨hl.1,fun k hk hg=>by
  rw[<-hl.2 k hk hg];refine jm k fun hm=>?_
  obtain⟨o,ho,he⟩:=List.mem_filterMap.1 hm;split at he
  .rename_i T s h1 h2;simp only[ad] at he;subst he;exact absurd hk (by simp)
  .cases he⟩
 cases draw with
 | false =>
  simp only at hb;refine wp_region ?_;have:=oX (cx:=cx) (Q:=fun e a' w'=>∃S' G',K e S'/\cS cx.n cx.nb G' S' a' w'/\LeC cx G0 w0 G' w' S') (K:=K .normal) (G0:=G0) (w0:=w0) hd j5 hal (fun S' a' w' G' h1 h2 h3=>⟨S',G',h1,h2,h3⟩) ops.toList 0 { S with box:=b } a w G (by simp) hp r9 ma hb
  simpa[List.range_eq_range'] using this
 | true =>
  simp only at hb;obtain⟨S',jd,hK⟩:=hb;refine wp_region_any hf ?_;have As:aHR ops=true:=by simpa using oe
  have BF:cS cx.n cx.nb G { S with box:=b } a w.drew:=r9.drew
  have BG:LeC cx G0 w0 G w.drew { S with box:=b }:=ma.step ⟨Le.drew,fun k _ hg=>⟨hg,rfl⟩⟩
  refine aGH (n:=cx.n) (nb:=cx.nb) (base:=cx.base) (Sf:=S') (G0:=G) (w0:=w.drew) (b0:=b) As hal lh j5 (fun a' w' G' h1 h2=>⟨S',G',hK,h1,BG.step h2⟩) ops.size (Array.replicate ops.size false) (List.range ops.size) { S with box:=b } a w.drew G (by simp) ?_ (by simp) ?_ (lL.of_all jd) BF ?_ (LeK.refl _ _ _ _)
  .rw[fg.2];intro i hi;simp at hi;simp[Array.getD,hi]
  .intro i o ho yb;have hi:=(bp.1 ho).1;simp[Array.getD,hi] at yb
  .intro i _ o ho;exact hp o (by simpa using ef ho)
theorem AT.region2{cx:Cx}{nt0 id:Nat}{ops:Array Oper}{S:AS}{K:Exit->AS->Prop}(hf:P.follows .mixedOrders=true)(j5:cx.base+cx.n<=cx.nb)(gt:(gW ops&&sZ cx.n ops&&aAY ops)=true)(t8:rF ops S)(h:qW P cx ops true S (fun S'=>Far S' (qV ops.toList)/\K .normal S')):AT P cx nt0 (.region id ops true) S K:=by
 simp only[bd] at gt;obtain⟨⟨hal,lh⟩,oe⟩:=gt;intro G0 w0 he hn G a w hr hl;have hd:=oV lh;obtain⟨b,hb,r9,hp,jm⟩:=lB j5 ops.toList S.box (S:=S) hr (fun o ho d qh=>hd o d (by simpa using ho) qh) (oL hal) h;have ma:LeC cx G0 w0 G w { S with box:=b }:=⟨hl.1,fun k hk hg=>by
  rw[<-hl.2 k hk hg];refine jm k fun hm=>?_
  obtain⟨o,ho,he⟩:=List.mem_filterMap.1 hm;split at he
  .rename_i T s h1 h2;simp only[ad] at he;subst he;exact absurd hk (by simp)
  .cases he⟩
 simp only at hb;obtain⟨S',jd,x9,hK⟩:=hb;refine wp_region_any hf ?_;have BF:cS cx.n cx.nb G { S with box:=b } a w.drew:=r9.drew
 have BG:LeC cx G0 w0 G w.drew { S with box:=b }:=ma.step ⟨Le.drew,fun k _ hg=>⟨hg,rfl⟩⟩
 refine aEl (n:=cx.n) (nb:=cx.nb) (base:=cx.base) (Sf:=S') (G0:=G) (w0:=w.drew) (b0:=b) oe hal lh j5 x9 (fun a' w' G' h1 h2=>⟨S',G',hK,h1,BG.step h2⟩) ops.size (Array.replicate ops.size false) (List.range ops.size) { S with box:=b } a w.drew G rfl t8 (by simp) ?_ (by simp) ?_ (lL.of_all jd) BF ?_ (LeK.refl _ _ _ _)
 .rw[fg.2];intro i hi;simp at hi;simp[Array.getD,hi]
 .intro i o ho yb;have hi:=(bp.1 ho).1;simp[Array.getD,hi] at yb
 .intro i _ o ho;exact hp o (by simpa using ef ho)
def awp(P:Program)(cx:Cx)(nt0:Nat):Code->AS->(Exit->AS->Prop)->Prop
 | .skip,S,K=>K .normal S
 | .region _ ops draw,S,K=>qW P cx ops draw S (K .normal)
 | .seq a b,S,K=>awp P cx nt0 a S fun e S'=>match e with
  | .normal=>awp P cx nt0 b S' K
  | e=>K e S'
 | .cond c a b,S,K=>match S.ev c with
  | .d (.raw (.bool t))=>(t=true->awp P cx nt0 a S K)/\(t=false->awp P cx nt0 b S K)
  | _=>False
 | .block id c,S,K=>awp P cx nt0 c S fun e S'=>match e with
  | .exit j=>if j=id then K .normal S' else K (.exit j) S'
  | e=>K e S'
 | .loop c,S,K=>AT P cx nt0 (.loop c) S K
 | .exit id,S,K=>K (.exit id) S
 | .ret,S,K=>K .ret S
 | _,_,_=>False
theorem dP{p:Nat->Prop}(h:∃n,p n):∃n,p n/\∀m,p m->n<=m:=by
 obtain⟨n,hn⟩:=h;induction n using Nat.strongRecOn with
 | ind n ih =>
  by_cases hm:∃m,m<n/\p m
  .obtain⟨m,w6,hp⟩:=hm;exact ih m w6 hp
  .exact⟨n,hn,fun m hp=>by
    rcases fo m n with h|h
    .exact absurd ⟨m,h,hp⟩ hm
    .exact h⟩
theorem AT.loop{cx:Cx}{nt0:Nat}{c:Code}{S:AS}{K:Exit->AS->Prop}(I:Nat->AS->Prop)(h0:∃n S0,bB cx nt0 S S0/\I n S0)(jb:∀n S,I n S->AT P cx nt0 c S fun e S'=>match e with
   | .normal=>∃m S'',m<n/\bB cx nt0 S' S''/\I m S''
   | e=>K e S'):AT P cx nt0 (.loop c) S K:=by
 classical
 obtain⟨n0,S0,hw,hI⟩:=h0;refine AT.weaks hw ?_;intro G0 w0 he hn G a w hr hl
 let good:Act->World->Nat->Prop:=fun a w n=>∃S G,I n S/\cS cx.n cx.nb G S a w/\LeC cx G0 w0 G w S
 refine wp_loop (fun a w=>∃n,good a w n) (fun a w=>if h:∃n,good a w n then Classical.choose (dP h) else 0) ⟨n0,S0,G,hI,hr,hl⟩ ?_;intro a w hg;obtain⟨hc1,w7⟩:=Classical.choose_spec (dP hg);have hmu:(if h:∃n,good a w n then Classical.choose (dP h) else 0)=Classical.choose (dP hg):=by rw[dif_pos hg]
 obtain⟨S1,G1,Dz,r9,ma⟩:=hc1;refine wp_mono (jb _ S1 Dz G0 w0 he hn G1 a w r9 ma) ?_;rintro e a' w' ⟨S',G',h1,h2,h3⟩;cases e with
 | normal =>
  obtain⟨m,S'',hlt,⟨out,loc,loc',fz,nc⟩,D1⟩:=h1;obtain⟨G'',hr'',hl'',_⟩:=nc.sound he h3.1 h2 hn;have uc:good a' w' m:=⟨S'',G'',D1,hr'',hl'',fun j hj hg=>by rw[<-h3.2 j hj hg,nc.hb',nc.hb,lO hj,lO hj]⟩
  refine⟨⟨m,uc⟩,?_⟩;have uv:∃n,good a' w' n:=⟨m,uc⟩
  show (if h:∃n,good a' w' n then Classical.choose (dP h) else 0)<(if h:∃n,good a w n then Classical.choose (dP h) else 0)
  rw[dif_pos uv,dif_pos hg];exact Nat.lt_of_le_of_lt ((Classical.choose_spec (dP uv)).2 m uc) hlt
 | _=>exact⟨S',G',h1,h2,h3⟩
def bQ(P:Program)(S:AS):ResultVar->Option AV
 | .tmp t=>some (S.tmps t)
 | .cell a T=>match aU P T,aP P T,S.tmps a with
  | some ag,some n,.ptr k i off=>match S.box k with
   | some rows=>match rows[i]? with
    | some r=>pT ag n r off
    | none=>none
   | none=>none
  | _,_,_=>none
def aV(P:Program)(S:AS):List ResultVar->Option (List AV)
 | []=>some []
 | r::rs=>match bQ P S r,aV P S rs with
  | some v,some vs=>some (v::vs)
  | _,_=>none
def rC:List AV->AV
 | [v]=>v
 | vs=>.tup vs
attribute [simp] rC
def Fin(P:Program)(cx:Cx)(nt0:Nat)(rs:List ResultVar)(Q:AV->bF->Prop)(S:AS):Prop :=
 ∃vs out loc fz av' m',aV P S rs=some vs/\aIr cx nt0 out loc [] fz S ⟨fun _=>.bot,lb cx.base out [],m'.tok,m'.nt⟩/\m'.box=lb cx.base out []/\m'.nb=cx.base /\
  To (fun k=>lb cx.base out [] k≠none) (fun t=>m'.nt=S.nt∨t<m'.nt) (fz.map fun x=>(cx.base+x.1,x.2)) (rC vs) av'/\Q av' m'
theorem aDU{n nb:Nat}{G:Gh}{S:AS}{a:Act}{w:World}(hr:cS n nb G S a w){r:ResultVar}{v:AV}(h:bQ P S r=some v):
  ∃u,((match r with|.tmp t=>pure (a.tmps.getD t undef)|.cell x T=>do loadVar T (<-asAddr (a.tmps.getD x undef))):Sem Value).run P w=.ok u w/\RV G w v u:=by
 cases r with
 | tmp t =>
  simp only[bQ,ad] at h;subst h;exact⟨_,rfl,hr.tmps t⟩
 | cell x T =>
  -- a load by the name
  have hE:oU P { dst:=none,op:=.load T (.tmp x),type:=T,pos := "",after := #[],guard:=none } S.ev S.box v:=by
   unfold oU;simp only[bQ] at h;simp only[AS.ev];cases h1:aU P T with
   | none=>rw[h1] at h;cases h
   | some ag =>
    cases h2:aP P T with
    | none=>rw[h1,h2] at h;cases h
    | some n =>
     rw[h1,h2] at h;cases h3:S.tmps x with
     | ptr k i off =>
      rw[h3] at h;simp only at h ⊢;cases h4:S.box k with
      | none=>rw[h4] at h;cases h
      | some rows =>
       rw[h4] at h;simp only at h ⊢;cases h5:rows[i]? with
       | none=>rw[h5] at h;cases h
       | some r=>rw[h5] at h;exact h
     | _=>rw[h3] at h;cases h
  obtain⟨u,h1,h2⟩:=xA (ρv:=a.eval) hE (fun y _=>hr.ev y) hr.mem;refine⟨u,?_,h2⟩;simp only[execOp,Instr.loadAt,Act.eval] at h1;cases hp:a.tmps.getD x undef with
  | pointer q =>
   cases q with
   | none=>rw[hp] at h1;simp[Instr.sureAddr,stuck,Sem.run] at h1
   | some q =>
    rw[hp] at h1;simp only[hp,Instr.sureAddr,asAddr,aw,ay,aj] at h1 ⊢;cases hv:(loadVar T q).run P w with
    | ok u' w'=>rw[hv] at h1;simp at h1;rw[h1.1,h1.2]
    | halt hh w'=>rw[hv] at h1;simp at h1
  | _=>rw[hp] at h1;simp[Instr.sureAddr,stuck,Sem.run] at h1
theorem yO{n nb:Nat}{G:Gh}{S:AS}{a:Act}{w:World}(hr:cS n nb G S a w){fn:Func}{vs:List AV}(h:aV P S fn.results.toList=some vs):∃u,(results fn a.tmps).run P w=.ok u w/\RV G w (rC vs) u:=by
 have key:∀(rs:List ResultVar) (vs:List AV),aV P S rs=some vs->∃us,(rs.mapM (m:=Sem) fun
   | .tmp t=>pure (a.tmps.getD t undef)
   | .cell x T=>do loadVar T (<-asAddr (a.tmps.getD x undef))).run P w=.ok us w/\RVs G w vs us:=by
  intro rs;induction rs with
  | nil =>
   intro vs h;simp only[aV,ad] at h;subst h;exact⟨[],rfl,RVs.nil⟩
  | cons r rs ih =>
   intro vs h;simp only[aV] at h;split at h
   .rename_i v vs' h1 h2;simp only[ad] at h;subst h;obtain⟨u,g1,g2⟩:=aDU hr h1;obtain⟨us,g3,g4⟩:=ih vs' h2;refine⟨u::us,?_,g4.cons g2⟩;rw[List.mapM_cons];simp only[aw,ay];rw[g1];simp only[aj,g3,ay]
   .cases h
 obtain⟨us,h1,h2⟩:=key fn.results.toList vs h;have jd:(results fn a.tmps).run P w=.ok (if h:us.toArray.size=1 then us.toArray[0] else .tuple us.toArray) w:=by
  unfold results;rw[Array.mapM_eq_mapM_toList];simp only[map_eq_pure_bind,aw]
  erw [h1]
  simp only[aj,ay]
 refine⟨_,jd,?_⟩;have hl:=h2.1
 match vs,us,h2,hl with
 | [],[],h2,_=>exact .tup rfl h2.2
 | [v],[u],h2,_=>exact h2.2 0 (by simp) (by simp)
 | v1::v2::vs,u1::u2::us,h2,_ =>
  have:¬(u1::u2::us).toArray.size=1:=by simp
  rw[dif_neg this];exact .tup h2.1 h2.2
def iQ(k:Nat):List AV->List (Nat × AV)
 | []=>[]
 | a::r=>(k,a)::iQ (k+1) r
theorem zO:∀(l:List AV) (k t:Nat),tl (iQ k l) t=if k<=t then l.getD (t-k) .bot else .bot
 | [],k,t=>by simp[iQ,tl]
 | a::l,k,t=>by
  simp only[iQ,tl,zO l (k+1) t];by_cases h:t=k
  .subst h;simp
  .by_cases h2:k<=t
   .have h3:k+1<=t:=by omega
    have h4:t-k=(t-(k+1))+1:=by omega
    simp[h,h2,h3,h4]
   .have h3:¬k+1<=t:=by omega
    simp[h,h2,h3]
theorem aC.of_body{f:FuncId}{fn:Func}{c:Code}{args:List AV}{m:bF}{Q:AV->bF->Prop}(sx:P.funcs[f]?=some fn)(hb:fn.body=some c)(qn:(fn.name == "runtime.NumGoroutine")=false)(hf:P.follows .mixedOrders=true)(_hok:true=true)(hn:args.length<=fn.ntmps)(h:lb m.nb m.box []=m.box->(∀t,m.tok t=true->t<m.nt)->AT P ⟨m.nb,m.nb+fn.ntmps,fn.ntmps,m.box⟩ m.nt c ⟨tl (iQ 0 args),lb m.nb m.box [],m.tok,m.nt⟩
   fun e S=>(e=.normal∨e=.ret)/\Fin P ⟨m.nb,m.nb+fn.ntmps,fn.ntmps,m.box⟩ m.nt fn.results.toList Q S):aC P f args m Q:=by
 refine⟨gO.mk sx (by rw[hb];rfl) qn,fun G w vals hm hr=>?_⟩;have Hb:lb m.nb m.box []=m.box:=by
  funext k
  simp only[lb,lk];split
  .rfl
  .rename_i hk;exact(hm.nb k (by omega)).symm
 have jj:=h Hb (fun t ht=>(hm.toks t ht).1);refine calls_of_wp sx hb ?_
 let cx:Cx:=⟨m.nb,m.nb+fn.ntmps,fn.ntmps,m.box⟩
 have hE:aFf cx m.nt G:=by
  intro k rows hk ud hg r vk x zh;cases qy:G.bx k with
  | none=>exact absurd qy hg
  | some y =>
   obtain⟨b,sz⟩:=y;obtain⟨_,cs,e,_,_,hR,_⟩:=hm.box k rows b sz ud qy;have yc:x∈rows.flatten:=f8.2 ⟨r,vk,zh⟩
   obtain⟨i,hi,rfl⟩:=bi yc;refine(hR.2 i hi (by rw[<-hR.1];exact hi)).ok (fun k' y' jl=>?_) (fun t ht=>by rw[<-hm.nt];exact ht);rcases fo k' m.nb with h1|h1
   .exact h1
   .rw[hm.nobox k' (hm.nb k' h1)] at jl;cases jl
 have hS:cS cx.n cx.nb G ⟨tl (iQ 0 args),lb m.nb m.box [],m.tok,m.nt⟩ { tmps:=vals.toArray++Array.replicate (fn.ntmps-vals.toArray.size) undef,defers:=[] } w:=by
  refine⟨rfl,?_,fun t=>?_,?_⟩
  .have:=hr.1
   simp;show _=fn.ntmps
   omega
  .show RV G w (tl (iQ 0 args) t) _
   rw[zO];simp only[ai,↓reduceIte,Nat.sub_zero];by_cases ht:t<args.length
   .have k9:t<vals.length:=by rw[<-hr.1];exact ht
    have h1:args.getD t .bot=args[t]:=by simp[ht]
    have h2:(vals.toArray++Array.replicate (fn.ntmps-vals.toArray.size) undef).getD t undef=vals[t]:=by
     simp only[Array.getD_eq_getD_getElem?];rw[Array.getElem?_append_left (by simpa using k9)];simp[k9]
    rw[h1,h2];exact hr.2 t ht k9
   .have h1:args.getD t .bot=.bot:=by simp[ht]
    rw[h1];exact .bot
  .rw[Hb];constructor
   case box=>exact hm.box
   case nobox=>exact hm.nobox
   case inj=>exact hm.inj
   case nb=>intro k hk;exact hm.nb k (by simp only[cx] at hk;omega)
   case nt=>exact hm.nt
   case toks=>exact hm.toks
   case tokb=>exact hm.tokb
   case tinj=>exact hm.tinj
   case tnt=>exact hm.tnt
   case glob=>exact hm.glob
   case fresh=>exact hm.fresh
 have hL:LeC cx G w G w ⟨tl (iQ 0 args),lb m.nb m.box [],m.tok,m.nt⟩:=⟨LeB.refl _ _ _,fun k hk _=>by
  show lb m.nb m.box [] k=m.box k
  rw[Hb]⟩
 refine wp_mono (jj G w hE (by rw[hm.nt];exact nr0 _) G _ w hS hL) ?_;rintro e a' w' ⟨S',G',⟨he,ue⟩,qc,kj⟩;obtain⟨vs,out,loc,fz,av',m',g1,g2,g3,g4,g5,g6⟩:=ue;obtain⟨u,hu,m7⟩:=yO qc g1;obtain⟨G'',hr'',hl'',hto⟩:=g2.sound hE kj.1 qc (by rw[hm.nt];exact nr0 _);have pj:a'.defers=[]/\∃v,(results fn a'.tmps).run P w'=.ok v w'/\∃v_1 av m' G',Ending.returned v=.returned v_1/\Q av m'/\m'.nb=m.nb/\aR G' m' w'/\RV G' w' av v_1/\Le G w G' w'/\∀k,G.bx k=none->G'.bx k=none/\m'.box k=m.box k:=by
  refine⟨qc.defers,u,hu,u,av',m',G'',rfl,g6,g4,?_,hto m7 g5,?_,?_⟩
  .have hm'':=hr''.mem
   simp only at hm'';constructor
   case box=>intro k rows b sz hk hb;exact hm''.box k rows b sz (by rw[<-g3];exact hk) hb
   case nobox=>intro k hk;exact hm''.nobox k (by rw[<-g3];exact hk)
   case inj=>exact hm''.inj
   case nb =>
    intro k hk;rw[g3];have:¬k<m.nb:=by
     have:m'.nb=m.nb:=g4
     omega
    simp[lb,lk,this]
   case nt=>exact hm''.nt
   case toks=>exact hm''.toks
   case tokb=>exact hm''.tokb
   case tinj=>exact hm''.tinj
   case tnt=>exact hm''.tnt
   case glob=>exact hm''.glob
   case fresh=>exact hm''.fresh
  .refine⟨hl''.os,hl''.tape,hl''.output,hl''.size,hl''.whole,hl''.part,fun k x hx=>?_,hl''.nt,hl''.tk,hl''.ty⟩;have hk:k<cx.base:=by
    rcases fo k m.nb with h1|h1
    .exact h1
    .rw[hm.nobox k (hm.nb k h1)] at hx;cases hx
   rw[hl''.bx k hk];exact hx
  .intro k hk;rcases fo k cx.base with h1|h1
   .refine⟨by rw[hl''.bx k h1];exact hk,?_⟩;have e1:=kj.2 k h1 hk;rw[g3,lO h1];rw[g2.hb,lO h1] at e1;exact e1
   .have tz:m'.box k=none:=by
     rw[g3];have:¬k<m.nb:=by simp only[cx] at h1;omega
     simp[lb,lk,this]
    exact⟨hr''.mem.nobox k (by simp only;rw[<-g3];exact tz),by rw[tz,hm.nb k h1]⟩
 rcases he with rfl|rfl
 .exact pj
 .exact pj
variable {P:Program}
theorem bL{op:BinOp}{T:TypeId}{a b r0:Value}(h0:r0.oneCell'=true)(h:∀x y w,Sem.run P (do eqGuard op T x y a b;binOp op T a b) w=.ok r0 w)(r:Value):eD P op T a b r↔r=r0:=by
 constructor
 .intro hb;have:=hb.2 (.const a) (.const b) default
  rw[h] at this;injection this with h1 _
  exact h1.symm
 .rintro rfl;exact⟨h0,h⟩
theorem aIm{op:UnOp}{a r0:Value}(h0:r0.oneCell'=true)(h:∀w,Sem.run P (Op.unary op a) w=.ok r0 w)(r:Value):aJt P op a r↔r=r0:=by
 constructor
 .intro hb;have:=hb.2 default
  rw[h] at this;injection this with h1 _
  exact h1.symm
 .rintro rfl;exact⟨h0,h⟩
section
variable (T:TypeId) (k:IntKind) (a b:Int) (r:Value)
@[simp] theorem aQa:eD P .lss T (.int k a) (.int k b) r↔r=.bool (decide (a<b)):=bL rfl (fun _ _ _=>by simp[binOp,Op.intCmp,eqGuard]) r
@[simp] theorem aQr:eD P .leq T (.int k a) (.int k b) r↔r=.bool (decide (a<=b)):=bL rfl (fun _ _ _=>by simp[binOp,Op.intCmp,eqGuard]) r
@[simp] theorem aQj:eD P .gtr T (.int k a) (.int k b) r↔r=.bool (decide (b<a)):=bL rfl (fun _ _ _=>by simp[binOp,Op.intCmp,eqGuard]) r
@[simp] theorem aQQ:eD P .geq T (.int k a) (.int k b) r↔r=.bool (decide (b<=a)):=bL rfl (fun _ _ _=>by simp[binOp,Op.intCmp,eqGuard]) r
@[simp] theorem aQ4:eD P .eql T (.int k a) (.int k b) r↔r=.bool (a==b):=bL rfl (fun _ _ _=>by simp[binOp,Op.intCmp,eqGuard]) r
@[simp] theorem aQl:eD P .neq T (.int k a) (.int k b) r↔r=.bool (a != b):=bL rfl (fun _ _ _=>by simp[binOp,Op.intCmp,eqGuard]) r
@[simp] theorem aRg:eD P .add T (.int k a) (.int k b) r↔r=.int k (k.wrap (a+b)):=bL rfl (fun _ _ _=>by simp[binOp,Op.intArith,eqGuard]) r
@[simp] theorem aQc:eD P .sub T (.int k a) (.int k b) r↔r=.int k (k.wrap (a-b)):=bL rfl (fun _ _ _=>by simp[binOp,Op.intArith,eqGuard]) r
@[simp] theorem aP3:eD P .mul T (.int k a) (.int k b) r↔r=.int k (k.wrap (a*b)):=bL rfl (fun _ _ _=>by simp[binOp,Op.intArith,eqGuard]) r
theorem aKc(h:b≠0):eD P .quo T (.int k a) (.int k b) r↔r=.int k (k.wrap (a.tdiv b)):=bL rfl (fun _ _ _=>by simp[binOp,Op.intDiv,eqGuard,h]) r
theorem aJg(h:b≠0):eD P .rem T (.int k a) (.int k b) r↔r=.int k (a.tmod b):=bL rfl (fun _ _ _=>by simp[binOp,Op.intDiv,eqGuard,h]) r
theorem aJw{k':IntKind}(h:0<=b):eD P .shr T (.int k a) (.int k' b) r↔r=.int k (a.fdiv (2 ^ min b.toNat k.bits)):=by
 have h':¬b<0:=by omega
 exact bL rfl (fun _ _ _=>by simp[binOp,Op.shift,eqGuard,h']) r
theorem aJn:eD P .and T (.int k a) (.int k b) r↔r=.int k (k.wrap (BitVec.ofInt k.bits a &&& BitVec.ofInt k.bits b).toNat):=bL rfl (fun _ _ _=>by simp[binOp,Op.intBits,eqGuard]) r
theorem aIk{S' T':TypeId}{k':IntKind}(hs:(P.underlying S').isSome=true)(ht:P.underlying T'=some (.int k')):aDP P S' T' (.int k a) r↔r=.int k' (k'.wrap a):=by
 obtain⟨u,hu⟩:=c7.1 hs;have hr:∀w,Sem.run P (convert S' T' (.int k a)) w=.ok (.int k' (k'.wrap a)) w:=by
  intro w;simp only[convert,aw,bm hu,bm ht,aj];cases u<;>simp[Conv.intToInt]
 constructor
 .intro hb;have:=hb.2 default
  rw[hr] at this;injection this with h1 _
  exact h1.symm
 .rintro rfl;exact⟨rfl,hr⟩
@[simp] theorem aRw(t:Bool):aJt P .not (.bool t) r↔r=.bool (!t):=aIm rfl (fun _=>by simp[Op.unary]) r
end
def aI(P:Program)(T:TypeId):Bool:=match P.underlying T with|some .bool=>true|_=>false
theorem vX{T:TypeId}(h:aI P T=true):P.underlying T=some .bool:=by
 unfold aI at h;split at h
 .assumption
 .cases h
theorem kG(d:Nat){T:TypeId}(h:P.underlying T=some .bool)(a b:Bool)(w:World):(Op.equalIn (d+1) T (.bool a) (.bool b)).run P w=.ok (a==b) w:=by
 simp[Op.equalIn,bm h]
theorem aBb{T:TypeId}(h:P.underlying T=some .bool)(a b:Bool)(w:World):(binOp .eql T (.bool a) (.bool b)).run P w=.ok (.bool (a==b)) w:=by
 have:=kG 9999 h a b w
 simp only[binOp,Op.equal,Op.maxDepth,aw,this,aj,ay]
theorem aBx{T:TypeId}(h:P.underlying T=some .bool)(a b:Bool)(w:World):(binOp .neq T (.bool a) (.bool b)).run P w=.ok (.bool (!(a==b))) w:=by
 have:=kG 9999 h a b w
 simp only[binOp,Op.equal,Op.maxDepth,aw,this,aj,ay]
theorem aHl{T:TypeId}(h:aI P T=true)(a b:Bool):eD P .eql T (.bool a) (.bool b) (.bool (a==b)) :=
 (bL rfl (fun _ _ w=>by rw[aw];exact aBb (vX h) a b w) _).2 rfl
theorem aI9{T:TypeId}(h:aI P T=true)(a b:Bool):eD P .neq T (.bool a) (.bool b) (.bool (!(a==b))) :=
 (bL rfl (fun _ _ w=>by rw[aw];exact aBx (vX h) a b w) _).2 rfl
theorem aHC{T:TypeId}(a b:ByteArray):eD P .eql T (.string a) (.string b) (.bool (a.toList==b.toList)) :=
 (bL rfl (fun _ _ w=>by rw[aw];rfl) _).2 rfl
theorem aGW{T:TypeId}(a b:ByteArray):eD P .neq T (.string a) (.string b) (.bool !(a.toList==b.toList)) :=
 (bL rfl (fun _ _ w=>by rw[aw];rfl) _).2 rfl
theorem aHq{T:TypeId}(a b:ByteArray):eD P .lss T (.string a) (.string b) (.bool (Op.bytesLess a.toList b.toList)) :=
 (bL rfl (fun _ _ w=>by rw[aw];rfl) _).2 rfl
theorem aHp{T:TypeId}(a b:ByteArray)(h:a.size+b.size<=1000000000000):eD P .add T (.string a) (.string b) (.string (a++b)) :=
 (bL rfl (fun _ _ w=>by
  have h2:¬(((a.size+b.size:Nat):Int)>IntKind.i64.max):=by
   have:IntKind.i64.max=9223372036854775807:=rfl
   rw[this];omega
  rw[aw];show Sem.run P (Op.stringOp .add a b) w=_
  unfold Op.stringOp;simp only[h2,if_false]
  rfl) _).2 rfl
def eqT(P:Program)(T:TypeId):Option Nat:=match P.underlying T with
 | some (.struct fs)=>if (fs.toList.all fun f=>f.name != "_" && (match P.underlying f.type with|some (.int _)=>true|_=>false))&&fs.toList.map (·.offset)==List.range fs.size&&!P.stoodInHeld T&&!P.eqGuardType P.depth T then some fs.size else none
 | _=>none
def pA:List Value->Option (List Int)
 | []=>some []
 | .int .i64 n::r=>(pA r).map (n :: ·)
 | _::_=>none
theorem mW:∀{vs:List Value} {ns:List Int},pA vs=some ns->vs=ns.map (.int .i64)
 | [],ns,h=>by simp[pA] at h;subst h;rfl
 | v::r,ns,h=>by
  unfold pA at h;split at h
  .cases ‹_::_=[]›
  .rename_i n r' mo;cases mo;obtain⟨l,h1,h2⟩:=cr.1 h;subst h2;rw[mW h1];rfl
  .cases h
theorem jN(d:Nat)(w:World):∀(fs:List Field) (i:Nat) (kg bs:List Int),(∀f∈fs,f.name ≠ "_" /\ ∃k,P.underlying f.type=some (.int k))->fs.map (·.offset)=List.range' i fs.length->kg.length=i+fs.length->bs.length=i+fs.length ->
  (Op.eqFields (d+1) (kg.map (Value.int .i64)).toArray (bs.map (Value.int .i64)).toArray fs).run P w=.ok (decide (kg.drop i=bs.drop i)) w
 | [],i,kg,bs,_,_,ha,hb=>by
  have h1:kg.drop i=[]:=fy (by simp at ha;omega)
  have h2:bs.drop i=[]:=fy (by simp at hb;omega)
  simp[Op.eqFields,h1,h2]
 | f::fs,i,kg,bs,hf,ho,ha,hb=>by
  obtain⟨hn,k,hk⟩:=hf f (by simp);simp only[de,ce,List.range'_succ,List.cons.injEq] at ho;obtain⟨Bc,ms⟩:=ho;simp only[ce] at ha hb;have j4:i<kg.length:=by omega
  have mb:i<bs.length:=by omega
  have qs:aU P f.type=some false:=by simp[aU,hk]
  have D4:(part f.type (kg.map (Value.int .i64)).toArray f.offset).run P w=.ok (.int .i64 kg[i]) w:=by
   simp only[part,aw,iB qs,aj,bt,↓reduceIte,Bc];simp[j4]
  have vq:(part f.type (bs.map (Value.int .i64)).toArray f.offset).run P w=.ok (.int .i64 bs[i]) w:=by
   simp only[part,aw,iB qs,aj,bt,↓reduceIte,Bc];simp[mb]
  have ih:=jN d w fs (i+1) kg bs (fun g hg=>hf g (by simp[hg])) ms (by omega) (by omega);simp only[Op.eqFields,hn,ne_eq,not_false_eq_true,↓reduceIte,aw,D4,vq,aj,run_equalIn_int w d f.type .i64 k _ _ hk,Sem.run_ite,ih];have ea:kg.drop i=kg[i]::kg.drop (i+1):=List.drop_eq_getElem_cons j4
  have eb:bs.drop i=bs[i]::bs.drop (i+1):=List.drop_eq_getElem_cons mb
  by_cases e:kg[i]=bs[i]
  .have e2:(kg.drop i=bs.drop i)↔(kg.drop (i+1)=bs.drop (i+1)):=by rw[ea,eb,e];simp only[List.cons.injEq,true_and]
   simp[e,e2]
  .have e2:¬(kg.drop i=bs.drop i):=by rw[ea,eb];simp only[List.cons.injEq,e,false_and,not_false_eq_true]
   simp[e,e2]
theorem aDd{T n:Nat}(h:eqT P T=some n){kg bs:List Int}(ha:kg.length=n)(hb:bs.length=n)(x y:Operand)(w:World):
  (eqGuard .eql T x y (.agg (kg.map (Value.int .i64)).toArray) (.agg (bs.map (Value.int .i64)).toArray)).run P w=.ok () w /\
  (eqGuard .neq T x y (.agg (kg.map (Value.int .i64)).toArray) (.agg (bs.map (Value.int .i64)).toArray)).run P w=.ok () w /\
  (binOp .eql T (.agg (kg.map (Value.int .i64)).toArray) (.agg (bs.map (Value.int .i64)).toArray)).run P w=.ok (.bool (decide (kg=bs))) w /\
  (binOp .neq T (.agg (kg.map (Value.int .i64)).toArray) (.agg (bs.map (Value.int .i64)).toArray)).run P w=.ok (.bool (!decide (kg=bs))) w:=by
 unfold eqT at h;split at h
 .rename_i fs ry;split at h
  .rename_i hc;simp only[bd,db,gr] at hc;obtain⟨⟨⟨h1,h2⟩,h3⟩,h4⟩:=hc;simp only[ad] at h;subst h;have zk:P.fieldsOf T=fs:=by simp[Program.fieldsOf,ry]
   have Bn:P.underlying T=some (.struct (P.fieldsOf T)):=by rw[zk,ry]
   have gz:∀f∈fs.toList,f.name ≠ "_" /\ ∃k,P.underlying f.type=some (.int k):=by
    intro f hf;have:=ax.1 h1 f hf
    simp only[bd,bne_iff_ne,ne_eq] at this;refine⟨this.1,?_⟩;have h6:=this.2;split at h6
    .rename_i k hk;exact⟨k,hk⟩
    .cases h6
   have key:∀d,(Op.equalIn (d+2) T (.agg (kg.map (Value.int .i64)).toArray) (.agg (bs.map (Value.int .i64)).toArray)).run P w=.ok (decide (kg=bs)) w:=by
    intro d;rw[run_equalIn_struct w (d+1) T _ _ Bn h3,zk,jN d w fs.toList 0 kg bs gz (by rw[h2];simp[List.range_eq_range']) (by simpa using ha) (by simpa using hb)];simp
   refine⟨run_eqGuard_agg w .eql T x y _ _ h4,run_eqGuard_agg w .neq T x y _ _ h4,?_,?_⟩
   .rw[run_eql_struct,key 9998];rfl
   .rw[run_neq_struct,key 9998];rfl
  .cases h
 .cases h
theorem aL{n:Int}(h0 : -9223372036854775808<=n)(h1:n<=9223372036854775807):IntKind.i64.wrap n=n:=by
 exact IntWalk.i64_in n ⟨h0,h1⟩
end Go.AM
