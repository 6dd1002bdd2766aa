import Derived.Test.YtchfmhhbiealcaaGreatDoorPIB2
import Derived.Orders
set_option linter.unusedSimpArgs false
set_option linter.unusedVariables false
namespace Go.AM
theorem eh.{u,v}:type_of% @List.map_congr_left.{u,v}:=@List.map_congr_left
theorem b9:type_of% @Bool.true_and:=@Bool.true_and
theorem gt.{u,v}:type_of% @List.mem_filterMap.{u,v}:=@List.mem_filterMap
theorem d9:type_of% @Bool.or_eq_true:=@Bool.or_eq_true
theorem ca.{u}:type_of% @List.mem_cons.{u}:=@List.mem_cons
theorem ce.{u}:type_of% @List.mem_filter.{u}:=@List.mem_filter
theorem ay:type_of% @List.mem_range:=@List.mem_range
theorem c9:type_of% @Bool.not_eq_true':=@Bool.not_eq_true'
theorem gj:type_of% @List.pairwise_lt_range:=@List.pairwise_lt_range
theorem du.{u}:type_of% @List.pairwise_cons.{u}:=@List.pairwise_cons
theorem dm.{u}:type_of% @List.filter_append.{u}:=@List.filter_append
theorem ez.{u}:type_of% @List.filter_eq_self.{u}:=@List.filter_eq_self
theorem f8.{u}:type_of% @List.mem_cons_of_mem.{u}:=@List.mem_cons_of_mem
theorem gx.{u}:type_of% @dif_pos.{u}:=@dif_pos
theorem gy:type_of% @not_false_eq_true:=@not_false_eq_true
open Go
variable {P:Program} {wr:Bool}
theorem nH{ρ ρ':Operand->AV}{o:Option Operand}{d n:Nat}(h:∀x,o=some x->ρ x=ρ' x):dK ρ o d n=dK ρ' o d n:=by
 cases o with
 | none=>rfl
 | some x=>simp only[dK,h x rfl]
theorem aES{base:Nat}{o:Oper}{ρ ρ':Operand->AV}{v:AV}(h:∀x∈o.op.operands,ρ x=ρ' x):aBf P base o ρ v->aBf P base o ρ' v:=by
 unfold aBf;cases jo:o.op<;>rw[jo] at h<;>simp only[imp_self]
 case move x=>rw[h x (by simp[Op.operands])];exact id
 case assign x=>rw[h x (by simp[Op.operands])];exact id
 case pick c a b=>rw[h c (by simp[Op.operands]),h a (by simp[Op.operands]),h b (by simp[Op.operands])];exact id
 case build T parts =>
  have e:(parts.toList.map fun p=>(p.1,ρ p.2))=parts.toList.map fun p=>(p.1,ρ' p.2):=eh fun p hp=>by
   rw[h p.2 (by simp only[Op.operands];rw[<-Array.mem_toList_iff];simpa using ⟨p.1,by simpa using hp⟩)]
  rw[e];exact id
 case buildSlice T len parts =>
  have e:(parts.toList.map fun p=>ρ p.2)=parts.toList.map fun p=>ρ' p.2:=eh fun p hp=>by
   rw[h p.2 (by simp only[Op.operands];rw[<-Array.mem_toList_iff];simpa using ⟨p.1,by simpa using hp⟩)]
  rw[e];exact id
 case nilCheck x=>rw[h x (by simp[Op.operands])];exact id
 case binOp op T x y T2=>rw[h x (by simp[Op.operands]),h y (by simp[Op.operands])];exact id
 case unOp op T x=>rw[h x (by simp[Op.operands])];exact id
 case convert s t x=>rw[h x (by simp[Op.operands])];exact id
 case makeFunc fn first caps =>
  have e:caps.toList.map ρ=caps.toList.map ρ':=eh fun p hp=>h p (by simp only[Op.operands];rw[<-Array.mem_toList_iff];simp[hp])
  rw[e];exact id
 case fieldAddr T x f=>rw[h x (by simp[Op.operands])];exact id
 case field T x f=>rw[h x (by simp[Op.operands])];exact id
 case indexAddr T x i=>rw[h x (by simp[Op.operands]),h i (by simp[Op.operands])];exact id
 case index T x i=>rw[h x (by simp[Op.operands]),h i (by simp[Op.operands])];exact id
 case extract t i=>rw[h t (by simp[Op.operands])];exact id
 case slice T x lo hi mx =>
  have e1:∀d n,dK ρ lo d n=dK ρ' lo d n:=fun d n=>nH fun y hy=>h y (by simp[Op.operands,hy])
  have e2:∀d n,dK ρ hi d n=dK ρ' hi d n:=fun d n=>nH fun y hy=>h y (by simp[Op.operands,hy])
  have e3:∀d n,dK ρ mx d n=dK ρ' mx d n:=fun d n=>nH fun y hy=>h y (by simp[Op.operands,hy])
  rw[h x (by simp[Op.operands])];unfold dG;simp only[e1,e2,e3];exact id
 case call c =>
  have e:c.args.toList.map ρ=c.args.toList.map ρ':=eh fun p hp=>h p (by simp only[Op.operands,Call.operands];rw[<-Array.mem_toList_iff];simp;exact .inr (by simpa using hp))
  rw[e];exact id
theorem aEI{o:Oper}{ρ ρ':Operand->AV}{box:Bxs}{v:AV}(h:∀x∈o.op.operands,ρ x=ρ' x):qK P o ρ box v->qK P o ρ' box v:=by
 unfold qK;cases jo:o.op<;>rw[jo] at h<;>simp only[imp_self]
 case load T p=>rw[h p (by simp[Op.operands])];exact id
theorem aEY{base:Nat}{o:Oper}{ρ ρ':Operand->AV}{box box':Bxs}{v:AV}(h:∀x∈o.op.operands,ρ x=ρ' x):nA P base o ρ box v box'->nA P base o ρ' box v box':=by
 unfold nA;cases jo:o.op<;>rw[jo] at h<;>simp only[imp_self]
 case store T p x=>rw[h p (by simp[Op.operands]),h x (by simp[Op.operands])];exact id
 case box T x=>rw[h x (by simp[Op.operands])];exact id
 case makeSlice T l c=>rw[h l (by simp[Op.operands]),h c (by simp[Op.operands])];exact id
 case call c =>
  have e:c.args.toList.map ρ=c.args.toList.map ρ':=eh fun p hp=>h p (by simp only[Op.operands,Call.operands];rw[<-Array.mem_toList_iff];simp;exact .inr (by simpa using hp))
  rw[e];exact id
theorem aE6{o:Oper}{ρ ρ':Operand->AV}{tok tok':Nat->Bool}{nt nt':Nat}{v:AV}(h:∀x∈o.op.operands,ρ x=ρ' x):aE0 P o ρ tok nt v tok' nt'->aE0 P o ρ' tok nt v tok' nt':=by
 unfold aE0;refine Or.imp ?_ (Or.imp ?_ ?_)
 .unfold aC8;cases jo:o.op<;>rw[jo] at h<;>simp only[imp_self]
  case call c =>
   have e':∀x,x∈c.args.toList->ρ x=ρ' x:=fun x hx=>h x (by simp only[Op.operands,Call.operands];rw[<-Array.mem_toList_iff];simp;exact .inr (by simpa using hx))
   split
   .rename_i s x T T' h1 h2 h3;rw[e' s (by rw[h2];simp),e' x (by rw[h2];simp)];exact id
   .exact id
 .unfold aIA;cases jo:o.op<;>rw[jo] at h<;>simp only[imp_self]
  case call c =>
   have e':∀x,x∈c.args.toList->ρ x=ρ' x:=fun x hx=>h x (by simp only[Op.operands,Call.operands];rw[<-Array.mem_toList_iff];simp;exact .inr (by simpa using hx))
   split
   .rename_i s x T T' h1 h2 h3;rw[e' s (by rw[h2];simp),e' x (by rw[h2];simp)];exact id
   .exact id
 .rintro⟨φ,h1,h2⟩;refine⟨φ,?_,h2⟩;rw[<-h1];unfold fM;cases jo:o.op<;>rw[jo] at h<;>try simp only
  case makeMap T r=>cases r<;>rfl
  case lookup T m k b =>
   cases b
   .have e1:=h m (by simp[Op.operands]);have e2:=h k (by simp[Op.operands])
    dsimp only
    rw[e1,e2]
   .rfl
theorem aE4{o:Oper}{ρ ρ':Operand->AV}{box:Bxs}{tok tok':Nat->Bool}{nt nt':Nat}{v:AV}(h:∀x∈o.op.operands,ρ x=ρ' x):sV P o ρ box tok nt v tok' nt'->sV P o ρ' box tok nt v tok' nt':=by
 unfold sV;cases jo:o.op<;>rw[jo] at h<;>simp only[imp_self]
 case call c =>
  have e:c.args.toList.map ρ=c.args.toList.map ρ':=eh fun p hp=>h p (by simp only[Op.operands,Call.operands];rw[<-Array.mem_toList_iff];simp;exact .inr (by simpa using hp))
  split
  .rename_i f h1;rw[h f (by simp only[Op.operands,Call.operands,h1];simp),e];exact id
  .exact id
theorem aE9{o:Oper}{ρ ρ':Operand->AV}{box box':Bxs}{tok tok':Nat->Bool}{nt nt':Nat}{v:AV}(h:∀x∈o.op.operands,ρ x=ρ' x):aC3 P o ρ box tok nt v box' tok' nt'->aC3 P o ρ' box tok nt v box' tok' nt':=by
 unfold aC3;cases jo:o.op<;>rw[jo] at h<;>simp only[imp_self]
 case call c =>
  have e:c.args.toList.map ρ=c.args.toList.map ρ':=eh fun p hp=>h p (by simp only[Op.operands,Call.operands];rw[<-Array.mem_toList_iff];simp;exact .inr (by simpa using hp))
  split
  .rename_i f h1;rw[h f (by simp only[Op.operands,Call.operands,h1];simp),e];split
   .rintro⟨x,k,i,off,rows,g1,g2,g3⟩;have hx:x∈c.args.toList:=by
     obtain⟨cal,args,tys⟩:=c;simp only at h1;subst h1;simp only[aCe] at g1;exact List.mem_of_mem_head? g1
    refine⟨x,k,i,off,rows,g1,?_,g3⟩;rw[<-h x (by simp only[Op.operands,Call.operands];rw[<-Array.mem_toList_iff];simp;exact .inr (by simpa using hx))];exact g2
   .exact id
  .exact id
theorem aAG{base:Nat}{o:Oper}{ρ ρ':Operand->AV}{box box':Bxs}{tok tok':Nat->Bool}{nt nt':Nat}{v:AV}(h:∀x∈o.op.operands,ρ x=ρ' x):
  Eff P wr base o ρ box tok nt v box' tok' nt'->Eff P wr base o ρ' box tok nt v box' tok' nt':=by
 unfold Eff;split
 .exact fun ⟨h1,h2⟩=>⟨aES h h1,h2⟩
 .exact fun ⟨h1,h2⟩=>⟨aEI h h1,h2⟩
 .exact fun ⟨h1,h2⟩=>⟨aEY h h1,h2⟩
 .exact fun hh=>hh.imp (fun ⟨h1,h2⟩=>⟨h1.imp (aE6 h) (aE4 h),h2⟩) fun ⟨h1,h2⟩=>⟨h1,aE9 h h2⟩
def mB:Op->Bool
 | .box .. => true
 | .makeSlice .. => true
 | _=>false
theorem pX{base:Nat}{o:Oper}{ρ:Operand->AV}{b b':Bxs}{v:AV}(hm:mB o.op=true)(h:nA P base o ρ b v b'):
  ∃s rows,b (base+s)=none/\b'=upd b (base+s) (some rows)/\∀c,c (base+s)=none->nA P base o ρ c v (upd c (base+s) (some rows)):=by
 unfold nA at h ⊢;cases jo:o.op<;>rw[jo] at hm h<;>first|cases hm|skip
 .simp only at h ⊢;split at h
  .rename_i s cs h1 h2;obtain⟨g1,g2,g3⟩:=h;exact⟨s,[cs],g1,g3,fun c hc=>by simp only[h1,h2];exact⟨hc,g2,by first|rfl|trivial⟩⟩
  .exact h.elim
 .simp only at h ⊢;split at h
  .rename_i sz by' zs s k1 n k2 n' h1 h2 h3 h4
   obtain⟨g1,g2,g3,g4,g5,g6⟩:=h;exact⟨s,_,g4,g6,fun c hc=>by simp only[h1,h2,h3,h4];exact⟨g1,g2,g3,hc,g5,by first|rfl|trivial⟩⟩
  .exact h.elim
theorem aCO{α:Type}(f:Nat->α){i j:Nat}(h:i≠j)(a b:α):upd (upd f i a) j b=upd (upd f j b) i a:=by
 funext k
 simp only[upd];by_cases h1:k=i<;>by_cases h2:k=j
 .exact absurd (h1.symm.trans h2) h
 .simp[h1,h2];intro e;exact absurd e h
 .simp[h1,h2];intro e;exact absurd e.symm h
 .simp[h1,h2]
def aGh:Op->Bool
 | .call { callee:=.value _,.. }=>true
 | _=>false
theorem sV.val{o:Oper}{ρ:Operand->AV}{box:Bxs}{tok tok':Nat->Bool}{nt nt':Nat}{v:AV}(h:sV P o ρ box tok nt v tok' nt'):aGh o.op=true:=by
 unfold sV at h;split at h
 .rename_i c ho;split at h
  .rename_i f hf;rw[ho];obtain⟨cal,args,tys⟩:=c;simp only at hf;subst hf;rfl
  .exact h.elim
 .exact h.elim
theorem sV.ext{o:Oper}{ρ:Operand->AV}{box box1:Bxs}{tok tok':Nat->Bool}{nt nt':Nat}{v:AV}(h:sV P o ρ box tok nt v tok' nt')(he:Ext box box1):sV P o ρ box1 tok nt v tok' nt':=by
 unfold sV at h ⊢;split at h
 .split at h
  .split at h
   .exact cW.ext h he
   .exact h.elim
  .exact h.elim
 .exact h.elim
def lD(a b:Oper):Bool:=match cls a.op,cls b.op with
 | .t,.w=>aGh a.op&&!mB b.op
 | .w,.t=>aGh b.op
 | .r,.w=>true
 | .w,.r=>true
 | .w,.w=>!(mB a.op&&mB b.op)
 | .t,.t=>true
 | _,_=>false
theorem oG{a b:Prop}(h:a∨false=true/\b):a:=h.resolve_right fun h=>by cases h.1
theorem aJX{base:Nat}{x y:Oper}{ρ ρ':Operand->AV}{b0 b1 b2:Bxs}{t0 t1 t2:Nat->Bool}{n0 n1 n2:Nat}{vx vy:AV}(hc:lD x y=false)(hx:Eff P false base x ρ b0 t0 n0 vx b1 t1 n1)(hy:Eff P false base y ρ' b1 t1 n1 vy b2 t2 n2):∃c t n,Eff P false base y ρ' b0 t0 n0 vy c t n/\Eff P false base x ρ c t n vx b2 t2 n2:=by
 unfold Eff at hx hy ⊢;unfold lD at hc;cases h1:cls x.op<;>cases h2:cls y.op<;>simp only[h1,h2] at hc hx hy ⊢<;>first|(exact absurd hc (by decide))|skip
 .obtain⟨e,rfl,rfl,rfl⟩:=hx;obtain⟨e',rfl,rfl,rfl⟩:=hy;exact⟨_,_,_,⟨e',rfl,rfl,rfl⟩,e,rfl,rfl,rfl⟩
 .obtain⟨e,rfl,rfl,rfl⟩:=hx;obtain⟨e',rfl,rfl,rfl⟩:=hy;exact⟨_,_,_,⟨e',rfl,rfl,rfl⟩,e,rfl,rfl,rfl⟩
 .obtain⟨e,rfl,rfl,rfl⟩:=hx;obtain⟨e',rfl,rfl⟩:=hy;exact⟨_,_,_,⟨e',rfl,rfl⟩,e,rfl,rfl,rfl⟩
 .obtain⟨e,rfl,rfl,rfl⟩:=hx;obtain⟨e',rfl⟩:=oG hy;exact⟨_,_,_,.inl ⟨e',rfl⟩,e,rfl,rfl,rfl⟩
 .obtain⟨e,rfl,rfl,rfl⟩:=hx;obtain⟨e',rfl,rfl,rfl⟩:=hy;exact⟨_,_,_,⟨e',rfl,rfl,rfl⟩,e,rfl,rfl,rfl⟩
 .obtain⟨e,rfl,rfl,rfl⟩:=hx;obtain⟨e',rfl,rfl,rfl⟩:=hy;exact⟨_,_,_,⟨e',rfl,rfl,rfl⟩,e,rfl,rfl,rfl⟩
 .obtain⟨e,rfl,rfl,rfl⟩:=hx;obtain⟨e',rfl⟩:=oG hy;exact⟨_,_,_,.inl ⟨e',rfl⟩,e,rfl,rfl,rfl⟩
 .obtain⟨e,rfl,rfl⟩:=hx;obtain⟨e',rfl,rfl,rfl⟩:=hy;exact⟨_,_,_,⟨e',rfl,rfl,rfl⟩,e,rfl,rfl⟩
 .obtain⟨e,rfl,rfl⟩:=hx;obtain⟨e',rfl,rfl⟩:=hy;simp only[Bool.not_eq_false',bd] at hc;obtain⟨s,rows,g1,rfl,g3⟩:=pX hc.1 e;obtain⟨s',rows',k1,rfl,k3⟩:=pX hc.2 e';have hne:base+s≠base+s':=fun e=>by rw[<-e,uS] at k1;cases k1
  rw[uO _ _ (Ne.symm hne)] at k1;refine⟨_,_,_,⟨k3 b0 k1,rfl,rfl⟩,?_,rfl,rfl⟩;rw[aCO _ hne];exact g3 _ (by rw[uO _ _ hne];exact g1)
 .obtain⟨e,rfl,rfl⟩:=hx;obtain⟨e',rfl⟩:=oG hy;rcases e' with e'|e'
  .exact⟨_,_,_,.inl ⟨.inl e',rfl⟩,e,rfl,rfl⟩
  .rw[e'.val] at hc;cases hc
 .obtain⟨e,rfl⟩:=oG hx;obtain⟨e',rfl,rfl,rfl⟩:=hy;exact⟨_,_,_,⟨e',rfl,rfl,rfl⟩,.inl ⟨e,rfl⟩⟩
 .obtain⟨e,rfl⟩:=oG hx;obtain⟨e',rfl,rfl,rfl⟩:=hy;exact⟨_,_,_,⟨e',rfl,rfl,rfl⟩,.inl ⟨e,rfl⟩⟩
 .obtain⟨e,rfl⟩:=oG hx;obtain⟨e',rfl,rfl⟩:=hy;rcases e with e|e
  .exact⟨_,_,_,⟨e',rfl,rfl⟩,.inl ⟨.inl e,rfl⟩⟩
  .rw[e.val] at hc;simp only[b9,Bool.not_eq_false'] at hc;obtain⟨s,rows,g1,rfl,g3⟩:=pX hc e';refine⟨_,_,_,⟨e',rfl,rfl⟩,.inl ⟨.inr (e.ext fun k r hk=>?_),rfl⟩⟩;rw[uO _ _ (fun e2=>by rw[e2,g1] at hk;cases hk)];exact hk
def aBC(P:Program)(wr:Bool)(base:Nat)(ops:Array Oper)(o:Oper)(S:AS)(v:AV)(box':Bxs)(tok':Nat->Bool)(nt':Nat):Prop:=match o.guard with
 | none=>Eff P wr base o S.ev S.box S.tok S.nt v box' tok' nt'
 | some (j,want)=>match dS ops S j with
  | some b=>if b=some want then Eff P wr base o S.ev S.box S.tok S.nt v box' tok' nt' else v=.tup []/\box'=S.box/\tok'=S.tok/\nt'=S.nt
  | none=>False
theorem iK{base:Nat}{ops:Array Oper}{o:Oper}{S S':AS}:cG P wr base ops o S S'↔∃v box' tok' nt',aBC P wr base ops o S v box' tok' nt'/\S'=⟨bX S.tmps o.dst v,box',tok',nt'⟩:=by
 cases hg:o.guard with
 | none=>simp only[cG,aBC,hg,zQ]
 | some q =>
  obtain⟨j,want⟩:=q;simp only[cG,aBC,hg];cases hy:dS ops S j with
  | none =>
   simp only;exact⟨False.elim,fun ⟨_,_,_,_,h,_⟩=>h⟩
  | some b =>
   simp only;by_cases hb:b=some want
   .simp only[hb,↓reduceIte,zQ]
   .simp only[hb,↓reduceIte];constructor
    .rintro rfl;exact⟨_,_,_,_,⟨rfl,rfl,rfl,rfl⟩,rfl⟩
    .rintro⟨v,b,t,n,⟨rfl,rfl,rfl,rfl⟩,rfl⟩;rfl
theorem aNV{S:AS}{o:Oper}{x:Operand}{v:AV}{b:Bxs}{t:Nat->Bool}{n:Nat}(h:∀d,o.dst=some d->x≠.tmp d):(⟨bX S.tmps o.dst v,b,t,n⟩:AS).ev x=S.ev x:=by
 cases x with
 | tmp s =>
  simp only[AS.ev,bX];cases hd:o.dst with
  | none=>rfl
  | some d=>exact uO _ _ (fun e=>h d hd (by rw[e]))
 | const _=>rfl
 | global _=>rfl
 | func _=>rfl
theorem yX{ops:Array Oper}{o:Oper}{x:Operand}(hx:x∈o.op.operands){d:Tmp}(h:d∉o.looksAt ops):x≠.tmp d:=by
 rintro rfl;apply h;simp only[Oper.looksAt,ap,gt];exact .inl ⟨.tmp d,by simpa using hx,rfl⟩
theorem aDM{ops:Array Oper}{o:Oper}{j:Nat}{want:Bool}(hg:o.guard=some (j,want)){d:Tmp}(h:d∉o.looksAt ops):(ops[j]?).bind (·.dst)≠some d:=by
 intro e;apply h;simp only[Oper.looksAt,hg,ap];exact .inr (by simp[e])
theorem aD5{base:Nat}{ops:Array Oper}{x y:Oper}{S:AS}{v vx:AV}{b b':Bxs}{t t':Nat->Bool}{n n':Nat}(h:∀d,x.dst=some d->d∉y.looksAt ops):
  aBC P wr base ops y ⟨bX S.tmps x.dst vx,b,t,n⟩ v b' t' n'↔aBC P wr base ops y ⟨S.tmps,b,t,n⟩ v b' t' n':=by
 have rq:∀z∈y.op.operands,(⟨bX S.tmps x.dst vx,b,t,n⟩:AS).ev z=(⟨S.tmps,b,t,n⟩:AS).ev z:=fun z hz=>aNV (S:=⟨S.tmps,b,t,n⟩) fun d hd=>yX hz (h d hd)
 have Aw:Eff P wr base y (⟨bX S.tmps x.dst vx,b,t,n⟩:AS).ev b t n v b' t' n'↔Eff P wr base y (⟨S.tmps,b,t,n⟩:AS).ev b t n v b' t' n' :=
  ⟨aAG rq,aAG fun z hz=>(rq z hz).symm⟩
 unfold aBC;cases hg:y.guard with
 | none=>simp only;exact Aw
 | some q =>
  obtain⟨j,want⟩:=q;have hy:dS ops (⟨bX S.tmps x.dst vx,b,t,n⟩:AS) j=dS ops (⟨S.tmps,b,t,n⟩:AS) j:=by
   unfold dS;cases hd:(ops[j]?).bind (·.dst) with
   | none=>rfl
   | some d =>
    simp only[bX];cases hx:x.dst with
    | none=>rfl
    | some e =>
     simp only;rw[uO _ _ (fun e'=>aDM hg (h e hx) (by rw[hd,e']))]
  simp only[hy];split
  .split
   .exact Aw
   .exact Iff.rfl
  .exact Iff.rfl
theorem aHt{f:Nat->AV}{x y:Option Tmp}{v u:AV}(h:∀d,x=some d->y≠some d):bX (bX f x v) y u=bX (bX f y u) x v:=by
 cases x<;>cases y<;>simp only[bX]
 rename_i d e;have hne:d≠e:=fun e'=>h d rfl (by rw[e'])
 funext j
 simp only[upd];by_cases h1:j=e<;>by_cases h2:j=d
 .exact absurd (h2.symm.trans h1) hne
 .simp[h1,h2];intro e';exact absurd e'.symm hne
 .simp[h1,h2,hne]
 .simp[h1,h2]
theorem jS{base:Nat}{ops:Array Oper}{x y:Oper}{S S1 S2:AS}(hap:x.apart ops y=true)(sw:∀{c0 c1 c2:Bxs} {s0 s1 s2:Nat->Bool} {m0 m1 m2:Nat} {vx vy:AV},Eff P wr base x S.ev c0 s0 m0 vx c1 s1 m1->Eff P wr base y S.ev c1 s1 m1 vy c2 s2 m2->∃c t n,Eff P wr base y S.ev c0 s0 m0 vy c t n/\Eff P wr base x S.ev c t n vx c2 s2 m2)(hx:cG P wr base ops x S S1)(hy:cG P wr base ops y S1 S2):
  ∃S1',cG P wr base ops y S S1'/\cG P wr base ops x S1' S2:=by
 obtain⟨a1,a2,a3⟩:=Oper.apart_spec hap;obtain⟨vx,b1,t1,n1,ex,rfl⟩:=iK.1 hx;obtain⟨vy,b2,t2,n2,ey,rfl⟩:=iK.1 hy;rw[aD5 (S:=⟨S.tmps,b1,t1,n1⟩) a1] at ey
 -- each is an effect,or nothing at all
 have key:∃c t n,aBC P wr base ops y S vy c t n/\aBC P wr base ops x ⟨S.tmps,c,t,n⟩ vx b2 t2 n2:=by
  have ydep:∀(b:Bxs) t n,dS ops ⟨S.tmps,b,t,n⟩=dS ops S:=fun b t n=>rfl
  have evdep:∀(b:Bxs) t n,(⟨S.tmps,b,t,n⟩:AS).ev=S.ev:=fun b t n=>by funext z;cases z<;>rfl
  unfold aBC at ex ey ⊢;simp only[ydep,evdep] at ex ey ⊢
  -- part on the two guards
  cases CS:x.guard with
  | none =>
   simp only[CS] at ex ⊢;cases Ax:y.guard with
   | none=>simp only[Ax] at ey ⊢;exact sw ex ey
   | some q =>
    obtain⟨j,want⟩:=q;simp only[Ax] at ey ⊢;cases Ay:dS ops S j with
    | none=>rw[Ay] at ey;exact ey.elim
    | some b =>
     rw[Ay] at ey;simp only at ey ⊢;by_cases hb:b=some want
     .simp only[hb,↓reduceIte] at ey ⊢;exact sw ex ey
     .simp only[hb,↓reduceIte] at ey ⊢;obtain⟨rfl,rfl,rfl,rfl⟩:=ey;exact⟨_,_,_,⟨rfl,rfl,rfl,rfl⟩,ex⟩
  | some qx =>
   obtain⟨jx,wx⟩:=qx;simp only[CS] at ex ⊢;cases CT:dS ops S jx with
   | none=>rw[CT] at ex;exact ex.elim
   | some bx =>
    rw[CT] at ex;simp only at ex ⊢;by_cases n5:bx=some wx
    .simp only[n5,↓reduceIte] at ex ⊢;cases Ax:y.guard with
     | none=>simp only[Ax] at ey ⊢;exact sw ex ey
     | some q =>
      obtain⟨j,want⟩:=q;simp only[Ax] at ey ⊢;cases Ay:dS ops S j with
      | none=>rw[Ay] at ey;exact ey.elim
      | some b =>
       rw[Ay] at ey;simp only at ey ⊢;by_cases hb:b=some want
       .simp only[hb,↓reduceIte] at ey ⊢;exact sw ex ey
       .simp only[hb,↓reduceIte] at ey ⊢;obtain⟨rfl,rfl,rfl,rfl⟩:=ey;exact⟨_,_,_,⟨rfl,rfl,rfl,rfl⟩,ex⟩
    .simp only[n5,↓reduceIte] at ex ⊢;obtain⟨rfl,rfl,rfl,rfl⟩:=ex;exact⟨b2,t2,n2,ey,rfl,rfl,rfl,rfl⟩
 obtain⟨c,t,n,k1,k2⟩:=key;refine⟨_,iK.2 ⟨vy,c,t,n,k1,rfl⟩,iK.2 ⟨vx,b2,t2,n2,?_,?_⟩⟩
 .rw[aD5 (S:=⟨S.tmps,c,t,n⟩) a3];exact k2
 .rw[aHt (fun d hd=>a2 d hd)]
theorem pQ{base:Nat}{ops:Array Oper}{x y:Oper}{S S1 S2:AS}(hap:x.apart ops y=true)(hc:lD x y=false)(hx:cG P false base ops x S S1)(hy:cG P false base ops y S1 S2):
  ∃S1',cG P false base ops y S S1'/\cG P false base ops x S1' S2:=jS hap (fun h1 h2=>aJX hc h1 h2) hx hy
def fO:Op->Option Operand
 | .load _ p=>some p
 | .store _ p _=>some p
 | _=>none
theorem vS{o:Oper}{p:Operand}{ρ:Operand->AV}{b:Bxs}{v:AV}(ho:fO o.op=some p)(nm:cls o.op=.r)(h:qK P o ρ b v){k':Nat}{rows:Option (List (List AV))}(hk:∀k i off,ρ p=.ptr k i off->k≠k'):
  qK P o ρ (upd b k' rows) v:=by
 cases jo:o.op<;>rw[jo] at ho nm<;>simp only[fO,cls,ad,reduceCtorEq] at ho nm
 subst ho;unfold qK at h ⊢;simp only[jo] at h ⊢;split at h
 .rename_i ag n h1 h2;split at h
  .rename_i h3;exact h
  .rename_i k i off h3;rw[uO _ _ (hk k i off h3)];exact h
  .exact h.elim
 .exact h.elim
theorem aAk{o:Oper}{p:Operand}{ρ:Operand->AV}{b:Bxs}{v:AV}{k':Nat}{rows:Option (List (List AV))}(ho:fO o.op=some p)(nm:cls o.op=.r)(hk:∀k i off,ρ p=.ptr k i off->k≠k')(h:qK P o ρ (upd b k' rows) v):qK P o ρ b v:=by
 have e:upd (upd b k' rows) k' (b k')=b:=by
  funext j
  simp only[upd];split
  .rename_i e;rw[e]
  .rfl
 rw[<-e];exact vS ho nm h hk
theorem sM{base:Nat}{o:Oper}{p:Operand}{ρ:Operand->AV}{b b':Bxs}{v:AV}(ho:fO o.op=some p)(nm:cls o.op=.w)(h:nA P base o ρ b v b'):
  ∃k i off row,ρ p=.ptr k i off/\b'=upd b k row/\∀k' r',k'≠k->nA P base o ρ (upd b k' r') v (upd (upd b k' r') k row):=by
 cases jo:o.op<;>rw[jo] at ho nm<;>simp only[fO,cls,ad,reduceCtorEq] at ho nm
 subst ho;unfold nA at h;simp only[jo] at h;split at h
 .rename_i n cs k i off h1 h2 h3;split at h
  .rename_i rows h4;split at h
   .rename_i r h5;obtain⟨g1,g2,g3,g4⟩:=h;refine⟨k,i,off,_,h3,g4,fun k' r' hne=>?_⟩;unfold nA;simp only[jo,h1,h2,h3,uO _ _ (Ne.symm hne),h4,h5];exact⟨g1,g2,g3,by first|rfl|trivial⟩
   .exact h.elim
  .exact h.elim
 .exact h.elim
theorem aJk{α:Type}(b:Nat->α)(k:Nat)(r:α):upd (upd b k r) k (b k)=b:=by
 funext j
 simp only[upd];split
 .rename_i e;rw[e]
 .rfl
theorem aFI{base:Nat}{x y:Oper}{p q:Operand}{ρ:Operand->AV}{b0 b1 b2:Bxs}{t0 t1 t2:Nat->Bool}{n0 n1 n2:Nat}{vx vy:AV}(hp:fO x.op=some p)(hq:fO y.op=some q)(hk:∀k i off k' i' off',ρ p=.ptr k i off->ρ q=.ptr k' i' off'->k≠k')(hx:Eff P wr base x ρ b0 t0 n0 vx b1 t1 n1)(hy:Eff P wr base y ρ b1 t1 n1 vy b2 t2 n2):∃c t n,Eff P wr base y ρ b0 t0 n0 vy c t n/\Eff P wr base x ρ c t n vx b2 t2 n2:=by
 have cl:∀{o:Oper} {p:Operand},fO o.op=some p->cls o.op=.r∨cls o.op=.w:=by
  intro o p h;cases jo:o.op<;>rw[jo] at h<;>simp only[fO,reduceCtorEq] at h
  .exact .inl rfl
  .exact .inr rfl
 unfold Eff at hx hy ⊢;rcases cl hp with h1|h1<;>rcases cl hq with h2|h2<;>simp only[h1,h2] at hx hy ⊢
 .obtain⟨e,rfl,rfl,rfl⟩:=hx;obtain⟨e',rfl,rfl,rfl⟩:=hy;exact⟨_,_,_,⟨e',rfl,rfl,rfl⟩,e,rfl,rfl,rfl⟩
 .obtain⟨e,rfl,rfl,rfl⟩:=hx;obtain⟨e',rfl,rfl⟩:=hy;obtain⟨k',i',off',row,g1,rfl,g3⟩:=sM hq h2 e';exact⟨_,_,_,⟨e',rfl,rfl⟩,vS hp h1 e fun k i off hh=>hk k i off k' i' off' hh g1,rfl,rfl,rfl⟩
 .obtain⟨e,rfl,rfl⟩:=hx;obtain⟨e',rfl,rfl,rfl⟩:=hy;obtain⟨k',i',off',row,g1,rfl,g3⟩:=sM hp h1 e;exact⟨_,_,_,⟨aAk hq h2 (fun k i off hh=>Ne.symm (hk k' i' off' k i off g1 hh)) e',rfl,rfl,rfl⟩,e,rfl,rfl⟩
 .obtain⟨e,rfl,rfl⟩:=hx;obtain⟨e',rfl,rfl⟩:=hy;obtain⟨k,i,off,row,g1,rfl,g3⟩:=sM hp h1 e;obtain⟨k',i',off',row',g1',rfl,g3'⟩:=sM hq h2 e';have hne:=hk _ _ _ _ _ _ g1 g1';have e2:=g3' k (b0 k) hne;rw[aJk] at e2;refine⟨_,_,_,⟨e2,rfl,rfl⟩,?_,rfl,rfl⟩;rw[aCO _ hne];exact g3 k' row' (Ne.symm hne)
variable {P:Program} {wr:Bool}
def LeK(base:Nat)(G:Gh)(w:World)(b:Bxs)(G':Gh)(w':World)(b':Bxs):Prop:=Le G w G' w'/\∀k,k<base->G.bx k=none->G'.bx k=none/\b' k=b k
theorem LeK.refl(base:Nat)(G:Gh)(w:World)(b:Bxs):LeK base G w b G w b:=⟨Le.refl G w,fun _ _ h=>⟨h,rfl⟩⟩
theorem LeK.trans{base:Nat}{G1 G2 G3:Gh}{w1 w2 w3:World}{b1 b2 b3:Bxs}(h:LeK base G1 w1 b1 G2 w2 b2)(k:LeK base G2 w2 b2 G3 w3 b3):LeK base G1 w1 b1 G3 w3 b3 :=
 ⟨h.1.trans k.1,fun j hj hg=>⟨(k.2 j hj (h.2 j hj hg).1).1,(k.2 j hj (h.2 j hj hg).1).2.trans (h.2 j hj hg).2⟩⟩
theorem aIt.leK{base:Nat}{o:Oper}{G G':Gh}{w w':World}{box box':Bxs}(h:aIt base o G G' box box')(iv:Le G w G' w'):LeK base G w box G' w' box' :=
 ⟨iv,fun k hk hg=>h k (fun e=>by
  cases hd:o.dst with
  | none=>rw[hd] at e;cases e
  | some d =>
   rw[hd] at e;simp only[dc,ad] at e
   omega) hg⟩
def kT(P:Program)(wr:Bool)(base:Nat)(ops:Array Oper):List Nat->AS->AS->Prop
 | [],S,S'=>S'=S
 | i::r,S,S'=>∃o S1,ops[i]?=some o/\cG P wr base ops o S S1/\kT P wr base ops r S1 S'
def aEk(P:Program)(wr:Bool)(base:Nat)(ops:Array Oper):List Oper->AS->AS->Prop
 | [],S,S'=>S'=S
 | o::r,S,S'=>∃S1,cG P wr base ops o S S1/\aEk P wr base ops r S1 S'
theorem kT.of_aRun{base:Nat}{ops:Array Oper}{S':AS}:∀(l:List Oper) (k:Nat) (S:AS),ops.toList.drop k=l->aEk P wr base ops l S S'->kT P wr base ops (List.range' k l.length) S S'
 | [],k,S,_,h=>h
 | o::l,k,S,hl,⟨S1,h1,h2⟩=>by
  have hk:ops.toList[k]?=some o:=by
   have:=d8 (·[0]?) hl
   simpa using this
  refine⟨o,S1,by simpa using hk,h1,?_⟩;refine kT.of_aRun l (k+1) S1 ?_ h2;have:=d8 List.tail hl
  simpa[List.tail_drop] using this
theorem kT.of_all{base:Nat}{ops:Array Oper}{S S':AS}(h:aEk P wr base ops ops.toList S S'):kT P wr base ops (List.range ops.size) S S':=by
 have:=kT.of_aRun ops.toList 0 S (by simp) h
 simpa[List.range_eq_range'] using this
def dH(o:Oper):List Nat:=(o.after.toList.filter fun e=>Region.binds .any e).map (·.on)
def om(f:Nat->Nat)(js:List Nat):Nat:=js.foldl (fun m j=>m ||| (2 ^ j ||| f j)) 0
theorem aNE(f:Nat->Nat)(q:Nat)(js:List Nat):(om f js).testBit q=true↔∃j∈js,q=j∨(f j).testBit q=true:=by
 have key:∀(js:List Nat) (m0:Nat),(js.foldl (fun m j=>m ||| (2 ^ j ||| f j)) m0).testBit q=true↔m0.testBit q=true∨∃j∈js,q=j∨(f j).testBit q=true:=by
  intro js;induction js with
  | nil=>intro m0;simp
  | cons j js ih =>
   intro m0;rw[List.foldl_cons,ih];simp only[Nat.testBit_or,Nat.testBit_two_pow,d9,au,ca];constructor
   .rintro((h|h|h)|⟨x,hx,h⟩)
    .exact .inl h
    .exact .inr ⟨j,.inl rfl,.inl h.symm⟩
    .exact .inr ⟨j,.inl rfl,.inr h⟩
    .exact .inr ⟨x,.inr hx,h⟩
   .rintro(h|⟨x,rfl|hx,h|h⟩)
    .exact .inl (.inl h)
    .exact .inl (.inr (.inl h.symm))
    .exact .inl (.inr (.inr h))
    .exact .inr ⟨x,hx,.inl h⟩
    .exact .inr ⟨x,hx,.inr h⟩
 unfold om;rw[key];simp
def pF:List Oper->List Nat->List Nat
 | [],acc=>acc
 | o::r,acc=>pF r (acc++[om (fun j=>acc.getD j 0) (dH o)])
def lU:Op->Bool
 | .alloc _=>true
 | _=>false
def eZ(ops:Array Oper):Bool :=
 (List.range ops.size).all fun i=>(List.range ops.size).all fun j=>i==j||(match ops[i]?,ops[j]? with
  | some x,some y=>!lU x.op||x.dst != y.dst
  | _,_=>true)
def nQ(n:Nat)(ops:Array Oper):Bool:=ops.toList.all fun o=>match o.dst with
 | some d=>decide (d<n)
 | none=>true
def aJW(ops:Array Oper):Bool :=
 let an:=pF ops.toList []
 (List.range ops.size).all fun i=>(match ops[i]? with|some o=>(dH o).all fun j=>decide (j<i)|none=>true) &&
  (List.range i).all fun j=>(an.getD i 0).testBit j||(match ops[j]?,ops[i]? with
   | some x,some y=>Oper.apart ops x y&&!lD x y
   | _,_=>false)
theorem sO:∀(l:List Oper) (acc:List Nat) (i:Nat),i<acc.length->(pF l acc).getD i 0=acc.getD i 0
 | [],acc,i,_=>rfl
 | o::l,acc,i,h=>by
  rw[pF,sO l _ i (by simp;omega)];simp only[ao];rw[bi h]
theorem aF3:∀(l:List Oper) (acc:List Nat) (i:Nat) (o:Oper),l[i]?=some o->(pF l acc).getD (acc.length+i) 0=om (fun j=>if j<acc.length+i then (pF l acc).getD j 0 else 0) (dH o)
 | [],acc,i,o,h=>by simp at h
 | o0::l,acc,0,o,h=>by
  simp at h;subst h;rw[pF,sO l _ _ (by simp)];simp only[ao,fl,dd (nr0 _),Nat.sub_self,List.getElem?_cons_zero,dx];congr 1
  funext j
  split
  .rename_i hj;have:=sO l (acc++[om (fun j=>acc.getD j 0) (dH o0)]) j (by simp;omega)
   simp only[ao] at this;rw[this,bi hj]
  .rename_i hj;rw[d4 (by omega)];rfl
 | o0::l,acc,i+1,o,h=>by
  have ih:=aF3 l (acc++[om (fun j=>acc.getD j 0) (dH o0)]) i o (by simpa using h);simp only[am,ci,db,cd] at ih;rw[pF];have e:acc.length+(i+1)=acc.length+1+i:=by omega
  rw[e,ih]
theorem aIw{ops:Array Oper}{done:Nat->Prop}(qu:∀i o,ops[i]?=some o->done i->∀j∈dH o,done j):∀(i:Nat) (o:Oper),ops[i]?=some o->(∀j∈dH o,done j) ->
  ∀j,((pF ops.toList []).getD i 0).testBit j=true->done j:=by
 intro i;induction i using Nat.strongRecOn with
 | ind i ih =>
  intro o ho hd j hj;have:=aF3 ops.toList [] i o (by simpa using ho)
  simp only[db,cd] at this;rw[this,aNE] at hj;obtain⟨q,hq,hj⟩:=hj;rcases hj with rfl|hj
  .exact hd _ hq
  .split at hj
   .rename_i hlt;cases z6:ops[q]? with
    | none =>
     have hge:ops.size<=q:=by simpa using z6
     have qv:i<ops.size:=(bj.1 ho).1
     omega
    | some oq=>exact ih q hlt oq z6 (qu q oq z6 (hd q hq)) j hj
   .simp at hj
theorem xR{base:Nat}{ops:Array Oper}{Sf:AS}{Iv:AS->Prop}(Az:∀(i:Nat) (o:Oper) (S S':AS) (rest:List Nat),ops[i]?=some o->i∉rest->cG P wr base ops o S S'->kT P wr base ops rest S' Sf->Iv S->Iv S'){i:Nat}{o:Oper}(hi:ops[i]?=some o):
  ∀(r1 r2:List Nat) (S:AS),(r1++i::r2).Nodup->Iv S ->
  (∀j∈r1,∀x,ops[j]?=some x->∀S S1 S2,Iv S->cG P wr base ops x S S1->cG P wr base ops o S1 S2->∃S1',cG P wr base ops o S S1'/\cG P wr base ops x S1' S2) ->
  kT P wr base ops (r1++i::r2) S Sf->kT P wr base ops (i::(r1++r2)) S Sf
 | [],r2,S,_,_,_,h=>h
 | j::r1,r2,S,hnd,hS,hj,⟨x,S1,hx,h1,h2⟩=>by
  have qw:=List.nodup_cons.1 hnd
  obtain⟨o',S2,ho',k1,k2⟩:=xR Az hi r1 r2 S1 qw.2 (Az j x S S1 _ hx qw.1 h1 h2 hS) (fun q hq=>hj q (by simp[hq])) h2;rw[hi] at ho';cases ho'
  obtain⟨S1',g1,g2⟩:=hj j (by simp) x hx S S1 S2 hS h1 k1;exact⟨o,S1',hi,g1,x,S2,hx,g2,k2⟩
theorem aEB{ops:Array Oper}{listed:Array Bool}{i:Nat}(h:i∈Region.ready .any ops listed):∃o,ops[i]?=some o/\listed.getD i true=false/\∀j∈dH o,listed.getD j false=true:=by
 simp only[Region.ready,ce,ay,bd,c9] at h;obtain⟨h1,h2,h3⟩:=h;have ho:ops[i]?=some ops[i]:=fx h1
 refine⟨ops[i],ho,h2,?_⟩;rw[ho] at h3;simp only[dc,dx] at h3;intro j hj;simp only[dH,bc,ce] at hj;obtain⟨e,⟨he,hb⟩,rfl⟩:=hj;have:=(Array.all_eq_true_iff_forall_mem.1 h3) e (by simpa using he)
 simpa[hb] using this
theorem aCW{a:Array Bool}{i:Nat}(h:i<a.size)(b c:Bool):a.getD i b=a.getD i c:=by simp[Array.getD,h]
theorem pW{n nb base:Nat}{ops:Array Oper}{Q:Exit->Act->World->Prop}{Sf:AS}{G0:Gh}{w0:World}{b0:Bxs}(qh:∀(i:Nat) (o:Oper),ops[i]?=some o->∀j∈dH o,j<i){Iv:AS->Prop}(Az:∀(i:Nat) (o:Oper) (S S':AS) (rest:List Nat),ops[i]?=some o->i∉rest->cG P wr base ops o S S'->kT P wr base ops rest S' Sf->Iv S->Iv S')(DF:∀(i j:Nat) (o x:Oper),ops[i]?=some o->ops[j]?=some x->j<i->((pF ops.toList []).getD i 0).testBit j=false->∀S S1 S2,Iv S->cG P wr base ops x S S1->cG P wr base ops o S1 S2->∃S1',cG P wr base ops o S S1'/\cG P wr base ops x S1' S2)(hal:eZ ops=true)(kz:nQ n ops=true)(j8:base+n<=nb)(hQ:∀a' w' G',cS n nb G' Sf a' w'->LeK base G0 w0 b0 G' w' Sf.box->Q .normal a' w'):∀(fuel:Nat) (listed:Array Bool) (rem:List Nat) (S:AS) (a:Act) (w:World) (G:Gh),
  listed.size=ops.size->rem=(List.range ops.size).filter (fun i=>!listed.getD i true)->rem.length=fuel->(∀i o,ops[i]?=some o->listed.getD i false=true->∀j∈dH o,listed.getD j false=true) ->
  Iv S->kT P wr base ops rem S Sf->cS n nb G S a w->(∀i∈rem,∀o,ops[i]?=some o->pG P base o G S.box)->LeK base G0 w0 b0 G w S.box->wpAny P .any ops Q fuel listed a w:=by
 have hd:∀(o:Oper) d,o∈ops->o.dst=some d->d<n:=by
  intro o d ho qb;have:=aq.1 kz o (by simpa using ho)
  rw[qb] at this;simpa using this
 intro fuel;induction fuel with
 | zero =>
  intro listed rem S a w G hsz ot hlen qu qk jc hr hp iv;have h0:rem=[]:=bg hlen
  rw[h0] at jc ot;refine⟨?_,?_⟩
  .simp only[Region.ready];rw[List.filter_eq_nil_iff];intro i hi;have:=(List.filter_eq_nil_iff.1 ot.symm) i hi
   simp at this;simp[this]
  .have hS:Sf=S:=jc
   subst hS;exact hQ a w G hr iv
 | succ fuel ih =>
  intro listed rem S a w G hsz ot hlen qu qk jc hr hp iv;refine⟨fun xr=>?_,fun i hi=>?_⟩
  .-- something is ready: the first that is left
   exfalso
   cases tc:rem with
   | nil=>rw[tc] at hlen;simp at hlen
   | cons i r =>
    have jg:i∈rem:=by rw[tc];simp
    have hmem':=jg
    rw[ot,ce,ay] at jg;have ho:ops[i]?=some ops[i]:=fx jg.1
    have l7:rem.Pairwise (· < ·):=by rw[ot];exact gj.filter _
    rw[tc] at l7;have yw:∀j,j<i->listed.getD j false=true:=by
     intro j hj;have qr:j<listed.size:=by rw[hsz];omega
     cases hl:listed.getD j false with
     | true=>rfl
     | false =>
      have CU:j∈rem:=by
       rw[ot,ce,ay];refine⟨by omega,?_⟩;rw[aCW qr true false,hl];rfl
      rw[tc] at CU;rcases ca.1 CU with e|e
      .omega
      .have:=(du.1 l7).1 j e
       omega
    have uv:i∈Region.ready .any ops listed:=by
     simp only[Region.ready,ce,ay];refine⟨jg.1,?_⟩;rw[ho];simp only[dc,dx,bd];refine⟨jg.2,?_⟩;rw[Array.all_eq_true_iff_forall_mem];intro e he;by_cases hb:Region.binds .any e=true
     .have qv:e.on<i:=qh i _ ho e.on (by simp only[dH,bc,ce];exact⟨e,⟨by simpa using he,hb⟩,rfl⟩)
      simp[yw e.on qv]
     .simp[hb]
    rw[xr] at uv;simp at uv
  .obtain⟨o,ho,hl,A0⟩:=aEB hi;have k7:i<ops.size:=(bj.1 ho).1
   have xt:i∈rem:=by
    rw[ot,ce,ay];exact⟨k7,by simp[hl]⟩
   obtain⟨r1,r2,tx⟩:=List.append_of_mem xt;have l7:rem.Pairwise (· < ·):=by rw[ot];exact gj.filter _
   rw[tx] at l7;have n6:∀j∈r1,j<i:=fun j hj=>(List.pairwise_append.1 l7).2.2 j hj i (by simp)
   have yx:∀j∈r2,i<j:=fun j hj=>(du.1 (List.pairwise_append.1 l7).2.1).1 j hj
   have yy:∀j∈r1,∀x,ops[j]?=some x->∀S S1 S2,Iv S->cG P wr base ops x S S1->cG P wr base ops o S1 S2->∃S1',cG P wr base ops o S S1'/\cG P wr base ops x S1' S2:=by
    intro j hj x hx;refine DF i j o x ho hx (n6 j hj) ?_;cases h2:((pF ops.toList []).getD i 0).testBit j with
    | false=>rfl
    | true =>
     exfalso
     have xu:j∈rem:=by rw[tx];simp[hj]
     rw[ot,ce] at xu;have A1:=aIw (done:=fun q=>listed.getD q false=true) qu i o ho A0 j h2;have qr:j<listed.size:=by rw[hsz];have:=n6 j hj;omega
     rw[aCW qr true false,A1] at xu;simp at xu
   have hnd:(r1++i::r2).Nodup:=l7.imp (fun h=>Nat.ne_of_lt h)
   have uw:i∉r1++r2:=fun hm=>by
    rcases ap.1 hm with h|h
    .have:=n6 i h;omega
    .have:=yx i h;omega
   rw[tx] at jc;obtain⟨o',S1,ho',jp,qy⟩:=xR Az ho r1 r2 S hnd qk yy jc;rw[ho] at ho';cases ho'
   have BT:=Az i o S S1 _ ho uw jp qy qk;refine aCU ho jp hr hd j8 (hp i xt o ho) fun a' w' G' qp BU hk=>?_
   have tz:∀j,j≠i->∀b,(listed.setIfInBounds i true).getD j b=listed.getD j b:=fun j hj b=>getD_set_ne b (Ne.symm hj)
   have A2:r1++r2=(List.range ops.size).filter fun j=>!(listed.setIfInBounds i true).getD j true:=by
    have e1:r1++r2=rem.filter (· != i):=by
     rw[tx,dm,List.filter_cons];simp only[bne_self_eq_false,bu,↓reduceIte];rw[ez.2 (fun j hj=>by have:=n6 j hj;simp;omega),ez.2 (fun j hj=>by have:=yx j hj;simp;omega)]
    rw[e1,ot,List.filter_filter];apply List.filter_congr;intro j hj;by_cases e:j=i
    .subst e;have:(listed.setIfInBounds j true).getD j true=true:=by
      simp[Array.getD]
     simp[this]
    .rw[tz j e];simp[e]
   refine ih (listed.setIfInBounds i true) (r1++r2) S1 a' w' G' (by simp[hsz]) A2 (by rw[tx] at hlen;simp at hlen ⊢;omega) ?_ BT qy qp ?_ (iv.trans (hk.leK BU))
   .intro j x hx qz q hq;by_cases e:j=i
    .subst e;rw[ho] at hx;cases hx;exact getD_set_true (A0 q hq)
    .rw[tz j e] at qz;exact getD_set_true (qu j x hx qz q hq)
   .intro j hj x hx;have xu:j∈rem:=by
     rw[tx];rcases ap.1 hj with h|h
     .exact ap.2 (.inl h)
     .exact ap.2 (.inr (f8 _ h))
    have A3:=hp j xu x hx;have hne:j≠i:=by
     rcases ap.1 hj with h|h
     .have:=n6 j h;omega
     .have:=yx j h;omega
    unfold pG at A3 ⊢;split at A3
    .rename_i T s jo xm;obtain⟨zs,h1,h2,h3⟩:=A3;have qr:j<ops.size:=(bj.1 hx).1
     have ik:=aq.1 (aq.1 hal j (by simpa using qr)) i (by simpa using k7);rw[hx,ho] at ik;have yz:x.dst≠o.dst:=by
      simp only[d9,g8,hne,false_or,jo,lU,Bool.not_true,bu] at ik;simpa using ik
     have:=hk (base+s) (fun e=>yz (by
      rw[xm];cases qb:o.dst with
      | none=>rw[qb] at e;cases e
      | some d =>
       rw[qb] at e;simp only[dc,ad] at e;have:s=d:=Nat.add_left_cancel e
       rw[this])) h3
     exact⟨zs,h1,by rw[this.2];exact h2,this.1⟩
    .trivial
theorem aG4{n nb base:Nat}{ops:Array Oper}{Q:Exit->Act->World->Prop}{Sf:AS}{G0:Gh}{w0:World}{b0:Bxs}(l8:aJW ops=true)(hal:eZ ops=true)(kz:nQ n ops=true)(j8:base+n<=nb)(hQ:∀a' w' G',cS n nb G' Sf a' w'->LeK base G0 w0 b0 G' w' Sf.box->Q .normal a' w')(fuel:Nat)(listed:Array Bool)(rem:List Nat)(S:AS)(a:Act)(w:World)(G:Gh)(h1:listed.size=ops.size)(h2:rem=(List.range ops.size).filter (fun i=>!listed.getD i true))(h3:rem.length=fuel)(h4:∀i o,ops[i]?=some o->listed.getD i false=true->∀j∈dH o,listed.getD j false=true)(h5:kT P false base ops rem S Sf)(h6:cS n nb G S a w)(h7:∀i∈rem,∀o,ops[i]?=some o->pG P base o G S.box)(h8:LeK base G0 w0 b0 G w S.box):wpAny P .any ops Q fuel listed a w:=by
 have key:∀(i:Nat) (o:Oper),ops[i]?=some o->(∀j∈dH o,j<i)/\∀j x,ops[j]?=some x->j<i->((pF ops.toList []).getD i 0).testBit j=true∨x.apart ops o=true/\lD x o=false:=by
  intro i o ho;have k7:i<ops.size:=(bj.1 ho).1
  have ik:=aq.1 l8 i (by simpa using k7);rw[ho] at ik;simp only[bd] at ik;refine⟨fun j hj=>by simpa using aq.1 ik.1 j hj,fun j x hx hj=>?_⟩;have h2:=aq.1 ik.2 j (by simpa using hj);rw[hx] at h2;simpa only[d9,bd,c9] using h2
 refine pW (fun i o ho=>(key i o ho).1) (Iv:=fun _=>True) (fun _ _ _ _ _ _ _ _ _ _=>trivial) ?_ hal kz j8 hQ fuel listed rem S a w G h1 h2 h3 h4 trivial h5 h6 h7 h8;intro i j o x ho hx hj hb S S1 S2 _ g1 g2;rcases (key i o ho).2 j x hx hj with h|⟨h,h'⟩
 .rw[hb] at h;cases h
 .exact pQ h h' g1 g2
def vO(ops:Array Oper):Bool :=
 (List.range ops.size).all fun i=>(List.range ops.size).all fun j=>i==j||(match ops[i]?,ops[j]? with
  | some x,some y=>x.dst==none||x.dst != y.dst
  | _,_=>true)
def uA(o:Op):Bool:=(fO o).isSome
def aBw(ops:Array Oper):Bool :=
 let an:=pF ops.toList []
 vO ops&&(List.range ops.size).all fun i=>(match ops[i]? with|some o=>(dH o).all fun j=>decide (j<i)|none=>true) &&
  (List.range i).all fun j=>(an.getD i 0).testBit j||(match ops[j]?,ops[i]? with
   | some x,some y=>Oper.apart ops x y&&(!lD x y||uA x.op&&uA y.op)
   | _,_=>false)
def NP(x:AV):Prop:=match x with|.ptr .. => False|_=>True
def NK(x y:AV):Prop:=match x with
 | .ptr k _ _=>match y with
  | .ptr k' _ _=>k≠k'
  | _=>True
 | _=>True
theorem NK.symm{x y:AV}(h:NK x y):NK y x:=by
 cases x<;>cases y<;>simp only[NK] at h ⊢
 exact Ne.symm h
def oA:List Oper->List (Bool × Operand)
 | []=>[]
 | o::r=>match o.op with
  | .load _ p=>(false,p)::oA r
  | .store _ p _=>(true,p)::oA r
  | _=>oA r
def aJg(S:AS)(b:Bool)(p:Operand):List (Bool × Operand)->Prop
 | []=>True
 | (c,q)::r=>(match b,c with|false,false=>True|_,_=>NK (S.ev p) (S.ev q))/\aJg S b p r
def Far(S:AS):List (Bool × Operand)->Prop
 | []=>True
 | (b,p)::r=>aJg S b p r/\Far S r
theorem aDt{S:AS}{b:Bool}{p:Operand}{l:List (Bool × Operand)}(h:aJg S b p l):∀c q,(c,q)∈l->(b||c)=true->NK (S.ev p) (S.ev q):=by
 induction l with
 | nil=>intro c q hm;simp at hm
 | cons x r ih =>
  obtain⟨c0,q0⟩:=x;intro c q hm hb;simp only[aJg] at h;rcases ca.1 hm with e|hm
  .cases e;have h1:=h.1;cases b<;>cases c0<;>first|exact h1|(simp at hb)
  .exact ih h.2 c q hm hb
theorem aHR{o:Oper}{p:Operand}(hp:fO o.op=some p){l:List Oper}(h:o∈l):(match o.op with|.store .. => true|_=>false,p)∈oA l:=by
 induction l with
 | nil=>simp at h
 | cons x r ih =>
  rcases ca.1 h with e|h
  .subst e;unfold oA;cases jo:o.op<;>rw[jo] at hp<;>simp only[fO,ad,reduceCtorEq] at hp
   .subst hp;simp
   .subst hp;simp
  .have:=ih h
   unfold oA;split
   .exact f8 _ this
   .exact f8 _ this
   .exact this
theorem aEb{S:AS}:∀{l:List Oper} {i j:Nat} {x y:Oper} {p q:Operand},Far S (oA l)->i<j->l[i]?=some x->l[j]?=some y->fO x.op=some p->fO y.op=some q->lD x y=true->NK (S.ev p) (S.ev q):=by
 intro l;induction l with
 | nil=>intro i j x y p q _ _ h;simp at h
 | cons o r ih =>
  intro i j x y p q hf pr hx hy hp hq hc;cases j with
  | zero=>omega
  | succ j =>
   cases i with
   | succ i =>
    refine ih (i:=i) (j:=j) ?_ (by omega) (by simpa using hx) (by simpa using hy) hp hq hc;unfold oA at hf;split at hf
    .exact hf.2
    .exact hf.2
    .exact hf
   | zero =>
    simp at hx;subst hx;have hm:y∈r:=fg (by simpa using hy)
    have mb:=aHR hq hm
    cases jo:o.op<;>rw[jo] at hp<;>simp only[fO,ad,reduceCtorEq] at hp
    .subst hp;unfold oA at hf;rw[jo] at hf;refine aDt hf.1 _ _ mb ?_;cases z6:y.op<;>rw[z6] at hq<;>simp only[fO,ad,reduceCtorEq] at hq
     .simp[lD,jo,z6,cls] at hc
     .rfl
    .subst hp;unfold oA at hf;rw[jo] at hf;exact aDt hf.1 _ _ mb (by simp)
def mH(ops:Array Oper)(S:AS):Prop:=∀o∈ops.toList,∀d,o.dst=some d->NP (S.tmps d)
def Ivs(Sf S:AS):Prop:=∀t,S.tmps t=Sf.tmps t∨NP (S.tmps t)
theorem aBu{ops:Array Oper}(h:vO ops=true){i j:Nat}{x y:Oper}{d:Tmp}(hx:ops[i]?=some x)(hy:ops[j]?=some y)(h1:x.dst=some d)(h2:y.dst=some d):i=j:=by
 have hi:=(bj.1 hx).1;have hj:=(bj.1 hy).1;have:=aq.1 (aq.1 h i (by simpa using hi)) j (by simpa using hj)
 rw[hx,hy] at this;simpa[h1,h2] using this
theorem lF{base:Nat}{ops:Array Oper}{Sf:AS}{t:Tmp}:∀{rest:List Nat} {S:AS},(∀j∈rest,∀x,ops[j]?=some x->x.dst≠some t)->kT P wr base ops rest S Sf->Sf.tmps t=S.tmps t
 | [],S,_,h=>by
  have:Sf=S:=h
  rw[this]
 | j::r,S,hr,⟨x,S1,hx,h1,h2⟩=>by
  rw[lF (fun q hq=>hr q (by simp[hq])) h2];obtain⟨v,b,t',n',he,rfl⟩:=iK.1 h1;have:=hr j (by simp) x hx
  simp only[bX];cases hd:x.dst with
  | none=>rfl
  | some d=>exact uO _ _ (fun e=>this (by rw[hd,e]))
theorem aCR{base:Nat}{ops:Array Oper}{Sf:AS}(hu:vO ops=true)(i:Nat)(o:Oper)(S S':AS)(rest:List Nat)(ho:ops[i]?=some o)(uw:i∉rest)(jp:cG P wr base ops o S S')(jc:kT P wr base ops rest S' Sf)(qk:Ivs Sf S):Ivs Sf S':=by
 intro t;by_cases hd:o.dst=some t
 .refine .inl (lF (fun j hj x hx up=>?_) jc).symm;have:=aBu hu ho hx hd up
  subst this;exact uw hj
 .obtain⟨v,b,t',n',he,rfl⟩:=iK.1 jp;have:bX S.tmps o.dst v t=S.tmps t:=by
   unfold bX;cases qb:o.dst with
   | none=>rfl
   | some d=>exact uO _ _ (fun e=>hd (by rw[qb,e]))
  show bX S.tmps o.dst v t=Sf.tmps t∨NP (bX S.tmps o.dst v t)
  rw[this];exact qk t
theorem aEl{n nb base:Nat}{ops:Array Oper}{Q:Exit->Act->World->Prop}{Sf:AS}{G0:Gh}{w0:World}{b0:Bxs}(l8:aBw ops=true)(hal:eZ ops=true)(kz:nQ n ops=true)(j8:base+n<=nb)(sf:Far Sf (oA ops.toList))(hQ:∀a' w' G',cS n nb G' Sf a' w'->LeK base G0 w0 b0 G' w' Sf.box->Q .normal a' w')(fuel:Nat)(listed:Array Bool)(rem:List Nat)(S:AS)(a:Act)(w:World)(G:Gh)(ot:rem=List.range ops.size)(pa:mH ops S)(h1:listed.size=ops.size)(h2:rem=(List.range ops.size).filter (fun i=>!listed.getD i true))(h3:rem.length=fuel)(h4:∀i o,ops[i]?=some o->listed.getD i false=true->∀j∈dH o,listed.getD j false=true)(h5:kT P false base ops rem S Sf)(h6:cS n nb G S a w)(h7:∀i∈rem,∀o,ops[i]?=some o->pG P base o G S.box)(h8:LeK base G0 w0 b0 G w S.box):wpAny P .any ops Q fuel listed a w:=by
 unfold aBw at l8;simp only[bd] at l8;obtain⟨hu,l8⟩:=l8;have key:∀(i:Nat) (o:Oper),ops[i]?=some o->(∀j∈dH o,j<i)/\∀j x,ops[j]?=some x->j<i->((pF ops.toList []).getD i 0).testBit j=true∨x.apart ops o=true/\(lD x o=false∨uA x.op=true/\uA o.op=true):=by
  intro i o ho;have k7:i<ops.size:=(bj.1 ho).1
  have ik:=aq.1 l8 i (by simpa using k7);rw[ho] at ik;simp only[bd] at ik;refine⟨fun j hj=>by simpa using aq.1 ik.1 j hj,fun j x hx hj=>?_⟩;have h2:=aq.1 ik.2 j (by simpa using hj);rw[hx] at h2;simpa only[d9,bd,c9] using h2
 have start:Ivs Sf S:=by
  intro t;by_cases hd:∃o∈ops.toList,o.dst=some t
  .obtain⟨o,ho,hd⟩:=hd;exact .inr (pa o ho t hd)
  .refine .inl (lF (fun j _ x hx up=>hd ⟨x,by simpa using dk hx,up⟩) h5).symm
 refine pW (fun i o ho=>(key i o ho).1) (Iv:=Ivs Sf) (fun i o S' S'' rest ho uw jp jc qk=>aCR hu i o S' S'' rest ho uw jp jc qk) ?_ hal kz j8 hQ fuel listed rem S a w G h1 h2 h3 h4 start h5 h6 h7 h8;intro i j o x ho hx hj hb S' S1 S2 qk g1 g2;rcases (key i o ho).2 j x hx hj with h|⟨h,h'⟩
 .rw[hb] at h;cases h
 .cases hc:lD x o with
  | false=>exact pQ h hc g1 g2
  | true =>
   rcases h' with h'|⟨tw,vv⟩
   .rw[hc] at h';cases h'
   .obtain⟨p,hp⟩:=cq.1 tw;obtain⟨q,hq⟩:=cq.1 vv;have wl:=aEb sf hj (by simpa using hx) (by simpa using ho) hp hq hc;refine jS h (fun {c0 c1 c2 s0 s1 s2 m0 m1 m2 vx vy} e1 e2=>?_) g1 g2;have back:∀(z:Operand) k i off,S'.ev z=.ptr k i off->Sf.ev z=.ptr k i off:=by
     intro z k i off hz;cases z with
     | tmp t =>
      rcases qk t with e|e
      .exact e.symm.trans hz
      .have BV:S'.tmps t=.ptr k i off:=hz
       rw[BV] at e;exact e.elim
     | const c=>exact hz
     | global c=>exact hz
     | func c=>exact hz
    refine aFI hp hq (fun k i1 off k' i2 off' hk jv=>?_) e1 e2;rw[back p _ _ _ hk,back q _ _ _ jv] at wl;exact wl
variable {P:Program}
structure Cx where
 base:Nat
 nb:Nat
 n:Nat
 B0:Bxs
structure LeB (base:Nat) (G:Gh) (w:World) (G':Gh) (w':World):Prop where
 os:w'.os=w.os
 tape:w'.tape=w.tape
 output:w'.output=w.output
 size:w.heap.size<=w'.heap.size
 whole:∀b,b<w.heap.size->G.kind b=.whole->G'.kind b=.whole/\w'.heap[b]?=w.heap[b]?
 part:∀b f c,G.kind b=.part f c->(∃f',f<=f'/\G'.kind b=.part f' c)/\∀a:Addr,a.block=b->a.off<f->w'.cell? a=w.cell? a
 bx:∀k,k<base->G'.bx k=G.bx k
 nt:G.nt<=G'.nt
 tk:∀t,t<G.nt->G'.tk t=none∨(G'.tk t=G.tk t/\∀g,G.tk t=some (some g)->G'.kind g=G.kind g/\(G.kind g=.ex->w'.heap[g]?=w.heap[g]?))
 ty:∀(b:Nat) cs T f,w.heap[b]?=some (.cells cs T f)->∃cs' f',w'.heap[b]?=some (.cells cs' T f')
theorem LeK.leB{base:Nat}{G G':Gh}{w w':World}{b b':Bxs}(h:LeK base G w b G' w' b'):LeB base G w G' w' :=
 ⟨h.1.os,h.1.tape,h.1.output,h.1.size,h.1.whole,h.1.part,fun k hk=>by
  cases hg:G.bx k with
  | none=>exact(h.2 k hk hg).1
  | some x=>exact h.1.bx k x hg,h.1.nt,h.1.tk,h.1.ty⟩
theorem LeB.refl(base:Nat)(G:Gh)(w:World):LeB base G w G w:=(LeK.refl base G w fun _=>none).leB
theorem LeB.trans{base:Nat}{G1 G2 G3:Gh}{w1 w2 w3:World}(h:LeB base G1 w1 G2 w2)(k:LeB base G2 w2 G3 w3):LeB base G1 w1 G3 w3 where
 os:=k.os.trans h.os
 tape:=k.tape.trans h.tape
 output:=k.output.trans h.output
 size:=cb h.size k.size
 whole b hb hk:=by
  obtain⟨h1,h2⟩:=h.whole b hb hk;obtain⟨k1,k2⟩:=k.whole b (ct hb h.size) h1;exact⟨k1,k2.trans h2⟩
 part b f c hk:=by
  obtain⟨⟨f1,hf1,h1⟩,h2⟩:=h.part b f c hk;obtain⟨⟨f2,uk,k1⟩,k2⟩:=k.part b f1 c h1;exact⟨⟨f2,cb hf1 uk,k1⟩,fun a ha ho=>(k2 a ha (ct ho hf1)).trans (h2 a ha ho)⟩
 bx j hj:=(k.bx j hj).trans (h.bx j hj)
 nt:=cb h.nt k.nt
 tk t ht:=by
  rcases k.tk t (ct ht h.nt) with k1|⟨k1,k2⟩
  .exact .inl k1
  .rcases h.tk t ht with h1|⟨h1,h2⟩
   .exact .inl (k1.trans h1)
   .exact .inr ⟨k1.trans h1,fun g hg=>by
     obtain⟨a1,a2⟩:=h2 g hg;obtain⟨b1,b2⟩:=k2 g (h1.trans hg);exact⟨b1.trans a1,fun he=>(b2 (a1.trans he)).trans (a2 he)⟩⟩
 ty b cs T f hb:=by
  obtain⟨_,_,h1⟩:=h.ty b cs T f hb;exact k.ty b _ T _ h1
inductive bF (p q:Nat->Prop):AV->Prop
 | bot:bF p q .bot
 | d {x}:bF p q (.d x)
 | osl {sz es o} (h:∀t,o=.tok t->q t):bF p q (.osl sz es o)
 | cptr {cs off}:bF p q (.cptr cs off)
 | ptr {k i off} (h:p k):bF p q (.ptr k i off)
 | here {k T} (h:p k):bF p q (.here k T)
 | buf {E t es} (h:q t):bF p q (.buf E t es)
 | msl {k off n sz} (h:p k):bF p q (.msl k off n sz)
 | fn {f caps} (h:∀c∈caps,bF p q c):bF p q (.fn f caps)
 | agg {cs} (h:∀c∈cs,bF p q c):bF p q (.agg cs)
 | tup {cs} (h:∀c∈cs,bF p q c):bF p q (.tup cs)
 | ex {t sz es} (h:q t):bF p q (.ex t sz es)
 | stk {t sz es} (h:q t):bF p q (.stk t sz es)
 | que {t sz es} (h:q t):bF p q (.que t sz es)
 | mp {t es} (h:q t) (hs:∀e∈es,∀t',e.2.2=.tok t'->q t'):bF p q (.mp t es)
 | mpd {es}:bF p q (.mpd es)
inductive mR:D->D->Prop
 | refl {x}:mR x x
 | emp {sz sz'}:mR (.sl sz []) (.sl sz' [])
 | sl {sz:Nat} {es es':List (List D)} (hl:es.length=es'.length) (hs:∀i (h1:i<es.length) (h2:i<es'.length),es[i].length=es'[i].length)
   (h:∀i (h1:i<es.length) (h2:i<es'.length) j (g1:j<es[i].length) (g2:j<es'[i].length),mR es[i][j] es'[i][j]):mR (.sl sz es) (.sl sz es')
theorem mR.len{sz sz':Nat}{es es':List (List D)}(h:mR (.sl sz es) (.sl sz' es')):es'.length=es.length:=by
 cases h with
 | refl=>rfl
 | emp=>rfl
 | sl hl=>exact hl.symm
theorem RVd.dsub{c:Addr->Option Value}{ps:Addr->Prop}{x y:D}{v:Value}(h:mR x y)(r:RVd c ps x v):RVd c ps y v:=by
 induction h generalizing v with
 | refl=>exact r
 | emp =>
  cases r with
  | sl u i8 i9 hsz hA hc hr=>exact .sl (es:=[]) u i8 i9 (by simp) (by simp) (fun a _ i j hi _=>by simp at hi) (fun i j hi _=>by simp at hi)
 | @sl sz es es' hl hs h ih =>
  generalize hn:es.length=n at r;cases r with
  | sl u i8 i9 hsz hA hc hr =>
   have BW:∀e∈es',e.length=sz:=by
    intro e he;obtain⟨i,hi,rfl⟩:=bf he;have h1:i<es.length:=by omega
    rw[<-hs i h1 hi];exact hsz _ (aa h1)
   rw[hl];refine .sl u (by omega) i9 BW (fun hne=>hA fun e=>hne ?_) (fun a ha i j hi hj=>hc a ha i j (by omega) hj) (fun i j hi hj=>?_)
   .subst e;simp at hl;exact bg (by simpa using hl.symm)
   .have h1:i<es.length:=by omega
    have g1:j<es[i].length:=by rw[hs i h1 hi];exact hj
    exact ih i h1 hi j g1 hj (hr i j h1 g1)
def DS1(r r':List D):Prop:=r.length=r'.length/\∀j (g1:j<r.length) (g2:j<r'.length),mR r[j] r'[j]
def DSs(es es':List (List D)):Prop:=es.length=es'.length/\∀i (h1:i<es.length) (h2:i<es'.length),DS1 es[i] es'[i]
theorem DSs.sub{es es':List (List D)}(h:DSs es es')(sz:Nat):mR (.sl sz es) (.sl sz es') :=
 .sl h.1 (fun i h1 h2=>(h.2 i h1 h2).1) fun i h1 h2 j g1 g2=>(h.2 i h1 h2).2 j g1 g2
@[simp] theorem aOf(x:D):mR x x:=.refl
@[simp] theorem aP4(s s':Nat):mR (.sl s []) (.sl s' []):=.emp
@[simp] theorem aSq:DS1 [] []:=⟨rfl,fun j h=>by simp at h⟩
@[simp] theorem aPp(r:List D):DS1 r r:=⟨rfl,fun j _ _=>.refl⟩
@[simp] theorem aOT{x y:D}{xs ys:List D}:DS1 (x::xs) (y::ys)↔mR x y/\DS1 xs ys:=by
 constructor
 .rintro⟨h1,h2⟩;exact⟨h2 0 (by simp) (by simp),by simpa using h1,fun j g1 g2=>h2 (j+1) (by simpa using g1) (by simpa using g2)⟩
 .rintro⟨h1,h2,h3⟩;refine⟨by simp[h2],fun j g1 g2=>?_⟩
  match j with
  | 0=>exact h1
  | j+1=>exact h3 j (by simpa using g1) (by simpa using g2)
theorem DSs.snoc{es:List (List D)}{r r':List D}(h:DS1 r r'):DSs (es++[r]) (es++[r']):=by
 refine⟨by simp,fun i h1 h2=>?_⟩;by_cases e:i<es.length
 .rw[b6 e,b6 e];simp
 .have:i=es.length:=by simp at h1;omega
  subst this;simpa using h
theorem DSs.one{r r':List D}(h:DS1 r r'):DSs [r] [r']:=DSs.snoc (es:=[]) h
inductive To (p q:Nat->Prop) (fz:Option (Nat × Nat × List (List D))):AV->AV->Prop
 | bot {x}:To p q fz x .bot
 | same {x} (h:bF p q x):To p q fz x x
 | data {sz es o}:To p q fz (.osl sz es o) (.d (.sl sz es))
 | nil {sz sz' es} (hz:sz'=0->sz=0):es=[]->To p q fz (.osl sz es .full) (.osl sz' [] .full)
 | dsub {x y} (h:mR x y):To p q fz (.d x) (.d y)
 | odsub {sz es o y} (h:mR (.sl sz es) y):To p q fz (.osl sz es o) (.d y)
 | osub {sz es sz' es'} (hz:sz'=0->sz=0) (h:mR (.sl sz es) (.sl sz' es')):To p q fz (.osl sz es .full) (.osl sz' es' .full)
 | otok {sz es es' o} (h:mR (.sl sz es) (.sl sz es')) (ho:∀t,o=.tok t->q t):To p q fz (.osl sz es o) (.osl sz es' o)
 | frz {k sz es} (h:fz=some (k,sz,es)):To p q fz (.msl k 0 es.length sz) (.d (.sl sz es))
 | agg {cs ds:List AV} (hl:cs.length=ds.length) (h:∀i (h1:i<cs.length) (h2:i<ds.length),To p q fz cs[i] ds[i]):To p q fz (.agg cs) (.agg ds)
 | tup {cs ds:List AV} (hl:cs.length=ds.length) (h:∀i (h1:i<cs.length) (h2:i<ds.length),To p q fz cs[i] ds[i]):To p q fz (.tup cs) (.tup ds)
def Gh.weak(G:Gh)(p:Nat->Prop)[DecidablePred p](b:Option Nat)(nt':Nat):Gh :=
 { bx:=fun k=>if p k then G.bx k else none,kind:=fun j=>if b=some j then .whole else G.kind j,tk:=fun t=>if t<nt' then G.tk t else none,nt:=nt' }
theorem cY{G:Gh}{w:World}{nt':Nat}{p:Nat->Prop}[DecidablePred p]{b:Option Nat}(hb:∀j,b=some j->G.kind j=.box)(a:Addr)(u:Value)(h:G.ps a)(hc:w.cell? a=some u):(G.weak p b nt').ps a/\w.cell? a=some u:=by
 refine⟨?_,hc⟩;unfold Gh.ps at h ⊢;simp only[Gh.weak];by_cases e:b=some a.block
 .simp[e]
 .simp only[e,↓reduceIte];exact h
theorem sK{G:Gh}{nt':Nat}{p:Nat->Prop}[DecidablePred p]{b:Option Nat}(hb:∀j,b=some j->G.kind j=.box){sz n:Nat}{o:Own}{v:Value}(h:tI G sz n o v)(hq:∀t,o=.tok t->t<G.nt->t<nt'):tI (G.weak p b nt') sz n o v:=by
 cases o with
 | full=>exact h
 | tok t =>
  obtain⟨h1,h2⟩:=h;have hlt:=hq t rfl h1;refine⟨hlt,fun x hx=>?_⟩;simp only[Gh.weak,hlt,↓reduceIte] at hx;have:=h2 x hx
  cases x with
  | none=>exact this
  | some g =>
   obtain⟨cap,hv,hk⟩:=this;refine⟨cap,hv,?_⟩;simp only[Gh.weak];by_cases e:b=some g
   .have:=hb g e
    rw[hk] at this;cases this
   .simp only[e,↓reduceIte];exact hk
theorem RV.weak{G:Gh}{w:World}{nt':Nat}{p q:Nat->Prop}[DecidablePred p]{b:Option Nat}(hb:∀j,b=some j->G.kind j=.box){x:AV}{v:Value}(h:RV G w x v)(ho:bF p q x)(hq:∀t,q t->t<G.nt->t<nt'):RV (G.weak p b nt') w x v:=by
 induction h with
 | bot=>exact .bot
 | d h1=>exact .d (h1.mono (cY hb))
 | osl h1 h2 =>
  cases ho with
  | osl ho=>exact .osl (h1.mono (cY hb)) (sK hb h2 fun t ht=>hq t (ho t ht))
 | ptr h1 =>
  cases ho with
  | ptr hp=>exact .ptr (by simp only[Gh.weak,hp,↓reduceIte];exact h1)
 | buf h1 h2 h3 h4 =>
  cases ho with
  | buf ho=>exact .buf (h1.mono (cY hb)) (sK hb h2 fun t ht=>hq t (by cases ht;exact ho)) (by simp only[Gh.weak];split;exact h3;exact fun e=>by cases e) (by simp only[Gh.weak];split;exact h4;exact fun g e=>by cases e)
 | here h1 h2 =>
  cases ho with
  | here hp=>exact .here (by simp only[Gh.weak,hp,↓reduceIte];exact h1) h2
 | cptr a u hc hr=>exact .cptr a u (fun j hj=>cY hb _ _ (hc j hj).1 (hc j hj).2) (fun j hj=>(hr j hj).mono (cY hb))
 | msl h1 h2 h3 =>
  cases ho with
  | msl hp=>exact .msl (by simp only[Gh.weak,hp,↓reduceIte];exact h1) h2 h3
 | fn hl _ ih =>
  cases ho with
  | fn hp=>exact .fn hl fun i h1 h2=>ih i h1 h2 (hp _ (aa h1))
 | agg hl _ jq ih =>
  cases ho with
  | agg hp=>exact .agg hl (fun i h1 h2=>ih i h1 h2 (hp _ (aa h1))) jq
 | tup hl _ ih =>
  cases ho with
  | tup hp=>exact .tup hl fun i h1 h2=>ih i h1 h2 (hp _ (aa h1))
 | ex h1 =>
  cases ho with
  | ex ho =>
   obtain⟨r1,r0,r2⟩:=h1;have hlt:=hq _ ho r1;refine .ex ⟨hlt,r0,fun x hx=>?_⟩;simp only[Gh.weak,hlt,↓reduceIte] at hx;obtain⟨g,cap,cs,e,rfl,h2,h3,h4,h5,h6,h7,h8,h9,yi⟩:=r2 x hx;refine⟨g,cap,cs,e,rfl,h2,h3,h4,?_,h6,h7,h8,fun i g1 g2=>(h9 i g1 g2).mono (cY hb),yi⟩;simp only[Gh.weak];rw[ac]
   .exact h5
   .intro e1;have:=hb g e1
    rw[h5] at this;cases this
 | stk h1 =>
  cases ho with
  | stk ho =>
   obtain⟨r1,A,cap,hv,hc1,hm,r2⟩:=h1;have hlt:=hq _ ho r1;refine .stk ⟨hlt,A,cap,hv,hc1,hm,fun x hx=>?_⟩;simp only[Gh.weak,hlt,↓reduceIte] at hx;have h0:=r2 x hx;cases x with
   | none=>exact h0
   | some g =>
    obtain⟨hA,vs,sp,e,h5,h6,h7,h8,h9⟩:=h0;refine⟨hA,vs,sp,e,?_,h6,h7,h8.mono (cY hb),h9⟩;simp only[Gh.weak];rw[ac]
    .exact h5
    .intro e1;have:=hb g e1
     rw[h5] at this;cases this
 | que h1 h2 =>
  cases ho with
  | que ho =>
   have hlt:=hq _ ho h2.1;refine .que (h1.mono (cY hb)) (h2.imp hlt fun x hx=>?_);simp only[Gh.weak,hlt,↓reduceIte] at hx;refine⟨hx,fun g _ f c hk=>?_⟩;simp only[Gh.weak];rw[ac]
   .exact hk
   .intro e1;have:=hb g e1
    rw[hk] at this;cases this
 | mp h1 =>
  cases ho with
  | mp ho hs =>
   have hlt:=hq _ ho h1.1;refine .mp (h1.imp hlt (fun e he t ht=>hq t (hs e he t ht)) (cY hb) (fun x hx=>?_) fun e he n u h2=>sK hb h2 fun t ht=>hq t (hs e he t ht));simp only[Gh.weak,hlt,↓reduceIte] at hx;refine⟨hx,fun g _ hk=>⟨?_,rfl⟩⟩;simp only[Gh.weak];rw[ac]
   .exact hk
   .intro e1;have:=hb g e1
    rw[hk] at this;cases this
 | mpd h1=>exact .mpd (h1.imp (cY hb) fun r _ hk=>⟨by simp only[Gh.weak];split;rfl;exact hk,rfl⟩)
def aOV(S:Bxs)(fz:Option (Nat × Nat × List (List D))):Prop:=∀k sz es,fz=some (k,sz,es)->∃rows,S k=some rows/\rows.length=es.length/\(∀r∈rows,r.length=sz) /\
 ∀i (h1:i<rows.length) (h2:i<es.length),zS rows[i]=some es[i]
theorem RV.to{G:Gh}{m:bH}{w:World}{nt':Nat}{p q:Nat->Prop}[DecidablePred p]{fz:Option (Nat × Nat × List (List D))}{b:Option Nat}(hm:aV G m w)(hb:∀j,b=some j->G.kind j=.box)(hfz:aOV m.box fz)(BX:∀k sz es,fz=some (k,sz,es)->∀j s,G.bx k=some (j,s)->b=some j){x y:AV}{v:Value}(h:RV G w x v)(ht:To p q fz x y)(hq:∀t,q t->t<G.nt->t<nt'):RV (G.weak p b nt') w y v:=by
 induction ht generalizing v with
 | bot=>exact .bot
 | same ho=>exact h.weak hb ho hq
 | data =>
  cases h with
  | osl h1 h2=>exact .d (h1.mono (cY hb))
 | nil hz he =>
  subst he;cases h with
  | osl h1 h2 =>
   obtain⟨A,rfl,hA⟩:=h2;exact .osl (.sl (es:=[]) (fun _ _=>default) (nr0 _) (by decide) (by simp) (by simp) (by simp) (by simp)) ⟨A,rfl,fun e=>hA (hz e)⟩
 | dsub hd =>
  cases h with
  | d h1=>exact .d ((h1.mono (cY hb)).dsub hd)
 | odsub hd =>
  cases h with
  | osl h1 h2=>exact .d ((h1.mono (cY hb)).dsub hd)
 | osub hz hd =>
  cases h with
  | osl h1 h2 =>
   obtain⟨A,rfl,hA⟩:=h2;have h3:=(h1.mono (cY (nt':=nt') (p:=p) hb)).dsub hd;exact .osl h3 ⟨A,by rw[hd.len],fun e=>hA (hz e)⟩
 | otok hd ho =>
  cases h with
  | osl h1 h2=>exact .osl ((h1.mono (cY hb)).dsub hd) (by rw[hd.len];exact sK hb h2 fun t ht=>hq t (ho t ht))
 | @frz k sz es hf =>
  obtain⟨rows,hk,hl,qj,xm⟩:=hfz k sz es hf;generalize hn:es.length=n0 at h;cases h with
  | msl h1 h2 h3 =>
   rename_i bb cap;subst hn;obtain⟨jb,cells,e,hh,hs,hR,jq⟩:=hm.box k rows bb sz hk h1;have wm:=BX k sz es hf bb sz h1;have BY:∀e∈es,e.length=sz:=by
    intro l z7;obtain⟨i,hi,rfl⟩:=bf z7;have hr:=xm i (by omega) hi;have CV:RVs G w rows[i] (cells.toList.drop (i*sz) |>.take sz):=by
     have:=(hR.drop (i*sz)).take sz
     have e1:(rows.flatten.drop (i*sz)).take sz=rows[i]:=by
      have ud:rows[i]?=some rows[i]:=ab (by omega)
      have hlen:rows[i].length=sz:=qj _ (aa _)
      apply List.ext_getElem?;intro j;by_cases hj:j<sz
      .rw[e9 hj,gr,gU qj ud hj]
      .rw[d4 (by simp;omega),d4 (by omega)]
     rw[e1] at this;exact this
    have:=(oI CV hr).1
    rw[this,<-CV.1];exact qj _ (aa _)
   have kv:iH w.cell? (G.weak p b nt').ps sz es (some ⟨bb,0*sz,none⟩) cells.toList:=by
    constructor
    .rw[<-hR.1,dJ qj,hl]
    .intro a ha q u hq;cases ha;rw[bK];refine⟨?_,?_⟩
     .simp[Gh.ps,Gh.weak,wm]
     .rw[e8 w bb _ cells e (0,0) hh];simpa using hq
    .exact jq
    .exact fun _=>⟨_,rfl⟩
    .exact BY
    .intro i j hi hj;have ud:rows[i]?=some rows[i]:=ab (by omega)
     have qr:j<sz:=by rw[<-BY _ (aa hi)];exact hj
     have hx:rows.flatten[i*sz+j]?=rows[i][j]?:=gU qj ud qr
     have xu:j<rows[i].length:=by rw[qj _ (aa _)];exact qr
     rw[ab xu] at hx;obtain⟨u,hu,mv⟩:=hR.get hx;refine⟨u,hu,?_⟩;have hd:=xm i (by omega) hi;have nu:RVs G w rows[i] (rows[i].mapIdx fun q _=>cells.toList.getD (i*sz+q) default):=by
      refine⟨by simp,fun q g1 g2=>?_⟩;have hq:rows.flatten[i*sz+q]?=some rows[i][q]:=by
       rw[gU qj ud (by rw[<-qj _ (aa _)];exact g1)];exact ab g1
      obtain⟨u',wj,qp⟩:=hR.get hq;simp only[List.getElem_mapIdx,ao,wj,dx];exact qp
     have:=(oI nu hd).2 j hj (by simp;exact xu)
     simp only[List.getElem_mapIdx,ao,hu,dx] at this;exact this.mono (cY hb)
   exact .d (RVd.of_flat h2 h3 kv)
 | agg hl _ ih =>
  cases h with
  | agg lh hh jq=>exact .agg (hl.symm.trans lh) (fun i h1 h2=>ih i (by omega) h1 (hh i (by omega) h2)) jq
 | tup hl _ ih =>
  cases h with
  | tup lh hh=>exact .tup (hl.symm.trans lh) (fun i h1 h2=>ih i (by omega) h1 (hh i (by omega) h2))
variable {P:Program}
def tl:List (Nat × AV)->Nat->AV
 | [],_=>.bot
 | (i,v)::r,t=>if t=i then v else tl r t
def lk{α:Type}:List (Nat × α)->Nat->Option α
 | [],_=>none
 | (i,v)::r,t=>if t=i then some v else lk r t
def lb(base:Nat)(out:Bxs)(loc:List (Nat × List (List AV))):Bxs:=fun k=>if k<base then out k else lk loc (k-base)
theorem aLp(l:List (Nat × AV))(d:Nat)(v:AV):bX (tl l) (some d) v=tl ((d,v)::l):=by
 funext t
 simp only[bX,upd,tl]
theorem aHr(f:Nat->AV)(v:AV):bX f none v=f:=rfl
theorem aNl(t:Nat):tl [] t=.bot:=rfl
theorem jP(i:Nat)(v:AV)(r:List (Nat × AV))(t:Nat):tl ((i,v)::r) t=if t=i then v else tl r t:=rfl
theorem aNQ{α:Type}(t:Nat):lk ([]:List (Nat × α)) t=none:=rfl
theorem cC{α:Type}(i:Nat)(v:α)(r:List (Nat × α))(t:Nat):lk ((i,v)::r) t=if t=i then some v else lk r t:=rfl
theorem aQ(base s:Nat)(out:Bxs)(loc:List (Nat × List (List AV))):lb base out loc (base+s)=lk loc s:=by
 have h:¬(base+s<base):=by omega
 simp[lb,h]
theorem lO{base k:Nat}(h:k<base)(out:Bxs)(loc:List (Nat × List (List AV))):lb base out loc k=out k:=by
 simp[lb,h]
theorem aJ0(base s:Nat)(out:Bxs)(loc:List (Nat × List (List AV)))(rows:List (List AV)):upd (lb base out loc) (base+s) (some rows)=lb base out ((s,rows)::loc):=by
 funext k
 simp only[upd,lb,lk];by_cases h:k=base+s
 .subst h;have h:¬(base+s<base):=by omega
  simp[h]
 .by_cases hk:k<base
  .simp[h,hk]
  .have:k-base≠s:=by omega
   simp[h,hk,this]
theorem uL{base k:Nat}(h:k<base)(out:Bxs)(loc:List (Nat × List (List AV)))(v:Option (List (List AV))):upd (lb base out loc) k v=lb base (upd out k v) loc:=by
 funext j
 simp only[upd,lb];by_cases hj:j=k
 .subst hj;simp[h]
 .simp[hj]
def aGn(cx:Cx)(nt0:Nat)(G0:Gh):Prop:=∀k rows,k<cx.base->cx.B0 k=some rows->G0.bx k≠none->∀r∈rows,∀x∈r,bF (· < cx.base) (· < nt0) x
theorem RV.ok{G:Gh}{w:World}{x:AV}{v:Value}{p q:Nat->Prop}(h:RV G w x v)(hp:∀k y,G.bx k=some y->p k)(hq:∀t,t<G.nt->q t):bF p q x:=by
 induction h with
 | bot=>exact .bot
 | d _=>exact .d
 | osl _ h2=>exact .osl fun t ht=>by subst ht;exact hq t h2.1
 | ptr h=>exact .ptr (hp _ _ h)
 | here h _=>exact .here (hp _ _ h)
 | buf _ h _ _=>exact .buf (hq _ h.1)
 | cptr a u hc hr=>exact .cptr
 | msl h _ _=>exact .msl (hp _ _ h)
 | fn hl _ ih=>exact .fn fun c hc=>by obtain⟨i,hi,rfl⟩:=bf hc;exact ih i hi (by omega)
 | agg hl _ _ ih=>exact .agg fun c hc=>by obtain⟨i,hi,rfl⟩:=bf hc;exact ih i hi (by omega)
 | tup hl _ ih=>exact .tup fun c hc=>by obtain⟨i,hi,rfl⟩:=bf hc;exact ih i hi (by omega)
 | ex h=>exact .ex (hq _ h.1)
 | stk h=>exact .stk (hq _ h.1)
 | que _ h=>exact .que (hq _ h.1)
 | mp h=>exact .mp (hq _ h.1) fun e he t ht=>hq t (h.2.1 e he t ht)
 | mpd=>exact .mpd
theorem bF.imp{p q p' q':Nat->Prop}{x:AV}(h:bF p q x)(hp:∀k,p k->p' k)(hq:∀t,q t->q' t):bF p' q' x:=by
 induction h with
 | bot=>exact .bot
 | d=>exact .d
 | osl h=>exact .osl fun t ht=>hq t (h t ht)
 | cptr=>exact .cptr
 | ptr h=>exact .ptr (hp _ h)
 | here h=>exact .here (hp _ h)
 | buf h=>exact .buf (hq _ h)
 | msl h=>exact .msl (hp _ h)
 | fn _ ih=>exact .fn ih
 | agg _ ih=>exact .agg ih
 | tup _ ih=>exact .tup ih
 | ex h=>exact .ex (hq _ h)
 | stk h=>exact .stk (hq _ h)
 | que h=>exact .que (hq _ h)
 | mp h hs=>exact .mp (hq _ h) fun e he t ht=>hq t (hs e he t ht)
 | mpd=>exact .mpd
theorem bF.and{p q p' q':Nat->Prop}{x:AV}(h:bF p q x)(k:bF p' q' x):bF (fun j=>p j/\p' j) (fun t=>q t/\q' t) x:=by
 induction h with
 | bot=>exact .bot
 | d=>exact .d
 | osl h=>cases k with|osl k=>exact .osl fun t ht=>⟨h t ht,k t ht⟩
 | cptr=>exact .cptr
 | ptr h=>cases k with|ptr k=>exact .ptr ⟨h,k⟩
 | here h=>cases k with|here k=>exact .here ⟨h,k⟩
 | buf h=>cases k with|buf k=>exact .buf ⟨h,k⟩
 | msl h=>cases k with|msl k=>exact .msl ⟨h,k⟩
 | fn _ ih=>cases k with|fn k=>exact .fn fun c hc=>ih c hc (k c hc)
 | agg _ ih=>cases k with|agg k=>exact .agg fun c hc=>ih c hc (k c hc)
 | tup _ ih=>cases k with|tup k=>exact .tup fun c hc=>ih c hc (k c hc)
 | ex h=>cases k with|ex k=>exact .ex ⟨h,k⟩
 | stk h=>cases k with|stk k=>exact .stk ⟨h,k⟩
 | que h=>cases k with|que k=>exact .que ⟨h,k⟩
 | mp h hs=>cases k with|mp k ks=>exact .mp ⟨h,k⟩ fun e he t ht=>⟨hs e he t ht,ks e he t ht⟩
 | mpd=>exact .mpd
def gN(p q:Nat->Prop)(fz:Option (Nat × Nat × List (List D)))(rows rows':List (List AV)):Prop :=
 rows.length=rows'.length/\∀i (h1:i<rows.length) (h2:i<rows'.length),rows[i].length=rows'[i].length/\∀j (g1:j<rows[i].length) (g2:j<rows'[i].length),To p q fz rows[i][j] rows'[i][j]
structure aJz (cx:Cx) (nt0:Nat) (out:Bxs) (loc loc':List (Nat × List (List AV))) (fz:Option (Nat × Nat × List (List D))) (S S':AS):Prop where
 hb:S.box=lb cx.base out loc
 hb':S'.box=lb cx.base out loc'
 nt:S'.nt<=S.nt
 nt0:nt0<=S'.nt
 tok:∀t,S'.tok t=true->S.tok t=true/\(S'.nt=S.nt∨t<S'.nt)
 tmps:∀t,To (fun k=>lb cx.base out loc' k≠none) (fun t=>S'.nt=S.nt∨t<S'.nt) (fz.map fun x=>(cx.base+x.1,x.2)) (S.tmps t) (S'.tmps t)
 boxes:∀s rows',lk loc' s=some rows'->∃rows,lk loc s=some rows/\gN (fun k=>lb cx.base out loc' k≠none) (fun t=>S'.nt=S.nt∨t<S'.nt) (fz.map fun x=>(cx.base+x.1,x.2)) rows rows'
 fz:∀s sz es,fz=some (s,sz,es)->lk loc' s=none/\∃rows,lk loc s=some rows/\rows.length=es.length/\(∀r∈rows,r.length=sz)/\∀i (h1:i<rows.length) (h2:i<es.length),zS rows[i]=some es[i]
 out:∀k rows,k<cx.base->out k=some rows->cx.B0 k=some rows∨∀r∈rows,∀x∈r,bF (fun k=>lb cx.base out loc' k≠none) (fun t=>S'.nt=S.nt∨t<S'.nt) x
theorem aJo{α:Type}{sz:Nat}:∀{rows rows':List (List α)},(∀r∈rows,r.length=sz)->rows.length=rows'.length->(∀i (h1:i<rows.length) (h2:i<rows'.length),rows[i].length=rows'[i].length)->∀r∈rows',r.length=sz:=by
 intro rows rows' hs hl h r hr;obtain⟨i,hi,rfl⟩:=bf hr;rw[<-h i (by omega) hi];exact hs _ (aa _)
theorem aJz.sound{cx:Cx}{nt0:Nat}{out:Bxs}{loc loc':List (Nat × List (List AV))}{fz:Option (Nat × Nat × List (List D))}{S S':AS}(h:aJz cx nt0 out loc loc' fz S S'){G0 G:Gh}{w0 w:World}{a:Act}(he:aGn cx nt0 G0)(iv:LeB cx.base G0 w0 G w)(hr:cS cx.n cx.nb G S a w)(A4:G0.nt<=nt0):∃G',cS cx.n cx.nb G' S' a w/\LeB cx.base G0 w0 G' w /\
   ∀{x y:AV} {v:Value},RV G w x v->To (fun k=>lb cx.base out loc' k≠none) (fun t=>S'.nt=S.nt∨t<S'.nt) (fz.map fun x=>(cx.base+x.1,x.2)) x y->RV G' w y v:=by
 have hm:=hr.mem
 let p:Nat->Prop:=fun k=>lb cx.base out loc' k≠none
 letI:DecidablePred p:=fun _=>Classical.propDecidable _
 let q:Nat->Prop:=fun t=>S'.nt=S.nt∨t<S'.nt
 have hGnt:G.nt=S.nt:=hm.nt
 have hq:∀t,q t->t<G.nt->t<S'.nt:=by
  intro t ht hlt;rcases ht with h1|h1
  .omega
  .exact h1
 -- the frozen block
 let b:Option Nat:=fz.bind fun x=>(G.bx (cx.base+x.1)).map (·.1)
 have hb:∀j,b=some j->G.kind j=.box:=by
  intro j hj;obtain⟨x,_,hj⟩:=dv.1 hj;obtain⟨⟨j',s'⟩,h1,rfl⟩:=cy.1 hj;exact(hm.blt h1).2
 have hfz:aOV S.box (fz.map fun x=>(cx.base+x.1,x.2)):=by
  intro k sz es hk;obtain⟨⟨s,sz',es'⟩,hf,hx⟩:=cy.1 hk;simp only[aw] at hx;obtain⟨rfl,rfl,rfl⟩:=hx;obtain⟨_,rows,h1,h2⟩:=h.fz s sz' es' hf;exact⟨rows,by rw[h.hb,aQ];exact h1,h2⟩
 have BX:∀k sz es,(fz.map fun x=>(cx.base+x.1,x.2))=some (k,sz,es)->∀j s,G.bx k=some (j,s)->b=some j:=by
  intro k sz es hk j s hj;obtain⟨⟨s0,sz',es'⟩,hf,hx⟩:=cy.1 hk;simp only[aw] at hx;obtain⟨rfl,rfl,rfl⟩:=hx;simp only[b,hf,hj,dc,fh]
 have hto:∀{x y:AV} {v:Value},RV G w x v->To p q (fz.map fun x=>(cx.base+x.1,x.2)) x y->RV (G.weak p b S'.nt) w y v :=
  fun hx ht=>RV.to (m:=⟨S.box,cx.nb,S.tok,S.nt⟩) hm hb hfz BX hx ht hq
 -- a box that stays is not the frozen one
 have hne:∀k j s,p k->G.bx k=some (j,s)->b≠some j:=by
  intro k j s hp hk e;obtain⟨⟨s0,sz,es⟩,hf,e⟩:=dv.1 e;obtain⟨⟨j',s'⟩,h1,h2⟩:=cy.1 e;simp only at h2;subst h2;have jd:=hm.inj k (cx.base+s0) j' s s' hk h1;subst jd;have:=(h.fz s0 sz es hf).1
  exact hp (by rw[aQ];exact this)
 have hpS:∀k,p k->∃rows',S'.box k=some rows':=by
  intro k hp;cases hk:S'.box k with
  | none=>exact absurd (by rw[<-h.hb'];exact hk) hp
  | some r=>exact⟨r,rfl⟩
 have CW:∀a u,G.ps a->w.cell? a=some u->(G.weak p b S'.nt).ps a/\w.cell? a=some u:=fun a u h1 h2=>cY hb a u h1 h2
 refine⟨G.weak p b S'.nt,⟨hr.defers,hr.size,fun t=>hto (hr.tmps t) (h.tmps t),?_⟩,?_,hto⟩
 .constructor
  case box =>
   intro k rows' j sz hk hj;simp only[Gh.weak] at hj;split at hj
   .rename_i hp;by_cases jb:k<cx.base
    .have jv:out k=some rows':=by
      simp only at hk;rw[h.hb',lO jb] at hk;exact hk
     have ux:S.box k=some rows':=by rw[h.hb,lO jb];exact jv
     obtain⟨h1,cs,e,h2,h3,h4,h5⟩:=hm.box k rows' j sz ux hj;refine⟨?_,cs,e,h2,h3,?_,h5⟩
     .simp only[Gh.weak,hne k j sz hp hj,↓reduceIte];exact h1
     .refine⟨h4.1,fun i g1 g2=>?_⟩;have ql:=h4.2 i g1 g2;refine hto ql (.same ?_);have jg:rows'.flatten[i]∈rows'.flatten:=aa _
      obtain⟨r,wo,wq⟩:=gl.1 jg;rcases h.out k rows' jb jv with h6|h6
      .have uy:G0.bx k≠none:=by rw[<-iv.bx k jb,hj];simp
       have Bz:=he k rows' jb h6 uy r wo _ wq;have qm:bF (fun k=>∃y,G.bx k=some y) (fun t=>t<G.nt) rows'.flatten[i]:=ql.ok (fun k y hy=>⟨y,hy⟩) (fun t ht=>ht)
       refine(Bz.and qm).imp (fun k' jv=>?_) (fun t ht=>?_)
       .obtain⟨hlt,y,hy⟩:=jv;intro nj;rw[lO hlt] at nj;have:S.box k'=none:=by rw[h.hb,lO hlt];exact nj
        rw[hm.nobox k' this] at hy;cases hy
       .exact .inr (ct ht.1 h.nt0)
      .exact h6 r wo _ wq
    .have jd:k=cx.base+(k-cx.base):=by omega
     simp only at hk;rw[h.hb',jd,aQ] at hk;obtain⟨rows,h1,h2,h3⟩:=h.boxes _ rows' hk;have ux:S.box k=some rows:=by rw[h.hb,jd,aQ];exact h1
     obtain⟨g1,cs,e,g2,g3,g4,g5⟩:=hm.box k rows j sz ux hj;have pw:=aJo g3 h2 (fun i a b=>(h3 i a b).1)
     refine⟨?_,cs,e,g2,pw,?_,g5⟩
     .simp only[Gh.weak,hne k j sz hp hj,↓reduceIte];exact g1
     .have hlen:rows'.flatten.length=rows.flatten.length:=by rw[dJ pw,dJ g3,h2]
      refine⟨hlen.trans g4.1,fun i a1 a2=>?_⟩;have l5:0<sz:=by
       rcases Nat.eq_zero_or_pos sz with e0|e0
       .subst e0;rw[dJ pw] at a1;simp at a1
       .exact e0
      have hi:i<rows'.length*sz:=by rw[<-dJ pw];exact a1
      have hd:i / sz<rows'.length:=(Nat.div_lt_iff_lt_mul l5).2 hi
      have wt:i % sz<sz:=Nat.mod_lt _ l5
      have wu:i / sz*sz+i % sz=i:=by rw[Nat.mul_comm];exact Nat.div_add_mod i sz
      have e1:rows'.flatten[i]?=rows'[i / sz][i % sz]?:=by
       have:=gU pw (ab hd) wt
       rw[wu] at this;exact this
      have e2:rows.flatten[i]?=(rows[i / sz]'(by omega))[i % sz]?:=by
       have:=gU g3 (ab (by omega:i / sz<rows.length)) wt
       rw[wu] at this;exact this
      have CX:i % sz<rows'[i / sz].length:=by rw[pw _ (aa _)];exact wt
      have y7:i % sz<(rows[i / sz]'(by omega)).length:=by rw[g3 _ (aa _)];exact wt
      rw[ab a1,ab CX] at e1;rw[ab (by omega),ab y7] at e2;have hx:=g4.2 i (by omega) a2;rw[Option.some.inj e2] at hx;rw[Option.some.inj e1];exact hto hx ((h3 (i / sz) (by omega) hd).2 (i % sz) y7 CX)
   .cases hj
  case nobox =>
   intro k hk;simp only[Gh.weak];rw[ac];intro hp;exact hp (by rw[<-h.hb'];exact hk)
  case inj =>
   intro k k' j s s' hk jv;simp only[Gh.weak] at hk jv;split at hk
   .split at jv
    .exact hm.inj k k' j s s' hk jv
    .cases jv
   .cases hk
  case nb =>
   intro k hk;cases ux:S'.box k with
   | none=>exact ux
   | some rows' =>
    exfalso
    have hS:=hm.nb k hk;simp only at hS;rw[h.hb] at hS;rw[h.hb'] at ux;by_cases jb:k<cx.base
    .rw[lO jb] at hS ux;rw[hS] at ux;cases ux
    .have jd:k=cx.base+(k-cx.base):=by omega
     rw[jd,aQ] at hS ux;obtain⟨rows,h1,_⟩:=h.boxes _ rows' ux;rw[hS] at h1;cases h1
  case nt=>rfl
  case toks =>
   intro t ht;obtain⟨h1,h2⟩:=h.tok t ht;obtain⟨h3,x,h4⟩:=hm.toks t h1;have hlt:t<S'.nt:=by
    rcases h2 with h2|h2
    .simp only at h3;omega
    .exact h2
   exact⟨hlt,x,by simp only[Gh.weak,hlt,↓reduceIte];exact h4⟩
  case tokb =>
   intro t g ht;simp only[Gh.weak] at ht;split at ht
   .obtain⟨f,cur,e,h1,h2⟩:=hm.tokb t g ht;refine⟨f,cur,e,?_,h2⟩;simp only[Gh.weak];rw[ac]
    .exact h1
    .intro e1;have:=hb g e1
     rw[this] at h1;rcases h1 with ⟨h1,_⟩|h1<;>cases h1
   .cases ht
  case tinj =>
   intro t t' g ht ly;simp only[Gh.weak] at ht ly;split at ht
   .split at ly
    .exact hm.tinj t t' g ht ly
    .cases ly
   .cases ht
  case tnt =>
   intro t x ht;simp only[Gh.weak] at ht ⊢;split at ht
   .assumption
   .cases ht
  case glob=>exact hm.glob.mono CW
  case fresh =>
   intro j hj;simp only[Gh.weak];split
   .rfl
   .exact hm.fresh j hj
 .refine⟨iv.os,iv.tape,iv.output,iv.size,fun j hj hk=>⟨?_,(iv.whole j hj hk).2⟩,fun j f c hk=>?_,fun k hk=>?_,cb A4 h.nt0,fun t ht=>?_,iv.ty⟩
  .simp only[Gh.weak];split
   .rfl
   .exact(iv.whole j hj hk).1
  .obtain⟨⟨f',mq,h1⟩,h2⟩:=iv.part j f c hk;refine⟨⟨f',mq,?_⟩,h2⟩;simp only[Gh.weak];rw[ac]
   .exact h1
   .intro e;have:=hb j e
    rw[h1] at this;cases this
  .rw[<-iv.bx k hk];simp only[Gh.weak];split
   .rfl
   .rename_i hp;cases hg:G.bx k with
    | none=>rfl
    | some y =>
     exfalso
     apply hp;intro nj;rw[lO hk] at nj;have:S.box k=none:=by rw[h.hb,lO hk];exact nj
     rw[hm.nobox k this] at hg;cases hg
  .have hlt:t<S'.nt:=ct ht (cb A4 h.nt0)
   rcases iv.tk t ht with h1|⟨h1,h2⟩
   .exact .inl (by simp only[Gh.weak,hlt,↓reduceIte];exact h1)
   .refine .inr ⟨by simp only[Gh.weak,hlt,↓reduceIte];exact h1,fun g hg=>?_⟩;have rx:G.tk t=some (some g):=h1.trans hg
    obtain⟨f,cur,e,h3,_⟩:=hm.tokb t g rx;simp only[Gh.weak];rw[ac]
    .exact h2 g hg
    .intro e1;have:=hb g e1
     rw[this] at h3;rcases h3 with ⟨h3,_⟩|h3<;>cases h3
variable {P:Program}
def LeC(cx:Cx)(G0:Gh)(w0:World)(G:Gh)(w:World)(S:AS):Prop:=LeB cx.base G0 w0 G w/\∀k,k<cx.base->G0.bx k=none->S.box k=cx.B0 k
theorem LeC.step{cx:Cx}{G0 G G':Gh}{w0 w w':World}{S S':AS}(h:LeC cx G0 w0 G w S)(k:LeK cx.base G w S.box G' w' S'.box):LeC cx G0 w0 G' w' S' :=
 ⟨h.1.trans k.leB,fun j hj hg=>((k.2 j hj (by rw[h.1.bx j hj];exact hg)).2).trans (h.2 j hj hg)⟩
def AT(P:Program)(cx:Cx)(nt0:Nat)(c:Code)(S:AS)(K:Exit->AS->Prop):Prop :=
 ∀G0 w0,aGn cx nt0 G0->G0.nt<=nt0->∀G a w,cS cx.n cx.nb G S a w->LeC cx G0 w0 G w S ->
  c.wp P (fun e a' w'=>∃S' G',K e S'/\cS cx.n cx.nb G' S' a' w'/\LeC cx G0 w0 G' w' S') a w
theorem AT.mono{cx:Cx}{nt0:Nat}{c:Code}{S:AS}{K K':Exit->AS->Prop}(h:AT P cx nt0 c S K)(hk:∀e S,K e S->K' e S):AT P cx nt0 c S K' :=
 fun G0 w0 he hn G a w hr hl=>wp_mono (h G0 w0 he hn G a w hr hl) fun e a' w' ⟨S',G',h1,h2⟩=>⟨S',G',hk _ _ h1,h2⟩
theorem AT.weak{cx:Cx}{nt0:Nat}{c:Code}{S S':AS}{K:Exit->AS->Prop}{out:Bxs}{loc loc':List (Nat × List (List AV))}{fz:Option (Nat × Nat × List (List D))}(h:aJz cx nt0 out loc loc' fz S S')(k:AT P cx nt0 c S' K):AT P cx nt0 c S K:=by
 intro G0 w0 he hn G a w hr hl;obtain⟨G',qp,lh,_⟩:=h.sound he hl.1 hr hn;exact k G0 w0 he hn G' a w qp ⟨lh,fun j hj hg=>by rw[<-hl.2 j hj hg,h.hb',h.hb,lO hj,lO hj]⟩
def aS(cx:Cx)(nt0:Nat)(S S':AS):Prop:=∃out loc loc' fz,aJz cx nt0 out loc loc' fz S S'
theorem AT.weaks{cx:Cx}{nt0:Nat}{c:Code}{S S':AS}{K:Exit->AS->Prop}(h:aS cx nt0 S S')(k:AT P cx nt0 c S' K):AT P cx nt0 c S K:=by
 obtain⟨_,_,_,_,h⟩:=h;exact AT.weak h k
def cP(o:Oper)(ρ:Operand->AV):Option (FuncId × List AV):=match o.op with
 | .call c=>match c.callee with
  | .value f=>match ρ f with
   | .fn (.func fid) caps=>some (fid,c.args.toList.map ρ++caps)
   | _=>none
  | _=>none
 | _=>none
def sQ(P:Program)(o:Oper)(ρ:Operand->AV):Option (Bool × List (List D)):=match o.op with
 | .binOp op T x y _=>match aF P T with
  | some _=>match y with
   | .const (.slice none 0 0)=>match ρ x with
    | .d (.raw (.slice none 0 0))=>match op with
     | .eql=>some (false,[[]])
     | .neq=>some (true,[[]])
     | _=>none
    | xa=>match xa.elems? with
     | some (_,es)=>match op with
      | .eql=>some (true,es)
      | .neq=>some (false,es)
      | _=>none
     | none=>none
   | _=>none
  | none=>none
 | _=>none
theorem mF(d:Nat){T E:TypeId}(h:P.underlying T=some (.slice E))(A:Option Addr)(n c:Nat)(w:World):(Op.equalIn (d+1) T (.slice A n c) (.slice none 0 0)).run P w=.ok A.isNone w:=by
 cases A<;>simp[Op.equalIn,bp h]
theorem tS{T E:TypeId}(h:P.underlying T=some (.slice E))(A:Option Addr)(n c:Nat)(w:World):(binOp .eql T (.slice A n c) (.slice none 0 0)).run P w=.ok (.bool A.isNone) w:=by
 have:=mF 9999 h A n c w
 simp only[binOp,Op.equal,Op.maxDepth,ax,this,aj,a8]
theorem tX{T E:TypeId}(h:P.underlying T=some (.slice E))(A:Option Addr)(n c:Nat)(w:World):(binOp .neq T (.slice A n c) (.slice none 0 0)).run P w=.ok (.bool (!A.isNone)) w:=by
 have:=mF 9999 h A n c w
 simp only[binOp,Op.equal,Op.maxDepth,ax,this,aj,a8]
theorem aGV{o:Oper}{ρ:Operand->AV}{ρv:Operand->Value}{G:Gh}{w:World}{t:Bool}{es:List (List D)}(h:sQ P o ρ=some (t,es))(rq:∀v,ρv (.const v)=v)(hρ:∀x∈o.op.operands,RV G w (ρ x) (ρv x)):
  ∃b,(es≠[]->b=!t)/\(execOp ρv o).run P w=.ok (.value (.bool b)) w:=by
 unfold sQ at h;split at h
 .rename_i op T x y T' ho;split at h
  .rename_i E hE;have hu:P.underlying T=some (.slice E):=by
    unfold aF at hE;split at hE
    .cases hE;assumption
    .cases hE
   split at h
   .split at h
    .rename_i yr;have hx:=hρ x (by rw[ho];simp[Op.operands]);rw[yr] at hx;generalize hv:ρv x=xv at hx;cases hx with
     | d hx =>
      cases hx with
      | raw _ =>
       have he:∀op x y,(eqGuard op T x y (.slice none 0 0) (.slice none 0 0)).run P w=.ok () w:=fun op x y=>by cases op<;>rfl
       split at h
       .cases h;refine⟨true,fun _=>rfl,?_⟩;simp only[execOp,ho,hv,rq,ax,he,aj,tS hu,a8,Option.isNone_none]
       .cases h;refine⟨false,fun _=>rfl,?_⟩;simp only[execOp,ho,hv,rq,ax,he,aj,tX hu,a8,Option.isNone_none,Bool.not_true]
       .cases h
    .split at h
     .rename_i sz es' z8;have hx:=(hρ x (by rw[ho];simp[Op.operands])).elems z8;generalize hv:ρv x=xv at hx;cases hx with
      | sl u i8 i9 hsz hA hc hr =>
       rename_i A cap;split at h
       .cases h;refine⟨A.isNone,fun hne=>?_,?_⟩
        .obtain⟨a,rfl⟩:=hA hne;rfl
        .have he:∀op x y,(eqGuard op T x y (.slice A es.length cap) (.slice none 0 0)).run P w=.ok () w:=fun op x y=>by cases op<;>rfl
         simp only[execOp,ho,hv,rq,ax,he,aj,tS hu,a8]
       .cases h;refine⟨!A.isNone,fun hne=>?_,?_⟩
        .obtain⟨a,rfl⟩:=hA hne;rfl
        .have he:∀op x y,(eqGuard op T x y (.slice A es.length cap) (.slice none 0 0)).run P w=.ok () w:=fun op x y=>by cases op<;>rfl
         simp only[execOp,ho,hv,rq,ax,he,aj,tX hu,a8]
       .cases h
     .cases h
   .cases h
  .cases h
 .cases h
def Op1(P:Program)(cx:Cx)(o:Oper)(S:AS)(K:AS->Prop):Prop:=match cP o S.ev with
 | some (fid,args)=>aD P fid args ⟨S.box,cx.nb,S.tok,S.nt⟩ fun v m'=>K ⟨bX S.tmps o.dst v,m'.box,m'.tok,m'.nt⟩
 | none=>(∃S1,zQ P false cx.base o S S1/\K S1)∨∃t es,sQ P o S.ev=some (t,es)/\∀b,(es≠[]->b=!t)->K ⟨bX S.tmps o.dst (.d (.raw (.bool b))),S.box,S.tok,S.nt⟩
def mI(P:Program)(cx:Cx)(ops:Array Oper):List Oper->AS->(AS->Prop)->Prop
 | [],S,K=>K S
 | o::r,S,K=>match o.guard with
  | none=>Op1 P cx o S fun S1=>mI P cx ops r S1 K
  | some (j,want)=>match dS ops S j with
   | some b=>(b=some want->Op1 P cx o S fun S1=>mI P cx ops r S1 K)/\(b≠some want->mI P cx ops r { S with tmps:=bX S.tmps o.dst (.tup []) } K)
   | none=>False
def aEy(P:Program)(base:Nat):List Oper->(Bxs)->((Bxs)->Prop)->Prop
 | [],b,K=>K b
 | o::r,b,K=>match o.op,o.dst with
  | .alloc T,some s=>match aH P T with
   | some zs=>b (base+s)=none/\aEy P base r (upd b (base+s) (some [uU (base+s) T zs])) K
   | none=>False
  | _,_=>aEy P base r b K
def oJ(P:Program)(cx:Cx)(ops:Array Oper)(draw:Bool)(S:AS)(K:AS->Prop):Prop :=
 aEy P cx.base ops.toList S.box fun b=>match draw with
  | true=>∃S',aEk P false cx.base ops ops.toList { S with box:=b } S'/\K S'
  | false=>mI P cx ops ops.toList { S with box:=b } K
theorem aV.pre{G:Gh}{m:bH}{w:World}(h:aV G m w){k:Nat}(hk:m.box k=none)(j8:k<m.nb)(rows:List (List AV)):aV G { m with box:=upd m.box k (some rows) } w:=by
 have n5:=h.nobox k hk;constructor
 case box =>
  intro j rs b sz hj hb;by_cases e:j=k
  .subst e;rw[n5] at hb;cases hb
  .simp only at hj;rw[uO _ _ e] at hj;exact h.box j rs b sz hj hb
 case nobox =>
  intro j hj;by_cases e:j=k
  .subst e;exact n5
  .simp only at hj;rw[uO _ _ e] at hj;exact h.nobox j hj
 case inj=>exact h.inj
 case nb =>
  intro j hj;simp only at hj ⊢;rw[uO _ _ (by omega)];exact h.nb j hj
 case nt=>exact h.nt
 case toks=>exact h.toks
 case tokb=>exact h.tokb
 case tinj=>exact h.tinj
 case tnt=>exact h.tnt
 case glob=>exact h.glob
 case fresh=>exact h.fresh
def aE7(base:Nat)(l:List Oper):List Nat:=l.filterMap fun o=>match o.op,o.dst with
 | .alloc _,some s=>some (base+s)
 | _,_=>none
theorem jE{base n nb:Nat}(j8:base+n<=nb){K:(Bxs)->Prop}:∀(l:List Oper) (b0:Bxs) {G:Gh} {S:AS} {a:Act} {w:World},cS n nb G { S with box:=b0 } a w ->
  (∀o∈l,∀d,o.dst=some d->d<n)->(l.filterMap fun o=>match o.op,o.dst with|.alloc _,some s=>some (base+s)|_,_=>none).Nodup->aEy P base l b0 K ->
  ∃b,K b/\cS n nb G { S with box:=b } a w/\(∀o∈l,pG P base o G b)/\∀k,k∉aE7 base l->b k=b0 k
 | [],b0,G,S,a,w,hr,_,_,h=>⟨b0,h,hr,by simp,fun _ _=>rfl⟩
 | o::l,b0,G,S,a,w,hr,hd,hnd,h=>by
  unfold aEy at h;split at h
  .rename_i T s jo hs;split at h
   .rename_i zs hz;obtain⟨h1,h2⟩:=h;have hlt:base+s<nb:=ct (Nat.add_lt_add_left (hd o (by simp) s hs) base) j8
    have n5:=hr.mem.nobox _ h1;have qp:cS n nb G { S with box:=upd b0 (base+s) (some [uU (base+s) T zs]) } a w:=⟨hr.defers,hr.size,hr.tmps,hr.mem.pre h1 hlt _⟩
    have qw:=hnd
    simp only[List.filterMap_cons,jo,hs,List.nodup_cons] at qw;obtain⟨b,k1,k2,k3,k4⟩:=jE j8 l _ qp (fun o ho=>hd o (by simp[ho])) qw.2 h2;have hb:b (base+s)=some [uU (base+s) T zs]:=by
     rw[k4 _ qw.1,uS]
    refine⟨b,k1,k2,fun o' ho'=>?_,fun k hk=>?_⟩
    .rcases ca.1 ho' with rfl|ho'
     .unfold pG;rw[jo,hs];exact⟨zs,hz,hb,n5⟩
     .exact k3 o' ho'
    .simp only[aE7,List.filterMap_cons,jo,hs,ca,not_or] at hk;rw[k4 k hk.2,uO _ _ hk.1]
   .exact h.elim
  .rename_i ju;have qw:(l.filterMap fun o=>match o.op,o.dst with|.alloc _,some s=>some (base+s)|_,_=>none).Nodup:=by
    rw[List.filterMap_cons] at hnd;split at hnd
    .exact hnd
    .exact(List.nodup_cons.1 hnd).2
   obtain⟨b,k1,k2,k3,k4⟩:=jE j8 l b0 hr (fun o ho=>hd o (by simp[ho])) qw h;refine⟨b,k1,k2,fun o' ho'=>?_,fun k hk=>?_⟩
   .rcases ca.1 ho' with rfl|ho'
    .unfold pG;split
     .rename_i T s g1 g2;exact absurd g2 (fun e=>ju T s g1 e)
     .trivial
    .exact k3 o' ho'
   .refine k4 k fun jv=>hk ?_
    simp only[aE7,gt] at jv ⊢;obtain⟨x,hx,he⟩:=jv;exact⟨x,f8 _ hx,he⟩
theorem kG{base:Nat}{ops:Array Oper}(h:eZ ops=true):(ops.toList.filterMap fun o=>match o.op,o.dst with|.alloc _,some s=>some (base+s)|_,_=>none).Nodup:=by
 have key:∀(l:List Oper) (k:Nat),ops.toList.drop k=l->(l.filterMap fun o=>match o.op,o.dst with|.alloc _,some s=>some (base+s)|_,_=>none).Nodup:=by
  intro l;induction l with
  | nil=>intro k _;simp
  | cons o l ih =>
   intro k hk;have hl:ops.toList.drop (k+1)=l:=by
    have:=d8 List.tail hk
    simpa[List.tail_drop] using this
   have ho:ops.toList[k]?=some o:=by
    have:=d8 (·[0]?) hk
    simpa using this
   have BZ:k<ops.size:=by
    have:=(ba.1 ho).1
    simpa using this
   rw[List.filterMap_cons];split
   .exact ih (k+1) hl
   .rename_i y hy;refine List.nodup_cons.2 ⟨fun hm=>?_,ih (k+1) hl⟩;obtain⟨o',ho',wk⟩:=gt.1 hm;obtain⟨j,hj,rfl⟩:=bf ho';have A5:ops[k+1+j]?=some l[j]:=by
     have:ops.toList[k+1+j]?=some l[j]:=by
      rw[<-List.getElem?_drop,hl];exact ab hj
     simpa using this
    have qr:=(bj.1 A5).1;have kg:ops[k]?=some o:=by simpa using ho
    have:=aq.1 (aq.1 h k (by simpa using BZ)) (k+1+j) (by simpa using qr)
    rw[kg,A5] at this;have hne:¬k=k+1+j:=by omega
    split at hy
    .rename_i T s g1 g2;split at wk
     .rename_i T' s' g1' g2';have:s=s':=Nat.add_left_cancel ((Option.some.inj hy).trans (Option.some.inj wk).symm)
      simp[hne,g1,lU,g2,g2',this] at *
     .cases wk
    .cases hy
 exact key ops.toList 0 rfl
theorem pZ{cx:Cx}{ops:Array Oper}{Q:Exit->Act->World->Prop}{G0:Gh}{w0:World}{K:AS->Prop}(kz:∀(o:Oper) d,o∈ops->o.dst=some d->d<cx.n)(j8:cx.base+cx.n<=cx.nb)(hal:eZ ops=true)(hQ:∀S a' w' G',K S->cS cx.n cx.nb G' S a' w'->LeC cx G0 w0 G' w' S->Q .normal a' w'):∀(l:List Oper) (k:Nat) (S:AS) (a:Act) (w:World) (G:Gh),ops.toList.drop k=l ->
  (∀o∈l,pG P cx.base o G S.box)->cS cx.n cx.nb G S a w->LeC cx G0 w0 G w S->mI P cx ops l S K->wpOps P ops Q (List.range' k l.length) a w
 | [],k,S,a,w,G,_,_,hr,hl,h=>by
  simp only[db,List.range'_zero,wpOps];exact hQ S a w G h hr hl
 | o::l,k,S,a,w,G,hk,hp,hr,hl,h=>by
  have lh:ops.toList.drop (k+1)=l:=by
   have:=d8 List.tail hk
   simpa[List.tail_drop] using this
  have ho:ops[k]?=some o:=by
   have:=d8 (·[0]?) hk
   have h1:ops.toList[k]?=some o:=by simpa using this
   simpa using h1
  have B2:o∈ops:=dk ho
  have s9:∀d,o.dst=some d->d<cx.n:=fun d hd=>kz o d B2 hd
  simp only[ci,List.range'_succ];rw[wpOps_cons]
  -- what is left,from a later state on
  have rest:∀S1 a1 w1 G1,mI P cx ops l S1 K->cS cx.n cx.nb G1 S1 a1 w1->LeC cx G0 w0 G1 w1 S1->aIt cx.base o G G1 S.box S1.box->wpOps P ops Q (List.range' (k+1) l.length) a1 w1:=by
   intro S1 a1 w1 G1 h1 ry mo qm;refine pZ kz j8 hal hQ l (k+1) S1 a1 w1 G1 lh (fun o' ho'=>?_) ry mo h1;have Ca:=hp o' (by simp[ho']);unfold pG at Ca ⊢;split at Ca
   .rename_i T s jo xm;obtain⟨zs,g1,g2,g3⟩:=Ca;obtain⟨j,hj,rfl⟩:=bf ho';have A5:ops[k+1+j]?=some l[j]:=by
     have:ops.toList[k+1+j]?=some l[j]:=by
      rw[<-List.getElem?_drop,lh];exact ab hj
     simpa using this
    have qr:=(bj.1 A5).1;have BZ:=(bj.1 ho).1;have ik:=aq.1 (aq.1 hal (k+1+j) (by simpa using qr)) k (by simpa using BZ);rw[A5,ho] at ik;have hne:¬k+1+j=k:=by omega
    have yz:l[j].dst≠o.dst:=by
     simp only[d9,g8,hne,false_or,jo,lU,Bool.not_true,bu] at ik;simpa using ik
    have:=qm (cx.base+s) (fun e=>yz (by
     rw[xm];cases qb:o.dst with
     | none=>rw[qb] at e;cases e
     | some d =>
      rw[qb] at e;simp only[dc,ad] at e;have:s=d:=Nat.add_left_cancel e
      rw[this])) g3
    exact⟨zs,g1,by rw[this.2];exact g2,this.1⟩
   .trivial
  -- one operation
  have one:Op1 P cx o S (fun S1=>mI P cx ops l S1 K)->o.wp P a w (wpOps P ops Q (List.range' (k+1) l.length)) Q:=by
   intro h1;unfold Op1 at h1;split at h1
   .rename_i fid args nv;unfold cP at nv;split at nv
    .rename_i c jo;split at nv
     .rename_i f i5;split at nv
      .rename_i fid' caps hf;simp only[ad,aw] at nv;obtain⟨rfl,rfl⟩:=nv;obtain⟨qt,hc⟩:=h1;have rr:=hr.ev f;rw[hf] at rr;generalize hv:a.eval f=fv at rr;cases rr with
       | fn hlen hh =>
        rename_i cvs;have hargs:RVs G w (c.args.toList.map S.ev++caps) ((c.args.map a.eval).toList++cvs):=by
         refine RVs.append ⟨by simp,fun i h1 h2=>?_⟩ ⟨hlen,hh⟩;simp only[bl,fy];exact hr.ev _
        have o9:=hc G w _ hr.mem hargs;unfold Oper.wp;have ka:(execOp a.eval o).run P w=.ok (.enter fid' ((c.args.map a.eval).toList++cvs).toArray) w:=by
         have e:((c.args.map a.eval).toList++cvs).toArray = #[]++c.args.map a.eval++cvs.toArray:=by simp
         simp only[execOp,jo,resolve,i5,hv,Deferred.ofValue,ax,a8,aj,invoke,e];exact qt _ w
        rw[ka];refine Calls.mono o9 fun e w' ⟨u,av,m',G',g1,g2,g3,g4,g5,g6,g7⟩=>?_
        subst g1;have qn:aV G' ⟨m'.box,cx.nb,m'.tok,m'.nt⟩ w':=by
         have:(⟨m'.box,cx.nb,m'.tok,m'.nt⟩:bH)=m':=by cases m';simp at g3;simp[g3]
         rw[this];exact g4
        have ry:=hr.put g6 s9 g5 qn;exact rest _ _ _ G' g2 ry (hl.step ⟨g6,fun k _ hg=>g7 k hg⟩) fun k _ hg=>g7 k hg
      .cases nv
     .cases nv
    .cases nv
   .rcases h1 with ⟨S1,hs,h2⟩|⟨t,es,hn,h2⟩
    .exact Oper.wp_mono (fun a1 w1 ⟨G1,k1,k2,k3⟩=>rest S1 a1 w1 G1 h2 k1 (hl.step (k3.leK k2)) k3) (pU hs hr s9 j8 (hp o (by simp)))
    .obtain⟨b,hb,jc⟩:=aGV hn (fun _=>rfl) (fun x _=>hr.ev x);have A6:dO P o a.eval G w fun u G' w'=>u=.bool b/\G'=G/\w'=w:=dO.pure jc ⟨rfl,rfl,rfl⟩
     refine A6.wp (n:=cx.n) (nb:=cx.nb) (S:=S) fun u G' w' iv ⟨k1,k2,k3⟩=>?_
     subst k1;subst k2;subst k3;have ry:=hr.put iv s9 (RV.raw (G:=G') (w:=w') (v:=.bool b) rfl) hr.mem;exact rest _ _ _ G' (h2 b hb) ry (hl.step ⟨iv,fun k _ hg=>⟨hg,rfl⟩⟩) fun k _ hg=>⟨hg,rfl⟩
  unfold wpOp;rw[ho];simp only[];unfold mI at h;split at h
  .rename_i hg;have hw:Region.wanted o (yielded ops a.tmps)=true:=by simp[Region.wanted,hg]
   rw[af hw];exact .inl (one h)
  .rename_i j want hg;split at h
   .rename_i b hy;have wk:=uE hr hy (fun o d h1 h2=>kz o d (dk h1) h2)
    by_cases e:b=some want
    .have hw:Region.wanted o (yielded ops a.tmps)=true:=by simp[Region.wanted,hg,wk,e]
     rw[af hw];exact .inl (one (h.1 e))
    .have hw:¬Region.wanted o (yielded ops a.tmps)=true:=by simp[Region.wanted,hg,wk,e]
     rw[ac hw];exact rest _ _ _ G (h.2 e) (hr.put (Le.refl G w) s9 RV.undef hr.mem) (hl.step (LeK.refl _ _ _ _)) fun k _ rx=>⟨rx,rfl⟩
   .exact h.elim
variable {P:Program}
theorem cS.drew{n nb:Nat}{G:Gh}{S:AS}{a:Act}{w:World}(h:cS n nb G S a w):cS n nb G S a w.drew :=
 ⟨h.defers,h.size,fun t=>(h.tmps t).mono Le.drew,h.mem.drew⟩
theorem lK{n:Nat}{ops:Array Oper}(h:nQ n ops=true):∀(o:Oper) d,o∈ops->o.dst=some d->d<n:=by
 intro o d ho qb;have:=aq.1 h o (by simpa using ho)
 rw[qb] at this;simpa using this
def iP(n:Nat)(ops:Array Oper)(draw:Bool):Bool:=eZ ops&&nQ n ops&&(!draw||aJW ops)
theorem AT.region{cx:Cx}{nt0 id:Nat}{ops:Array Oper}{draw:Bool}{S:AS}{K:Exit->AS->Prop}(hf:P.follows .mixedOrders=true)(j8:cx.base+cx.n<=cx.nb)(ia:iP cx.n ops draw=true)(h:oJ P cx ops draw S (K .normal)):AT P cx nt0 (.region id ops draw) S K:=by
 simp only[iP,bd,d9,c9] at ia;obtain⟨⟨hal,kz⟩,l8⟩:=ia;intro G0 w0 he hn G a w hr hl;have hd:=lK kz;obtain⟨b,hb,ry,hp,jk⟩:=jE j8 ops.toList S.box (S:=S) hr (fun o ho d qb=>hd o d (by simpa using ho) qb) (kG hal) h;have mo:LeC cx G0 w0 G w { S with box:=b }:=⟨hl.1,fun k hk hg=>by
  rw[<-hl.2 k hk hg];refine jk k fun hm=>?_
  obtain⟨o,ho,he⟩:=gt.1 hm;split at he
  .rename_i T s h1 h2;simp only[ad] at he;subst he;exact absurd hk (by simp)
  .cases he⟩
 cases draw with
 | false =>
  simp only at hb;refine wp_region ?_;have:=pZ (cx:=cx) (Q:=fun e a' w'=>∃S' G',K e S'/\cS cx.n cx.nb G' S' a' w'/\LeC cx G0 w0 G' w' S') (K:=K .normal) (G0:=G0) (w0:=w0) hd j8 hal (fun S' a' w' G' h1 h2 h3=>⟨S',G',h1,h2,h3⟩) ops.toList 0 { S with box:=b } a w G (by simp) hp ry mo hb
  simpa[List.range_eq_range'] using this
 | true =>
  simp only at hb;obtain⟨S',jc,hK⟩:=hb;refine wp_region_any hf ?_;have A7:aJW ops=true:=by simpa using l8
  have A8:cS cx.n cx.nb G { S with box:=b } a w.drew:=ry.drew
  have A9:LeC cx G0 w0 G w.drew { S with box:=b }:=mo.step ⟨Le.drew,fun k _ hg=>⟨hg,rfl⟩⟩
  refine aG4 (n:=cx.n) (nb:=cx.nb) (base:=cx.base) (Sf:=S') (G0:=G) (w0:=w.drew) (b0:=b) A7 hal kz j8 (fun a' w' G' h1 h2=>⟨S',G',hK,h1,A9.step h2⟩) ops.size (Array.replicate ops.size false) (List.range ops.size) { S with box:=b } a w.drew G (by simp) ?_ (by simp) ?_ (kT.of_all jc) A8 ?_ (LeK.refl _ _ _ _)
  .rw[ez.2];intro i hi;simp at hi;simp[Array.getD,hi]
  .intro i o ho uz;have hi:=(bj.1 ho).1;simp[Array.getD,hi] at uz
  .intro i _ o ho;exact hp o (by simpa using dk ho)
theorem AT.region2{cx:Cx}{nt0 id:Nat}{ops:Array Oper}{S:AS}{K:Exit->AS->Prop}(hf:P.follows .mixedOrders=true)(j8:cx.base+cx.n<=cx.nb)(ia:(eZ ops&&nQ cx.n ops&&aBw ops)=true)(pa:mH ops S)(h:oJ P cx ops true S (fun S'=>Far S' (oA ops.toList)/\K .normal S')):AT P cx nt0 (.region id ops true) S K:=by
 simp only[bd] at ia;obtain⟨⟨hal,kz⟩,l8⟩:=ia;intro G0 w0 he hn G a w hr hl;have hd:=lK kz;obtain⟨b,hb,ry,hp,jk⟩:=jE j8 ops.toList S.box (S:=S) hr (fun o ho d qb=>hd o d (by simpa using ho) qb) (kG hal) h;have mo:LeC cx G0 w0 G w { S with box:=b }:=⟨hl.1,fun k hk hg=>by
  rw[<-hl.2 k hk hg];refine jk k fun hm=>?_
  obtain⟨o,ho,he⟩:=gt.1 hm;split at he
  .rename_i T s h1 h2;simp only[ad] at he;subst he;exact absurd hk (by simp)
  .cases he⟩
 simp only at hb;obtain⟨S',jc,sf,hK⟩:=hb;refine wp_region_any hf ?_;have A8:cS cx.n cx.nb G { S with box:=b } a w.drew:=ry.drew
 have A9:LeC cx G0 w0 G w.drew { S with box:=b }:=mo.step ⟨Le.drew,fun k _ hg=>⟨hg,rfl⟩⟩
 refine aEl (n:=cx.n) (nb:=cx.nb) (base:=cx.base) (Sf:=S') (G0:=G) (w0:=w.drew) (b0:=b) l8 hal kz j8 sf (fun a' w' G' h1 h2=>⟨S',G',hK,h1,A9.step h2⟩) ops.size (Array.replicate ops.size false) (List.range ops.size) { S with box:=b } a w.drew G rfl pa (by simp) ?_ (by simp) ?_ (kT.of_all jc) A8 ?_ (LeK.refl _ _ _ _)
 .rw[ez.2];intro i hi;simp at hi;simp[Array.getD,hi]
 .intro i o ho uz;have hi:=(bj.1 ho).1;simp[Array.getD,hi] at uz
 .intro i _ o ho;exact hp o (by simpa using dk ho)
def awp(P:Program)(cx:Cx)(nt0:Nat):Code->AS->(Exit->AS->Prop)->Prop
 | .skip,S,K=>K .normal S
 | .region _ ops draw,S,K=>oJ P cx ops draw S (K .normal)
 | .seq a b,S,K=>awp P cx nt0 a S fun e S'=>match e with
  | .normal=>awp P cx nt0 b S' K
  | e=>K e S'
 | .cond c a b,S,K=>match S.ev c with
  | .d (.raw (.bool t))=>(t=true->awp P cx nt0 a S K)/\(t=false->awp P cx nt0 b S K)
  | _=>False
 | .block id c,S,K=>awp P cx nt0 c S fun e S'=>match e with
  | .exit j=>if j=id then K .normal S' else K (.exit j) S'
  | e=>K e S'
 | .loop c,S,K=>AT P cx nt0 (.loop c) S K
 | .exit id,S,K=>K (.exit id) S
 | .ret,S,K=>K .ret S
 | _,_,_=>False
theorem dT{p:Nat->Prop}(h:∃n,p n):∃n,p n/\∀m,p m->n<=m:=by
 obtain⟨n,hn⟩:=h;induction n using Nat.strongRecOn with
 | ind n ih =>
  by_cases hm:∃m,m<n/\p m
  .obtain⟨m,xy,hp⟩:=hm;exact ih m xy hp
  .exact⟨n,hn,fun m hp=>by
    rcases ew m n with h|h
    .exact absurd ⟨m,h,hp⟩ hm
    .exact h⟩
theorem AT.loop{cx:Cx}{nt0:Nat}{c:Code}{S:AS}{K:Exit->AS->Prop}(I:Nat->AS->Prop)(h0:∃n S0,aS cx nt0 S S0/\I n S0)(jl:∀n S,I n S->AT P cx nt0 c S fun e S'=>match e with
   | .normal=>∃m S'',m<n/\aS cx nt0 S' S''/\I m S''
   | e=>K e S'):AT P cx nt0 (.loop c) S K:=by
 classical
 obtain⟨n0,S0,hw,hI⟩:=h0;refine AT.weaks hw ?_;intro G0 w0 he hn G a w hr hl
 let good:Act->World->Nat->Prop:=fun a w n=>∃S G,I n S/\cS cx.n cx.nb G S a w/\LeC cx G0 w0 G w S
 refine wp_loop (fun a w=>∃n,good a w n) (fun a w=>if h:∃n,good a w n then Classical.choose (dT h) else 0) ⟨n0,S0,G,hI,hr,hl⟩ ?_;intro a w hg;obtain⟨hc1,xz⟩:=Classical.choose_spec (dT hg);have hmu:(if h:∃n,good a w n then Classical.choose (dT h) else 0)=Classical.choose (dT hg):=by rw[gx hg]
 obtain⟨S1,G1,DG,ry,mo⟩:=hc1;refine wp_mono (jl _ S1 DG G0 w0 he hn G1 a w ry mo) ?_;rintro e a' w' ⟨S',G',h1,h2,h3⟩;cases e with
 | normal =>
  obtain⟨m,S'',hlt,⟨out,loc,loc',fz,oi⟩,DH⟩:=h1;obtain⟨G'',hr'',hl'',_⟩:=oi.sound he h3.1 h2 hn;have u0:good a' w' m:=⟨S'',G'',DH,hr'',hl'',fun j hj hg=>by rw[<-h3.2 j hj hg,oi.hb',oi.hb,lO hj,lO hj]⟩
  refine⟨⟨m,u0⟩,?_⟩;have vu:∃n,good a' w' n:=⟨m,u0⟩
  show (if h:∃n,good a' w' n then Classical.choose (dT h) else 0)<(if h:∃n,good a w n then Classical.choose (dT h) else 0)
  rw[gx vu,gx hg];exact Nat.lt_of_le_of_lt ((Classical.choose_spec (dT vu)).2 m u0) hlt
 | _=>exact⟨S',G',h1,h2,h3⟩
def bI(P:Program)(S:AS):ResultVar->Option AV
 | .tmp t=>some (S.tmps t)
 | .cell a T=>match aX P T,aT P T,S.tmps a with
  | some ag,some n,.ptr k i off=>match S.box k with
   | some rows=>match rows[i]? with
    | some r=>rB ag n r off
    | none=>none
   | none=>none
  | _,_,_=>none
def aP(P:Program)(S:AS):List ResultVar->Option (List AV)
 | []=>some []
 | r::rs=>match bI P S r,aP P S rs with
  | some v,some vs=>some (v::vs)
  | _,_=>none
def rO:List AV->AV
 | [v]=>v
 | vs=>.tup vs
attribute [simp] rO
def Fin(P:Program)(cx:Cx)(nt0:Nat)(rs:List ResultVar)(Q:AV->bH->Prop)(S:AS):Prop :=
 ∃vs out loc fz av' m',aP P S rs=some vs/\aJz cx nt0 out loc [] fz S ⟨fun _=>.bot,lb cx.base out [],m'.tok,m'.nt⟩/\m'.box=lb cx.base out []/\m'.nb=cx.base /\
  To (fun k=>lb cx.base out [] k≠none) (fun t=>m'.nt=S.nt∨t<m'.nt) (fz.map fun x=>(cx.base+x.1,x.2)) (rO vs) av'/\Q av' m'
theorem aEJ{n nb:Nat}{G:Gh}{S:AS}{a:Act}{w:World}(hr:cS n nb G S a w){r:ResultVar}{v:AV}(h:bI P S r=some v):
  ∃u,((match r with|.tmp t=>pure (a.tmps.getD t undef)|.cell x T=>do loadVar T (<-asAddr (a.tmps.getD x undef))):Sem Value).run P w=.ok u w/\RV G w v u:=by
 cases r with
 | tmp t =>
  simp only[bI,ad] at h;subst h;exact⟨_,rfl,hr.tmps t⟩
 | cell x T =>
  -- a load by the name
  have hE:qK P { dst:=none,op:=.load T (.tmp x),type:=T,pos := "",after := #[],guard:=none } S.ev S.box v:=by
   unfold qK;simp only[bI] at h;simp only[AS.ev];cases h1:aX P T with
   | none=>rw[h1] at h;cases h
   | some ag =>
    cases h2:aT P T with
    | none=>rw[h1,h2] at h;cases h
    | some n =>
     rw[h1,h2] at h;cases h3:S.tmps x with
     | ptr k i off =>
      rw[h3] at h;simp only at h ⊢;cases h4:S.box k with
      | none=>rw[h4] at h;cases h
      | some rows =>
       rw[h4] at h;simp only at h ⊢;cases h5:rows[i]? with
       | none=>rw[h5] at h;cases h
       | some r=>rw[h5] at h;exact h
     | _=>rw[h3] at h;cases h
  obtain⟨u,h1,h2⟩:=xC (ρv:=a.eval) hE (fun y _=>hr.ev y) hr.mem;refine⟨u,?_,h2⟩;simp only[execOp,Instr.loadAt,Act.eval] at h1;cases hp:a.tmps.getD x undef with
  | pointer q =>
   cases q with
   | none=>rw[hp] at h1;simp[Instr.sureAddr,stuck,Sem.run] at h1
   | some q =>
    rw[hp] at h1;simp only[hp,Instr.sureAddr,asAddr,ax,a8,aj] at h1 ⊢;cases hv:(loadVar T q).run P w with
    | ok u' w'=>rw[hv] at h1;simp at h1;rw[h1.1,h1.2]
    | halt hh w'=>rw[hv] at h1;simp at h1
  | _=>rw[hp] at h1;simp[Instr.sureAddr,stuck,Sem.run] at h1
theorem zG{n nb:Nat}{G:Gh}{S:AS}{a:Act}{w:World}(hr:cS n nb G S a w){fn:Func}{vs:List AV}(h:aP P S fn.results.toList=some vs):∃u,(results fn a.tmps).run P w=.ok u w/\RV G w (rO vs) u:=by
 have key:∀(rs:List ResultVar) (vs:List AV),aP P S rs=some vs->∃us,(rs.mapM (m:=Sem) fun
   | .tmp t=>pure (a.tmps.getD t undef)
   | .cell x T=>do loadVar T (<-asAddr (a.tmps.getD x undef))).run P w=.ok us w/\RVs G w vs us:=by
  intro rs;induction rs with
  | nil =>
   intro vs h;simp only[aP,ad] at h;subst h;exact⟨[],rfl,RVs.nil⟩
  | cons r rs ih =>
   intro vs h;simp only[aP] at h;split at h
   .rename_i v vs' h1 h2;simp only[ad] at h;subst h;obtain⟨u,g1,g2⟩:=aEJ hr h1;obtain⟨us,g3,g4⟩:=ih vs' h2;refine⟨u::us,?_,g4.cons g2⟩;rw[List.mapM_cons];simp only[ax,a8];rw[g1];simp only[aj,g3,a8]
   .cases h
 obtain⟨us,h1,h2⟩:=key fn.results.toList vs h;have jc:(results fn a.tmps).run P w=.ok (if h:us.toArray.size=1 then us.toArray[0] else .tuple us.toArray) w:=by
  unfold results;rw[Array.mapM_eq_mapM_toList];simp only[map_eq_pure_bind,ax]
  erw [h1]
  simp only[aj,a8]
 refine⟨_,jc,?_⟩;have hl:=h2.1
 match vs,us,h2,hl with
 | [],[],h2,_=>exact .tup rfl h2.2
 | [v],[u],h2,_=>exact h2.2 0 (by simp) (by simp)
 | v1::v2::vs,u1::u2::us,h2,_ =>
  have:¬(u1::u2::us).toArray.size=1:=by simp
  rw[dif_neg this];exact .tup h2.1 h2.2
def jJ(k:Nat):List AV->List (Nat × AV)
 | []=>[]
 | a::r=>(k,a)::jJ (k+1) r
theorem aAz:∀(l:List AV) (k t:Nat),tl (jJ k l) t=if k<=t then l.getD (t-k) .bot else .bot
 | [],k,t=>by simp[jJ,tl]
 | a::l,k,t=>by
  simp only[jJ,tl,aAz l (k+1) t];by_cases h:t=k
  .subst h;simp
  .by_cases h2:k<=t
   .have h3:k+1<=t:=by omega
    have h4:t-k=(t-(k+1))+1:=by omega
    simp[h,h2,h3,h4]
   .have h3:¬k+1<=t:=by omega
    simp[h,h2,h3]
theorem aD.of_body{f:FuncId}{fn:Func}{c:Code}{args:List AV}{m:bH}{Q:AV->bH->Prop}(ue:P.funcs[f]?=some fn)(hb:fn.body=some c)(q9:(fn.name == "runtime.NumGoroutine")=false)(hf:P.follows .mixedOrders=true)(_hok:true=true)(hn:args.length<=fn.ntmps)(h:lb m.nb m.box []=m.box->(∀t,m.tok t=true->t<m.nt)->AT P ⟨m.nb,m.nb+fn.ntmps,fn.ntmps,m.box⟩ m.nt c ⟨tl (jJ 0 args),lb m.nb m.box [],m.tok,m.nt⟩
   fun e S=>(e=.normal∨e=.ret)/\Fin P ⟨m.nb,m.nb+fn.ntmps,fn.ntmps,m.box⟩ m.nt fn.results.toList Q S):aD P f args m Q:=by
 refine⟨iC.mk ue (by rw[hb];rfl) q9,fun G w vals hm hr=>?_⟩;have Hb:lb m.nb m.box []=m.box:=by
  funext k
  simp only[lb,lk];split
  .rfl
  .rename_i hk;exact(hm.nb k (by omega)).symm
 have j6:=h Hb (fun t ht=>(hm.toks t ht).1);refine calls_of_wp ue hb ?_
 let cx:Cx:=⟨m.nb,m.nb+fn.ntmps,fn.ntmps,m.box⟩
 have hE:aGn cx m.nt G:=by
  intro k rows hk u3 hg r wo x wq;cases rx:G.bx k with
  | none=>exact absurd rx hg
  | some y =>
   obtain⟨b,sz⟩:=y;obtain⟨_,cs,e,_,_,hR,_⟩:=hm.box k rows b sz u3 rx;have td:x∈rows.flatten:=gl.2 ⟨r,wo,wq⟩
   obtain⟨i,hi,rfl⟩:=bf td;refine(hR.2 i hi (by rw[<-hR.1];exact hi)).ok (fun k' y' jv=>?_) (fun t ht=>by rw[<-hm.nt];exact ht);rcases ew k' m.nb with h1|h1
   .exact h1
   .rw[hm.nobox k' (hm.nb k' h1)] at jv;cases jv
 have hS:cS cx.n cx.nb G ⟨tl (jJ 0 args),lb m.nb m.box [],m.tok,m.nt⟩ { tmps:=vals.toArray++Array.replicate (fn.ntmps-vals.toArray.size) undef,defers:=[] } w:=by
  refine⟨rfl,?_,fun t=>?_,?_⟩
  .have:=hr.1
   simp;show _=fn.ntmps
   omega
  .show RV G w (tl (jJ 0 args) t) _
   rw[aAz];simp only[ai,↓reduceIte,Nat.sub_zero];by_cases ht:t<args.length
   .have ly:t<vals.length:=by rw[<-hr.1];exact ht
    have h1:args.getD t .bot=args[t]:=by simp[ht]
    have h2:(vals.toArray++Array.replicate (fn.ntmps-vals.toArray.size) undef).getD t undef=vals[t]:=by
     simp only[Array.getD_eq_getD_getElem?];rw[Array.getElem?_append_left (by simpa using ly)];simp[ly]
    rw[h1,h2];exact hr.2 t ht ly
   .have h1:args.getD t .bot=.bot:=by simp[ht]
    rw[h1];exact .bot
  .rw[Hb];constructor
   case box=>exact hm.box
   case nobox=>exact hm.nobox
   case inj=>exact hm.inj
   case nb=>intro k hk;exact hm.nb k (by simp only[cx] at hk;omega)
   case nt=>exact hm.nt
   case toks=>exact hm.toks
   case tokb=>exact hm.tokb
   case tinj=>exact hm.tinj
   case tnt=>exact hm.tnt
   case glob=>exact hm.glob
   case fresh=>exact hm.fresh
 have hL:LeC cx G w G w ⟨tl (jJ 0 args),lb m.nb m.box [],m.tok,m.nt⟩:=⟨LeB.refl _ _ _,fun k hk _=>by
  show lb m.nb m.box [] k=m.box k
  rw[Hb]⟩
 refine wp_mono (j6 G w hE (by rw[hm.nt];exact nr0 _) G _ w hS hL) ?_;rintro e a' w' ⟨S',G',⟨he,u5⟩,qp,lh⟩;obtain⟨vs,out,loc,fz,av',m',g1,g2,g3,g4,g5,g6⟩:=u5;obtain⟨u,hu,mv⟩:=zG qp g1;obtain⟨G'',hr'',hl'',hto⟩:=g2.sound hE lh.1 qp (by rw[hm.nt];exact nr0 _);have p8:a'.defers=[]/\∃v,(results fn a'.tmps).run P w'=.ok v w'/\∃v_1 av m' G',Ending.returned v=.returned v_1/\Q av m'/\m'.nb=m.nb/\aV G' m' w'/\RV G' w' av v_1/\Le G w G' w'/\∀k,G.bx k=none->G'.bx k=none/\m'.box k=m.box k:=by
  refine⟨qp.defers,u,hu,u,av',m',G'',rfl,g6,g4,?_,hto mv g5,?_,?_⟩
  .have hm'':=hr''.mem
   simp only at hm'';constructor
   case box=>intro k rows b sz hk hb;exact hm''.box k rows b sz (by rw[<-g3];exact hk) hb
   case nobox=>intro k hk;exact hm''.nobox k (by rw[<-g3];exact hk)
   case inj=>exact hm''.inj
   case nb =>
    intro k hk;rw[g3];have:¬k<m.nb:=by
     have:m'.nb=m.nb:=g4
     omega
    simp[lb,lk,this]
   case nt=>exact hm''.nt
   case toks=>exact hm''.toks
   case tokb=>exact hm''.tokb
   case tinj=>exact hm''.tinj
   case tnt=>exact hm''.tnt
   case glob=>exact hm''.glob
   case fresh=>exact hm''.fresh
  .refine⟨hl''.os,hl''.tape,hl''.output,hl''.size,hl''.whole,hl''.part,fun k x hx=>?_,hl''.nt,hl''.tk,hl''.ty⟩;have hk:k<cx.base:=by
    rcases ew k m.nb with h1|h1
    .exact h1
    .rw[hm.nobox k (hm.nb k h1)] at hx;cases hx
   rw[hl''.bx k hk];exact hx
  .intro k hk;rcases ew k cx.base with h1|h1
   .refine⟨by rw[hl''.bx k h1];exact hk,?_⟩;have e1:=lh.2 k h1 hk;rw[g3,lO h1];rw[g2.hb,lO h1] at e1;exact e1
   .have uu:m'.box k=none:=by
     rw[g3];have:¬k<m.nb:=by simp only[cx] at h1;omega
     simp[lb,lk,this]
    exact⟨hr''.mem.nobox k (by simp only;rw[<-g3];exact uu),by rw[uu,hm.nb k h1]⟩
 rcases he with rfl|rfl
 .exact p8
 .exact p8
variable {P:Program}
theorem bN{op:BinOp}{T:TypeId}{a b r0:Value}(h0:r0.oneCell'=true)(h:∀x y w,Sem.run P (do eqGuard op T x y a b;binOp op T a b) w=.ok r0 w)(r:Value):eK P op T a b r↔r=r0:=by
 constructor
 .intro hb;have:=hb.2 (.const a) (.const b) default
  rw[h] at this;injection this with h1 _
  exact h1.symm
 .rintro rfl;exact⟨h0,h⟩
theorem aHY{op:UnOp}{a r0:Value}(h0:r0.oneCell'=true)(h:∀w,Sem.run P (Op.unary op a) w=.ok r0 w)(r:Value):aK7 P op a r↔r=r0:=by
 constructor
 .intro hb;have:=hb.2 default
  rw[h] at this;injection this with h1 _
  exact h1.symm
 .rintro rfl;exact⟨h0,h⟩
section
variable (T:TypeId) (k:IntKind) (a b:Int) (r:Value)
@[simp] theorem aRD:eK P .lss T (.int k a) (.int k b) r↔r=.bool (decide (a<b)):=bN rfl (fun _ _ _=>by simp[binOp,Op.intCmp,eqGuard]) r
@[simp] theorem aRQ:eK P .leq T (.int k a) (.int k b) r↔r=.bool (decide (a<=b)):=bN rfl (fun _ _ _=>by simp[binOp,Op.intCmp,eqGuard]) r
@[simp] theorem aSm:eK P .gtr T (.int k a) (.int k b) r↔r=.bool (decide (b<a)):=bN rfl (fun _ _ _=>by simp[binOp,Op.intCmp,eqGuard]) r
@[simp] theorem aQ3:eK P .geq T (.int k a) (.int k b) r↔r=.bool (decide (b<=a)):=bN rfl (fun _ _ _=>by simp[binOp,Op.intCmp,eqGuard]) r
@[simp] theorem aRP:eK P .eql T (.int k a) (.int k b) r↔r=.bool (a==b):=bN rfl (fun _ _ _=>by simp[binOp,Op.intCmp,eqGuard]) r
@[simp] theorem aQ5:eK P .neq T (.int k a) (.int k b) r↔r=.bool (a != b):=bN rfl (fun _ _ _=>by simp[binOp,Op.intCmp,eqGuard]) r
@[simp] theorem aRz:eK P .add T (.int k a) (.int k b) r↔r=.int k (k.wrap (a+b)):=bN rfl (fun _ _ _=>by simp[binOp,Op.intArith,eqGuard]) r
@[simp] theorem aQ7:eK P .sub T (.int k a) (.int k b) r↔r=.int k (k.wrap (a-b)):=bN rfl (fun _ _ _=>by simp[binOp,Op.intArith,eqGuard]) r
@[simp] theorem aRI:eK P .mul T (.int k a) (.int k b) r↔r=.int k (k.wrap (a*b)):=bN rfl (fun _ _ _=>by simp[binOp,Op.intArith,eqGuard]) r
theorem aKL(h:b≠0):eK P .quo T (.int k a) (.int k b) r↔r=.int k (k.wrap (a.tdiv b)):=bN rfl (fun _ _ _=>by simp[binOp,Op.intDiv,eqGuard,h]) r
theorem aKc(h:b≠0):eK P .rem T (.int k a) (.int k b) r↔r=.int k (a.tmod b):=bN rfl (fun _ _ _=>by simp[binOp,Op.intDiv,eqGuard,h]) r
theorem aK6{k':IntKind}(h:0<=b):eK P .shr T (.int k a) (.int k' b) r↔r=.int k (a.fdiv (2 ^ min b.toNat k.bits)):=by
 have h':¬b<0:=by omega
 exact bN rfl (fun _ _ _=>by simp[binOp,Op.shift,eqGuard,h']) r
theorem aKr:eK P .and T (.int k a) (.int k b) r↔r=.int k (k.wrap (BitVec.ofInt k.bits a &&& BitVec.ofInt k.bits b).toNat):=bN rfl (fun _ _ _=>by simp[binOp,Op.intBits,eqGuard]) r
theorem aHW{S' T':TypeId}{k':IntKind}(hs:(P.underlying S').isSome=true)(ht:P.underlying T'=some (.int k')):aEg P S' T' (.int k a) r↔r=.int k' (k'.wrap a):=by
 obtain⟨u,hu⟩:=cq.1 hs;have hr:∀w,Sem.run P (convert S' T' (.int k a)) w=.ok (.int k' (k'.wrap a)) w:=by
  intro w;simp only[convert,ax,bp hu,bp ht,aj];cases u<;>simp[Conv.intToInt]
 constructor
 .intro hb;have:=hb.2 default
  rw[hr] at this;injection this with h1 _
  exact h1.symm
 .rintro rfl;exact⟨rfl,hr⟩
@[simp] theorem aSV(t:Bool):aK7 P .not (.bool t) r↔r=.bool (!t):=aHY rfl (fun _=>by simp[Op.unary]) r
end
def aJ(P:Program)(T:TypeId):Bool:=match P.underlying T with|some .bool=>true|_=>false
theorem xT{T:TypeId}(h:aJ P T=true):P.underlying T=some .bool:=by
 unfold aJ at h;split at h
 .assumption
 .cases h
theorem lA(d:Nat){T:TypeId}(h:P.underlying T=some .bool)(a b:Bool)(w:World):(Op.equalIn (d+1) T (.bool a) (.bool b)).run P w=.ok (a==b) w:=by
 simp[Op.equalIn,bp h]
theorem aBs{T:TypeId}(h:P.underlying T=some .bool)(a b:Bool)(w:World):(binOp .eql T (.bool a) (.bool b)).run P w=.ok (.bool (a==b)) w:=by
 have:=lA 9999 h a b w
 simp only[binOp,Op.equal,Op.maxDepth,ax,this,aj,a8]
theorem aBy{T:TypeId}(h:P.underlying T=some .bool)(a b:Bool)(w:World):(binOp .neq T (.bool a) (.bool b)).run P w=.ok (.bool (!(a==b))) w:=by
 have:=lA 9999 h a b w
 simp only[binOp,Op.equal,Op.maxDepth,ax,this,aj,a8]
theorem aHG{T:TypeId}(h:aJ P T=true)(a b:Bool):eK P .eql T (.bool a) (.bool b) (.bool (a==b)) :=
 (bN rfl (fun _ _ w=>by rw[ax];exact aBs (xT h) a b w) _).2 rfl
theorem aKa{T:TypeId}(h:aJ P T=true)(a b:Bool):eK P .neq T (.bool a) (.bool b) (.bool (!(a==b))) :=
 (bN rfl (fun _ _ w=>by rw[ax];exact aBy (xT h) a b w) _).2 rfl
theorem aJs{T:TypeId}(a b:ByteArray):eK P .eql T (.string a) (.string b) (.bool (a.toList==b.toList)) :=
 (bN rfl (fun _ _ w=>by rw[ax];rfl) _).2 rfl
theorem aJD{T:TypeId}(a b:ByteArray):eK P .neq T (.string a) (.string b) (.bool !(a.toList==b.toList)) :=
 (bN rfl (fun _ _ w=>by rw[ax];rfl) _).2 rfl
theorem aHI{T:TypeId}(a b:ByteArray):eK P .lss T (.string a) (.string b) (.bool (Op.bytesLess a.toList b.toList)) :=
 (bN rfl (fun _ _ w=>by rw[ax];rfl) _).2 rfl
theorem aJZ{T:TypeId}(a b:ByteArray)(h:a.size+b.size<=1000000000000):eK P .add T (.string a) (.string b) (.string (a++b)) :=
 (bN rfl (fun _ _ w=>by
  have h2:¬(((a.size+b.size:Nat):Int)>IntKind.i64.max):=by
   have:IntKind.i64.max=9223372036854775807:=rfl
   rw[this];omega
  rw[ax];show Sem.run P (Op.stringOp .add a b) w=_
  unfold Op.stringOp;simp only[h2,if_false]
  rfl) _).2 rfl
def eqT(P:Program)(T:TypeId):Option Nat:=match P.underlying T with
 | some (.struct fs)=>if (fs.toList.all fun f=>f.name != "_" && (match P.underlying f.type with|some (.int _)=>true|_=>false))&&fs.toList.map (·.offset)==List.range fs.size&&!P.stoodInHeld T&&!P.eqGuardType P.depth T then some fs.size else none
 | _=>none
def pS:List Value->Option (List Int)
 | []=>some []
 | .int .i64 n::r=>(pS r).map (n :: ·)
 | _::_=>none
theorem mV:∀{vs:List Value} {ns:List Int},pS vs=some ns->vs=ns.map (.int .i64)
 | [],ns,h=>by simp[pS] at h;subst h;rfl
 | v::r,ns,h=>by
  unfold pS at h;split at h
  .cases ‹_::_=[]›
  .rename_i n r' mt;cases mt;obtain⟨l,h1,h2⟩:=cy.1 h;subst h2;rw[mV h1];rfl
  .cases h
theorem jV(d:Nat)(w:World):∀(fs:List Field) (i:Nat) (k9 bs:List Int),(∀f∈fs,f.name ≠ "_" /\ ∃k,P.underlying f.type=some (.int k))->fs.map (·.offset)=List.range' i fs.length->k9.length=i+fs.length->bs.length=i+fs.length ->
  (Op.eqFields (d+1) (k9.map (Value.int .i64)).toArray (bs.map (Value.int .i64)).toArray fs).run P w=.ok (decide (k9.drop i=bs.drop i)) w
 | [],i,k9,bs,_,_,ha,hb=>by
  have h1:k9.drop i=[]:=gh (by simp at ha;omega)
  have h2:bs.drop i=[]:=gh (by simp at hb;omega)
  simp[Op.eqFields,h1,h2]
 | f::fs,i,k9,bs,hf,ho,ha,hb=>by
  obtain⟨hn,k,hk⟩:=hf f (by simp);simp only[di,ci,List.range'_succ,List.cons.injEq] at ho;obtain⟨By,kg⟩:=ho;simp only[ci] at ha hb;have kk:i<k9.length:=by omega
  have nc:i<bs.length:=by omega
  have rm:aX P f.type=some false:=by simp[aX,hk]
  have DI:(part f.type (k9.map (Value.int .i64)).toArray f.offset).run P w=.ok (.int .i64 k9[i]) w:=by
   simp only[part,ax,iM rm,aj,bu,↓reduceIte,By];simp[kk]
  have wv:(part f.type (bs.map (Value.int .i64)).toArray f.offset).run P w=.ok (.int .i64 bs[i]) w:=by
   simp only[part,ax,iM rm,aj,bu,↓reduceIte,By];simp[nc]
  have ih:=jV d w fs (i+1) k9 bs (fun g hg=>hf g (by simp[hg])) kg (by omega) (by omega);simp only[Op.eqFields,hn,ne_eq,gy,↓reduceIte,ax,DI,wv,aj,run_equalIn_int w d f.type .i64 k _ _ hk,Sem.run_ite,ih];have ea:k9.drop i=k9[i]::k9.drop (i+1):=List.drop_eq_getElem_cons kk
  have eb:bs.drop i=bs[i]::bs.drop (i+1):=List.drop_eq_getElem_cons nc
  by_cases e:k9[i]=bs[i]
  .have e2:(k9.drop i=bs.drop i)↔(k9.drop (i+1)=bs.drop (i+1)):=by rw[ea,eb,e];simp only[List.cons.injEq,true_and]
   simp[e,e2]
  .have e2:¬(k9.drop i=bs.drop i):=by rw[ea,eb];simp only[List.cons.injEq,e,false_and,gy]
   simp[e,e2]
theorem aD2{T n:Nat}(h:eqT P T=some n){k9 bs:List Int}(ha:k9.length=n)(hb:bs.length=n)(x y:Operand)(w:World):
  (eqGuard .eql T x y (.agg (k9.map (Value.int .i64)).toArray) (.agg (bs.map (Value.int .i64)).toArray)).run P w=.ok () w /\
  (eqGuard .neq T x y (.agg (k9.map (Value.int .i64)).toArray) (.agg (bs.map (Value.int .i64)).toArray)).run P w=.ok () w /\
  (binOp .eql T (.agg (k9.map (Value.int .i64)).toArray) (.agg (bs.map (Value.int .i64)).toArray)).run P w=.ok (.bool (decide (k9=bs))) w /\
  (binOp .neq T (.agg (k9.map (Value.int .i64)).toArray) (.agg (bs.map (Value.int .i64)).toArray)).run P w=.ok (.bool (!decide (k9=bs))) w:=by
 unfold eqT at h;split at h
 .rename_i fs qi;split at h
  .rename_i hc;simp only[bd,c9,g8] at hc;obtain⟨⟨⟨h1,h2⟩,h3⟩,h4⟩:=hc;simp only[ad] at h;subst h;have Aa:P.fieldsOf T=fs:=by simp[Program.fieldsOf,qi]
   have BC:P.underlying T=some (.struct (P.fieldsOf T)):=by rw[Aa,qi]
   have ik:∀f∈fs.toList,f.name ≠ "_" /\ ∃k,P.underlying f.type=some (.int k):=by
    intro f hf;have:=aq.1 h1 f hf
    simp only[bd,bne_iff_ne,ne_eq] at this;refine⟨this.1,?_⟩;have h6:=this.2;split at h6
    .rename_i k hk;exact⟨k,hk⟩
    .cases h6
   have key:∀d,(Op.equalIn (d+2) T (.agg (k9.map (Value.int .i64)).toArray) (.agg (bs.map (Value.int .i64)).toArray)).run P w=.ok (decide (k9=bs)) w:=by
    intro d;rw[run_equalIn_struct w (d+1) T _ _ BC h3,Aa,jV d w fs.toList 0 k9 bs ik (by rw[h2];simp[List.range_eq_range']) (by simpa using ha) (by simpa using hb)];simp
   refine⟨run_eqGuard_agg w .eql T x y _ _ h4,run_eqGuard_agg w .neq T x y _ _ h4,?_,?_⟩
   .rw[run_eql_struct,key 9998];rfl
   .rw[run_neq_struct,key 9998];rfl
  .cases h
 .cases h
theorem aM{n:Int}(h0 : -9223372036854775808<=n)(h1:n<=9223372036854775807):IntKind.i64.wrap n=n:=by
 exact IntWalk.i64_in n ⟨h0,h1⟩
end Go.AM
