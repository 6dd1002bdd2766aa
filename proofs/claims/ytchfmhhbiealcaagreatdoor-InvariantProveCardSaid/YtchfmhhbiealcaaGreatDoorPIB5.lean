import Derived.Test.YtchfmhhbiealcaaGreatDoorPIB4
set_option linter.unusedSimpArgs false
set_option linter.unusedVariables false
namespace Go.AM
open Go
variable {P:Program}
def fR(P:Program)(T:TypeId)(x:AV)(box:Bxs):Option AV:=match aX P T,aT P T,x with
 | some ag,some n,.cptr cs off=>aGp ag n cs off
 | some ag,some n,.ptr k i off=>match box k with
  | some rows=>match rows[i]? with
   | some r=>rB ag n r off
   | none=>none
  | none=>none
 | _,_,_=>none
theorem aIG{o:Oper}{T:TypeId}{p:Operand}{ρ:Operand->AV}{box:Bxs}{v:AV}(ho:o.op=.load T p)(h:fR P T (ρ p) box=some v):qK P o ρ box v:=by
 unfold fR at h;unfold qK;simp only[ho];cases h1:aX P T with
 | none=>rw[h1] at h;simp at h
 | some ag =>
  cases h2:aT P T with
  | none=>rw[h1,h2] at h;simp at h
  | some n =>
   rw[h1,h2] at h;simp only;cases hx:ρ p with
   | cptr cs off=>rw[hx] at h;exact h
   | ptr k i off =>
    rw[hx] at h;simp only at h ⊢;cases h4:box k with
    | none=>rw[h4] at h;simp at h
    | some rows =>
     rw[h4] at h;simp only at h ⊢;cases h5:rows[i]? with
     | none=>rw[h5] at h;simp at h
     | some r=>rw[h5] at h;exact h
   | _=>rw[hx] at h;simp at h
def fW(P:Program)(base:Nat)(o:Oper)(ρ:Operand->AV)(box:Bxs):Option (Prop × AV × (Bxs)):=match o.op with
 | .store T p x=>match aT P T,(ρ x).cells?,ρ p with
  | some n,some cs,.ptr k i off=>match box k with
   | some rows=>match rows[i]? with
    | some r=>some (cs.length=n/\off+n<=r.length,.bot,upd box k (some (rows.set i (setCells r off cs))))
    | none=>none
   | none=>none
  | _,_,_=>none
 | .box _ x=>match o.dst,(ρ x).cells? with
  | some s,some cs=>match box (base+s) with
   | none=>some (True,.ptr (base+s) 0 0,upd box (base+s) (some [cs]))
   | some _=>none
  | _,_=>none
 | .makeSlice T l c=>match cB P T,o.dst,ρ l,ρ c with
  | some (sz,by',zs),some s,.d (.raw (.int _ n)),.d (.raw (.int _ n'))=>match box (base+s) with
   | none=>some (n'=n/\0<=n/\n.toNat*by'<=281474976710656,.msl (base+s) 0 n.toNat sz,upd box (base+s) (some (List.replicate n.toNat (zs.map cF))))
   | some _=>none
  | _,_,_,_=>none
 | .call c=>match c.callee,c.args.toList.map ρ,c.argTypes.toList with
  | .builtin .copy,[.msl k off n sz,y],[T,_]=>match aF P T with
   | some E=>match aT P E,box k,rH y box with
    | some 1,some rows,some (φ,src)=>some (φ/\sz=1/\off+n<=rows.length,.d (.raw (.int .i64 ((min src.length n:Nat):Int))),upd box k (some (rows.take off++src.take (min src.length n)++rows.drop (off+min src.length n))))
    | _,_,_=>none
   | none=>none
  | .builtin .clear,[.msl k off n sz],[T]=>match cB P T,box k with
   | some (sz',_,zs),some rows=>some (sz'=sz/\off+n<=rows.length,.tup [],upd box k (some (rows.take off++List.replicate n (zs.map cF)++rows.drop (off+n))))
   | _,_=>none
  | _,_,_=>none
 | _=>none
theorem nZ{base:Nat}{o:Oper}{ρ:Operand->AV}{box box':Bxs}{v:AV}{φ:Prop}(h:fW P base o ρ box=some (φ,v,box'))(hφ:φ):nA P base o ρ box v box':=by
 unfold fW at h;unfold nA;split at h
 .rename_i T p x ho;split at h
  .rename_i n cs k i off h1 h2 h3;split at h
   .rename_i rows h4;split at h
    .rename_i r h5;simp only[ad,aw] at h;obtain⟨rfl,rfl,rfl⟩:=h;simp only[ho,h1,h2,h3,h4,h5];exact⟨hφ.1,hφ.2,by first|rfl|trivial,by first|rfl|trivial⟩
    .cases h
   .cases h
  .cases h
 .rename_i T x ho;split at h
  .rename_i s cs h1 h2;split at h
   .rename_i h3;simp only[ad,aw] at h;obtain⟨rfl,rfl,rfl⟩:=h;simp only[ho,h1,h2];exact⟨h3,by first|rfl|trivial,by first|rfl|trivial⟩
   .cases h
  .cases h
 .rename_i T l c ho;split at h
  .rename_i sz by' zs s k1 n k2 n' h1 h2 h4 h5
   split at h
   .rename_i h3;simp only[ad,aw] at h;obtain⟨rfl,rfl,rfl⟩:=h;simp only[ho,h1,h2,h4,h5];exact⟨hφ.1,hφ.2.1,hφ.2.2,h3,by first|rfl|trivial,by first|rfl|trivial⟩
   .cases h
  .cases h
 .rename_i c ho;split at h
  .rename_i k off n sz y T T' h1 h2 h3;split at h
   .rename_i E hE;split at h
    .rename_i rows ψ src g1 g2 g3;simp only[ad,aw] at h;obtain⟨rfl,rfl,rfl⟩:=h;simp only[ho,h1,h2,h3,hE,fh,g1,g2,g3];exact⟨hφ.1,hφ.2.1,hφ.2.2,by first|rfl|trivial,by first|rfl|trivial⟩
    .cases h
   .cases h
  .rename_i k off n sz T h1 h2 h3;split at h
   .rename_i sz' by' zs rows g1 g2
    simp only[ad,aw] at h;obtain⟨rfl,rfl,rfl⟩:=h;simp only[ho,h1,h2,h3,g1,g2];exact⟨hφ.1,hφ.2,by first|rfl|trivial,by first|rfl|trivial⟩
   .cases h
  .cases h
 .cases h
def Own.liveP(tok:Tks):Own->Prop
 | .full=>True
 | .tok t=>tok t=true
theorem Own.live_of{tok:Nat->Bool}{o:Own}(h:o.liveP tok):o.live tok=true:=by
 cases o with
 | full=>rfl
 | tok t=>exact h
def fA(P:Program)(c:Call)(ρ:Operand->AV)(tok:Tks)(nt:Nat):Option (Prop × AV × (Nat->Bool)):=match c.args.toList,c.argTypes.toList with
 | [s,x],[T,T']=>match aW P T,ρ s,(ρ x).elems? with
  | some (_,sz,by'),.osl sz0 es own,some (sz1,news) =>
   some (T'=T/\(sz0=sz∨es=[]/\own=.full)/\(sz1=sz∨news=[])/\(es.length+news.length)*by'<=140737488355328/\own.liveP tok,.osl sz (es++news) (.tok nt),upd (own.kill tok) nt true)
  | _,_,_=>aLs P T T' (ρ s) (ρ x) tok nt
 | _,_=>none
theorem aIr{o:Oper}{c:Call}{ρ:Operand->AV}{tok tok':Nat->Bool}{nt:Nat}{v:AV}{φ:Prop}(ho:o.op=.call c)(hc:c.callee=.builtin .append)(h:fA P c ρ tok nt=some (φ,v,tok'))(hφ:φ):aE0 P o ρ tok nt v tok' (nt+1):=by
 unfold fA at h;unfold aE0;split at h
 .rename_i s x T T' h1 h2;split at h
  .rename_i E sz by' sz0 es own sz1 news h3 h4 h5
   simp only[ad,aw] at h;obtain⟨rfl,rfl,rfl⟩:=h;refine .inl ?_;unfold aC8;simp only[ho,hc,h1,h2,h3,h4,h5];obtain⟨g1,g2,g3,g4,g5⟩:=hφ;exact⟨g1,g2,g3,g4,Own.live_of g5,by first|rfl|trivial,by first|rfl|trivial,by first|rfl|trivial⟩
  .refine .inr (.inl ?_);unfold aIA;simp only[ho,hc,h1,h2];exact⟨φ,h,hφ,by first|rfl|trivial⟩
 .cases h
def aN(P:Program)(cx:Cx)(dr:Bool)(fid:FuncId)(args:List AV)(S:AS)(dst:Option Tmp)(K:AS->Prop):Prop:=match dr with
 | true=>∃v tok' nt',cW P fid args S.box S.tok S.nt v tok' nt'/\K ⟨bX S.tmps dst v,S.box,tok',nt'⟩
 | false=>aD P fid args ⟨S.box,cx.nb,S.tok,S.nt⟩ fun v m'=>K ⟨bX S.tmps dst v,m'.box,m'.tok,m'.nt⟩
theorem aN.of_r{cx:Cx}{dr:Bool}{fid:FuncId}{args:List AV}{S:AS}{dst:Option Tmp}{K:AS->Prop}{v:AV}{tok':Nat->Bool}{nt':Nat}(h:cW P fid args S.box S.tok S.nt v tok' nt')(hk:K ⟨bX S.tmps dst v,S.box,tok',nt'⟩):aN P cx dr fid args S dst K:=by
 cases dr with
 | true=>exact⟨v,tok',nt',h,hk⟩
 | false =>
  refine(h S.box cx.nb (Ext.refl _)).mono ?_;rintro v' m' ⟨rfl,rfl⟩;exact hk
theorem sD{cx:Cx}{dr:Bool}{fid:FuncId}{args:List AV}{S:AS}{dst:Option Tmp}{K:AS->Prop}{v:AV}{tok':Nat->Bool}{nt':Nat}(h:cZ P fid args S.tok S.nt v tok' nt')(hk:K ⟨bX S.tmps dst v,S.box,tok',nt'⟩):aN P cx dr fid args S dst K :=
 aN.of_r (h.r _) hk
def zR(P:Program)(cx:Cx)(dr:Bool)(o:Oper)(K:AS->Prop)(S:AS):Prop:=match o.op with
 | .load T p=>match fR P T (S.ev p) S.box with
  | some v=>K ⟨bX S.tmps o.dst v,S.box,S.tok,S.nt⟩
  | none=>False
 | .store T p x=>match fW P cx.base o S.ev S.box with
  | some (φ,v,b)=>φ/\K ⟨bX S.tmps o.dst v,b,S.tok,S.nt⟩
  | none=>False
 | .box T x=>match fW P cx.base o S.ev S.box with
  | some (φ,v,b)=>φ/\K ⟨bX S.tmps o.dst v,b,S.tok,S.nt⟩
  | none=>False
 | .makeSlice T l c=>match fW P cx.base o S.ev S.box with
  | some (φ,v,b)=>φ/\K ⟨bX S.tmps o.dst v,b,S.tok,S.nt⟩
  | none=>False
 | .binOp op T x y T'=>match sQ P o S.ev with
  | some (t,es)=>match dr with
   | true=>False
   | false=>∀b,(es≠[]->b=!t)->K ⟨bX S.tmps o.dst (.d (.raw (.bool b))),S.box,S.tok,S.nt⟩
  | none=>match fN P cx.base o S.ev with
   | some (φ,v)=>φ/\K ⟨bX S.tmps o.dst v,S.box,S.tok,S.nt⟩
   | none=>False
 | .call c=>match c.callee with
  | .builtin .append=>match fA P c S.ev S.tok S.nt with
   | some (φ,v,tok')=>φ/\K ⟨bX S.tmps o.dst v,S.box,tok',S.nt+1⟩
   | none=>False
  | .builtin .copy=>match fW P cx.base o S.ev S.box with
   | some (φ,v,b)=>φ/\K ⟨bX S.tmps o.dst v,b,S.tok,S.nt⟩
   | none=>False
  | .builtin .clear=>match fW P cx.base o S.ev S.box with
   | some (φ,v,b)=>φ/\K ⟨bX S.tmps o.dst v,b,S.tok,S.nt⟩
   | none=>False
  | .value f=>match S.ev f with
   | .fn (.func fid) caps=>aN P cx dr fid (c.args.toList.map S.ev++caps) S o.dst K
   | _=>False
  | _=>match fN P cx.base o S.ev with
   | some (φ,v)=>φ/\K ⟨bX S.tmps o.dst v,S.box,S.tok,S.nt⟩
   | none=>False
 | .makeMap _ _=>match fM P o S.ev S.tok S.nt with
  | some (φ,v,tok',nt')=>φ/\K ⟨bX S.tmps o.dst v,S.box,tok',nt'⟩
  | none=>False
 | .lookup _ _ _ _=>match fM P o S.ev S.tok S.nt with
  | some (φ,v,tok',nt')=>φ/\K ⟨bX S.tmps o.dst v,S.box,tok',nt'⟩
  | none=>False
 | _=>match fN P cx.base o S.ev with
  | some (φ,v)=>φ/\K ⟨bX S.tmps o.dst v,S.box,S.tok,S.nt⟩
  | none=>False
def Gd(b want:Bool)(A B:AS->Prop)(S:AS):Prop:=(b=want->A S)/\(b=!want->B S)
theorem Gd.tt{A B:AS->Prop}{S:AS}:Gd true true A B S=A S:=by simp[Gd]
theorem Gd.tf{A B:AS->Prop}{S:AS}:Gd true false A B S=B S:=by simp[Gd]
theorem Gd.ft{A B:AS->Prop}{S:AS}:Gd false true A B S=B S:=by simp[Gd]
theorem Gd.ff{A B:AS->Prop}{S:AS}:Gd false false A B S=A S:=by simp[Gd]
theorem Gd.t{b:Bool}{A B:AS->Prop}{S:AS}(h1:b=true->A S)(h2:b=false->B S):Gd b true A B S:=⟨h1,h2⟩
theorem Gd.f{b:Bool}{A B:AS->Prop}{S:AS}(h1:b=true->B S)(h2:b=false->A S):Gd b false A B S:=⟨h2,h1⟩
theorem Gd.dt{p:Prop}{_:Decidable p}{A B:AS->Prop}{S:AS}(h1:p->A S)(h2:¬p->B S):Gd (decide p) true A B S:=⟨fun h=>h1 (by simpa using h),fun h=>h2 (by simpa using h)⟩
theorem Gd.df{p:Prop}{_:Decidable p}{A B:AS->Prop}{S:AS}(h1:p->B S)(h2:¬p->A S):Gd (decide p) false A B S:=⟨fun h=>h2 (by simpa using h),fun h=>h1 (by simpa using h)⟩
def qU(dst:Option Tmp)(K:AS->Prop)(S:AS):Prop:=K ⟨bX S.tmps dst (.tup []),S.box,S.tok,S.nt⟩
def kU(P:Program)(cx:Cx)(ops:Array Oper)(dr:Bool):List Oper->(AS->Prop)->AS->Prop
 | [],K,S=>K S
 | o::r,K,S=>match o.guard with
  | none=>zR P cx dr o (kU P cx ops dr r K) S
  | some (j,want)=>match dS ops S j with
   | some (some b)=>Gd b want (zR P cx dr o (kU P cx ops dr r K)) (qU o.dst (kU P cx ops dr r K)) S
   | some none=>qU o.dst (kU P cx ops dr r K) S
   | none=>False
theorem aNs{base:Nat}{o:Oper}{S:AS}{v:AV}(hc:cls o.op=.n)(h:aBf P base o S.ev v):zQ P false base o S ⟨bX S.tmps o.dst v,S.box,S.tok,S.nt⟩ :=
 ⟨v,S.box,S.tok,S.nt,by unfold Eff;rw[hc];exact⟨h,rfl,rfl,rfl⟩,rfl⟩
theorem wJ{cx:Cx}{dr:Bool}{o:Oper}{S:AS}{K:AS->Prop}(h:zR P cx dr o K S):(cP o S.ev=none/\∃S1,zQ P false cx.base o S S1/\K S1) ∨
  (dr=false/\cP o S.ev=none/\∃t es,sQ P o S.ev=some (t,es)/\∀b,(es≠[]->b=!t)->K ⟨bX S.tmps o.dst (.d (.raw (.bool b))),S.box,S.tok,S.nt⟩) ∨
  ∃fid args,cP o S.ev=some (fid,args)/\aN P cx dr fid args S o.dst K:=by
 have viaN:∀(hc:cls o.op=.n) (nv:cP o S.ev=none),(match fN P cx.base o S.ev with
   | some (φ,v)=>φ/\K ⟨bX S.tmps o.dst v,S.box,S.tok,S.nt⟩
   | none=>False)->(cP o S.ev=none/\∃S1,zQ P false cx.base o S S1/\K S1):=by
  intro hc nv h;split at h
  .rename_i φ v hv;exact⟨nv,_,aNs hc (aJB hv h.1),h.2⟩
  .exact h.elim
 unfold zR at h;split at h
 .rename_i T p ho;split at h
  .rename_i v hv;exact .inl ⟨by simp[cP,ho],_,⟨v,S.box,S.tok,S.nt,by unfold Eff;rw[show cls o.op=.r from by rw[ho];rfl];exact⟨aIG ho hv,rfl,rfl,rfl⟩,rfl⟩,h⟩
  .exact h.elim
 .rename_i T p x ho;split at h
  .rename_i φ v b hv;exact .inl ⟨by simp[cP,ho],_,⟨v,b,S.tok,S.nt,by unfold Eff;rw[show cls o.op=.w from by rw[ho];rfl];exact⟨nZ hv h.1,rfl,rfl⟩,rfl⟩,h.2⟩
  .exact h.elim
 .rename_i T x ho;split at h
  .rename_i φ v b hv;exact .inl ⟨by simp[cP,ho],_,⟨v,b,S.tok,S.nt,by unfold Eff;rw[show cls o.op=.w from by rw[ho];rfl];exact⟨nZ hv h.1,rfl,rfl⟩,rfl⟩,h.2⟩
  .exact h.elim
 .rename_i T l c ho;split at h
  .rename_i φ v b hv;exact .inl ⟨by simp[cP,ho],_,⟨v,b,S.tok,S.nt,by unfold Eff;rw[show cls o.op=.w from by rw[ho];rfl];exact⟨nZ hv h.1,rfl,rfl⟩,rfl⟩,h.2⟩
  .exact h.elim
 .rename_i op T x y T' ho;split at h
  .rename_i t es hn;cases dr with
   | true=>exact h.elim
   | false=>exact .inr (.inl ⟨rfl,by simp only[cP,ho],t,es,hn,h⟩)
  .exact .inl (viaN (by rw[ho];rfl) (by simp only[cP,ho]) h)
 .rename_i c ho;split at h
  .rename_i i5;split at h
   .rename_i φ v tok' hv;exact .inl ⟨by simp[cP,ho,i5],_,⟨v,S.box,tok',S.nt+1,by
     unfold Eff;have:cls o.op=.t:=by
      rw[ho];obtain⟨cal,args,tys⟩:=c;simp only at i5;subst i5;rfl
     rw[this];exact .inl ⟨.inl (aIr ho i5 hv h.1),rfl⟩,rfl⟩,h.2⟩
   .exact h.elim
  .rename_i i5;split at h
   .rename_i φ v b hv;exact .inl ⟨by simp[cP,ho,i5],_,⟨v,b,S.tok,S.nt,by
     unfold Eff;have:cls o.op=.w:=by
      rw[ho];obtain⟨cal,args,tys⟩:=c;simp only at i5;subst i5;rfl
     rw[this];exact⟨nZ hv h.1,rfl,rfl⟩,rfl⟩,h.2⟩
   .exact h.elim
  .rename_i i5;split at h
   .rename_i φ v b hv;exact .inl ⟨by simp[cP,ho,i5],_,⟨v,b,S.tok,S.nt,by
     unfold Eff;have:cls o.op=.w:=by
      rw[ho];obtain⟨cal,args,tys⟩:=c;simp only at i5;subst i5;rfl
     rw[this];exact⟨nZ hv h.1,rfl,rfl⟩,rfl⟩,h.2⟩
   .exact h.elim
  .rename_i f i5;split at h
   .rename_i fid caps hf;exact .inr (.inr ⟨fid,_,by simp[cP,ho,i5,hf],h⟩)
   .exact h.elim
  .rename_i h1 h3 h4 h2;refine .inl (viaN ?_ ?_ h)
   .rw[ho];obtain⟨cal,args,tys⟩:=c;simp only at h1 h2 h3 h4;cases cal with
    | value f=>exact absurd rfl (h2 f)
    | invoke r m=>rfl
    | builtin b=>cases b<;>first|rfl|exact absurd rfl h1|exact absurd rfl h3|exact absurd rfl h4
   .simp only[cP,ho]
 .rename_i T r ho;split at h
  .rename_i φ v tok' nt' hv;exact .inl ⟨by simp[cP,ho],_,⟨v,S.box,tok',nt',by unfold Eff;rw[show cls o.op=.t from by rw[ho];rfl];exact .inl ⟨.inl (.inr (.inr ⟨φ,hv,h.1⟩)),rfl⟩,rfl⟩,h.2⟩
  .exact h.elim
 .rename_i T m k b ho;split at h
  .rename_i φ v tok' nt' hv;exact .inl ⟨by simp[cP,ho],_,⟨v,S.box,tok',nt',by unfold Eff;rw[show cls o.op=.t from by rw[ho];rfl];exact .inl ⟨.inl (.inr (.inr ⟨φ,hv,h.1⟩)),rfl⟩,rfl⟩,h.2⟩
  .exact h.elim
 .rename_i h1 h2 h3 h5 h6 h4 h7 h8;refine .inl (viaN ?_ ?_ h)
  .cases jo:o.op<;>first|rfl|exact absurd jo (h1 _ _)|exact absurd jo (h2 _ _ _)|exact absurd jo (h3 _ _)|exact absurd jo (h5 _ _ _)|exact absurd jo (h4 _)|exact absurd jo (h7 _ _)|exact absurd jo (h8 _ _ _ _)
  .simp only[cP]
theorem fF{cx:Cx}{ops:Array Oper}{K:AS->Prop}:∀(l:List Oper) (S:AS),kU P cx ops false l K S->mI P cx ops l S K
 | [],S,h=>h
 | o::r,S,h=>by
  have one:zR P cx false o (kU P cx ops false r K) S->Op1 P cx o S fun S1=>mI P cx ops r S1 K:=by
   intro h1;unfold Op1;rcases wJ h1 with ⟨hc,S1,hs,hk⟩|⟨_,hc,t,es,hn,hk⟩|⟨fid,args,hc,hk⟩
   .rw[hc];exact .inl ⟨S1,hs,fF r S1 hk⟩
   .rw[hc];exact .inr ⟨t,es,hn,fun b hb=>fF r _ (hk b hb)⟩
   .rw[hc];exact aD.mono hk fun v m' jv=>fF r _ jv
  unfold kU at h;unfold mI;split at h
  .rename_i hg;rw[hg];exact one h
  .rename_i j want hg;rw[hg];simp only;split at h
   .rename_i b hy;rw[hy];exact⟨fun e=>one (h.1 (by simpa using e)),fun e=>fF r _ (h.2 (by cases b<;>cases want<;>simp_all))⟩
   .rename_i hy;rw[hy];exact⟨fun e=>(by cases e),fun e=>fF r _ h⟩
   .exact h.elim
theorem kW{cx:Cx}{ops:Array Oper}{K:AS->Prop}:∀(l:List Oper) (S:AS),kU P cx ops true l K S->∃S',aEk P false cx.base ops l S S'/\K S'
 | [],S,h=>⟨S,rfl,h⟩
 | o::r,S,h=>by
  have one:zR P cx true o (kU P cx ops true r K) S->∃S1 S',zQ P false cx.base o S S1/\aEk P false cx.base ops r S1 S'/\K S':=by
   intro h1;rcases wJ h1 with ⟨hc,S1,hs,hk⟩|⟨Cb,_⟩|⟨fid,args,hc,hk⟩
   .obtain⟨S',h2,h3⟩:=kW r S1 hk;exact⟨S1,S',hs,h2,h3⟩
   .cases Cb
   .obtain⟨v,tok',nt',hd,jv⟩:=hk;obtain⟨S',h2,h3⟩:=kW r _ jv;refine⟨_,S',⟨v,S.box,tok',nt',?_,rfl⟩,h2,h3⟩;unfold cP at hc;split at hc
    .rename_i c ho;split at hc
     .rename_i f i5;split at hc
      .rename_i fid' caps hf;simp only[ad,aw] at hc;obtain⟨rfl,rfl⟩:=hc;unfold Eff;have:cls o.op=.t:=by
        rw[ho];obtain⟨cal,args,tys⟩:=c;simp only at i5;subst i5;rfl
       rw[this];refine .inl ⟨.inr ?_,rfl⟩;unfold sV;simp only[ho,i5,hf];exact hd
      .cases hc
     .cases hc
    .cases hc
  unfold kU at h;unfold aEk;split at h
  .rename_i hg;obtain⟨S1,S',h1,h2,h3⟩:=one h;exact⟨S',⟨S1,by unfold cG;rw[hg];exact h1,h2⟩,h3⟩
  .rename_i j want hg;split at h
   .rename_i b hy;by_cases e:b=want
    .obtain⟨S1,S',h1,h2,h3⟩:=one (h.1 e);exact⟨S',⟨S1,by unfold cG;rw[hg];simp only[hy,e,↓reduceIte];exact h1,h2⟩,h3⟩
    .obtain⟨S',h2,h3⟩:=kW r _ (h.2 (by cases b<;>cases want<;>simp_all));exact⟨S',⟨_,by unfold cG;rw[hg];simp only[hy,ad,e,↓reduceIte],h2⟩,h3⟩
   .rename_i hy;obtain⟨S',h2,h3⟩:=kW r _ h;exact⟨S',⟨_,by unfold cG;rw[hg];simp only[hy,reduceCtorEq,↓reduceIte],h2⟩,h3⟩
   .exact h.elim
def aDc(P:Program)(base:Nat):List Oper->(Bxs)->Option (Bxs)
 | [],b=>some b
 | o::r,b=>match o.op,o.dst with
  | .alloc T,some s=>match aH P T,b (base+s) with
   | some zs,none=>aDc P base r (upd b (base+s) (some [uU (base+s) T zs]))
   | _,_=>none
  | _,_=>aDc P base r b
theorem pP{base:Nat}{K:(Bxs)->Prop}:∀(l:List Oper) (b b':Bxs),aDc P base l b=some b'->K b'->aEy P base l b K
 | [],b,b',h,hk=>by simp only[aDc,ad] at h;subst h;exact hk
 | o::l,b,b',h,hk=>by
  unfold aDc at h;unfold aEy;split at h
  .rename_i T s h1 h2;split at h
   .rename_i zs h3 h4;simp only[h1,h2,h3];exact⟨h4,pP l _ b' h hk⟩
   .cases h
  .rename_i ju;split
   .rename_i T s h1 h2;exact absurd h2 (fun e=>ju T s h1 e)
   .exact pP l b b' h hk
def aE1(P:Program)(cx:Cx)(ops:Array Oper)(draw:Bool)(K:AS->Prop)(S:AS):Prop:=match aDc P cx.base ops.toList S.box with
 | some b=>kU P cx ops draw ops.toList K ⟨S.tmps,b,S.tok,S.nt⟩
 | none=>False
theorem pV{cx:Cx}{ops:Array Oper}{draw:Bool}{S:AS}{K:AS->Prop}(h:aE1 P cx ops draw K S):oJ P cx ops draw S K:=by
 unfold aE1 at h;unfold oJ;split at h
 .rename_i b hb;refine pP _ _ b hb ?_;cases draw with
  | true=>exact kW _ _ h
  | false=>exact fF _ _ h
 .exact h.elim
inductive CI where
 | c (x:Code)
 | blk (id:Nat)
mutual
def AL(P:Program)(cx:Cx)(nt0:Nat)(K:Exit->AS->Prop):List CI->AS->Prop
 | [],S=>K .normal S
 | .c x::r,S=>AT P cx nt0 x S fun e S'=>match e with
  | .normal=>AL P cx nt0 K r S'
  | e=>AU P cx nt0 K r e S'
 | .blk _::r,S=>AL P cx nt0 K r S
def AU(P:Program)(cx:Cx)(nt0:Nat)(K:Exit->AS->Prop):List CI->Exit->AS->Prop
 | [],e,S=>K e S
 | .c _::r,e,S=>AU P cx nt0 K r e S
 | .blk id::r,e,S=>match e with
  | .exit j=>if j=id then AL P cx nt0 K r S else AU P cx nt0 K r (.exit j) S
  | e=>AU P cx nt0 K r e S
end
theorem AU.normal{cx:Cx}{nt0:Nat}{K:Exit->AS->Prop}:∀(r:List CI) (S:AS),AU P cx nt0 K r .ret S->K .ret S
 | [],S,h=>by simpa only[AU] using h
 | .c x::r,S,h=>AU.normal r S (by simpa only[AU] using h)
 | .blk id::r,S,h=>AU.normal r S (by simpa only[AU] using h)
theorem AU.of_ret{cx:Cx}{nt0:Nat}{K:Exit->AS->Prop}:∀(r:List CI) (S:AS),K .ret S->AU P cx nt0 K r .ret S
 | [],S,h=>by simpa only[AU] using h
 | .c x::r,S,h=>by simp only[AU];exact AU.of_ret r S h
 | .blk id::r,S,h=>by simp only[AU];exact AU.of_ret r S h
section rules
variable {cx:Cx} {nt0:Nat} {K:Exit->AS->Prop} {r:List CI} {S:AS}
theorem AL.start{c:Code}(h:AL P cx nt0 K [.c c] S):AT P cx nt0 c S K:=by
 simp only[AL] at h;refine AT.mono h fun e S' h'=>?_
 cases e<;>simp only[AU] at h'<;>exact h'
theorem AL.nil(h:K .normal S):AL P cx nt0 K [] S:=by simpa only[AL] using h
theorem AL.blk{id:Nat}(h:AL P cx nt0 K r S):AL P cx nt0 K (.blk id::r) S:=by simpa only[AL] using h
theorem AL.seq{a b:Code}(h:AL P cx nt0 K (.c a::.c b::r) S):AL P cx nt0 K (.c (.seq a b)::r) S:=by
 simp only[AL] at h ⊢;intro G0 w0 he hn G act w hr hl;refine wp_seq (wp_mono (h G0 w0 he hn G act w hr hl) ?_);rintro e a' w' ⟨S',G',h1,h2,h3⟩;cases e with
 | normal =>
  refine wp_mono (h1 G0 w0 he hn G' a' w' h2 h3) ?_;rintro e a'' w'' ⟨S'',G'',k1,k2,k3⟩;exact⟨S'',G'',k1,k2,k3⟩
 | _=>exact⟨S',G',by simpa only[AU] using h1,h2,h3⟩
theorem AL.block{id:Nat}{c:Code}(h:AL P cx nt0 K (.c c::.blk id::r) S):AL P cx nt0 K (.c (.block id c)::r) S:=by
 simp only[AL] at h ⊢;intro G0 w0 he hn G act w hr hl;refine wp_block (wp_mono (h G0 w0 he hn G act w hr hl) ?_);rintro e a' w' ⟨S',G',h1,h2,h3⟩;cases e with
 | exit j =>
  simp only[Exit.inBlock];simp only[AU] at h1;split
  .rename_i e;rw[af e] at h1;exact⟨S',G',h1,h2,h3⟩
  .rename_i e;rw[ac e] at h1;exact⟨S',G',h1,h2,h3⟩
 | _=>exact⟨S',G',by simpa only[AU,AL] using h1,h2,h3⟩
theorem AL.skip(h:AL P cx nt0 K r S):AL P cx nt0 K (.c .skip::r) S:=by
 simp only[AL];intro G0 w0 he hn G a w hr hl;exact wp_skip ⟨S,G,h,hr,hl⟩
theorem AL.exit{id:Nat}(h:AU P cx nt0 K r (.exit id) S):AL P cx nt0 K (.c (.exit id)::r) S:=by
 simp only[AL];intro G0 w0 he hn G a w hr hl;exact wp_exit ⟨S,G,h,hr,hl⟩
theorem AL.ret(h:K .ret S):AL P cx nt0 K (.c .ret::r) S:=by
 simp only[AL];intro G0 w0 he hn G a w hr hl;exact wp_ret ⟨S,G,AU.of_ret r S h,hr,hl⟩
theorem AU.c{x:Code}{e:Exit}(h:AU P cx nt0 K r e S):AU P cx nt0 K (.c x::r) e S:=by simpa only[AU] using h
theorem AL.region{id:Nat}{ops:Array Oper}{draw:Bool}(hf:P.follows .mixedOrders=true)(j8:cx.base+cx.n<=cx.nb)(ia:iP cx.n ops draw=true)(h:aE1 P cx ops draw (AL P cx nt0 K r) S):AL P cx nt0 K (.c (.region id ops draw)::r) S:=by
 simp only[AL];exact AT.region hf j8 ia (pV h)
theorem AL.region2{id:Nat}{ops:Array Oper}(hf:P.follows .mixedOrders=true)(j8:cx.base+cx.n<=cx.nb)(ia:(eZ ops&&nQ cx.n ops&&aBw ops)=true)(hs:mH ops S)(h:aE1 P cx ops true (fun S'=>Far S' (oA ops.toList)/\AL P cx nt0 K r S') S):AL P cx nt0 K (.c (.region id ops true)::r) S:=by
 simp only[AL];exact AT.region2 hf j8 ia hs (pV h)
def aGo(P:Program)(cx:Cx)(nt0:Nat)(K:Exit->AS->Prop)(r:List CI)(a b:Code)(S:AS)(x:AV):Prop:=match x with
 | .d (.raw (.bool t))=>(t=true->AL P cx nt0 K (.c a::r) S)/\(t=false->AL P cx nt0 K (.c b::r) S)
 | _=>False
theorem AL.cond{x:Operand}{a b:Code}(h:aGo P cx nt0 K r a b S (S.ev x)):AL P cx nt0 K (.c (.cond x a b)::r) S:=by
 unfold aGo at h;split at h
 .rename_i t hc;simp only[AL] at h ⊢;intro G0 w0 he hn G act w hr hl;have h1:=hr.ev x;rw[hc] at h1;have h2:act.eval x=.bool t:=dC rfl h1
  exact wp_cond_split h2 (fun ht=>h.1 ht G0 w0 he hn G act w hr hl) (fun ht=>h.2 ht G0 w0 he hn G act w hr hl)
 .exact h.elim
theorem AL.weak{S':AS}{x:Code}(hw:aS cx nt0 S S')(h:AL P cx nt0 K (.c x::r) S'):AL P cx nt0 K (.c x::r) S:=by
 simp only[AL] at h ⊢;exact AT.weaks hw h
theorem AL.loop{c:Code}(I:Nat->AS->Prop)(h0:∃n S0,aS cx nt0 S S0/\I n S0)(jl:∀n S,I n S->AL P cx nt0 (fun e S'=>match e with
   | .normal=>∃m S'',m<n/\aS cx nt0 S' S''/\I m S''
   | e=>AU P cx nt0 K r e S') [.c c] S):AL P cx nt0 K (.c (.loop c)::r) S:=by
 simp only[AL];refine AT.loop I h0 fun n S hI=>?_
 refine(AL.start (jl n S hI)).mono fun e S' h=>?_
 cases e<;>exact h
end rules
end Go.AM
