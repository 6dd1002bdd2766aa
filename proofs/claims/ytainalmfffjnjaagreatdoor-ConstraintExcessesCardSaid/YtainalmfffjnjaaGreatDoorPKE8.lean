/-
 Parts of the proof, as merged from many texts: a machine over data, what the functions compute, plain laws.
-/
import Derived.Test.YtainalmfffjnjaaGreatDoorPKE7
import Derived.Shelf.Spec.SlicesGrow
set_option linter.unusedSimpArgs false
set_option linter.unusedVariables false
namespace Go.AM
open Go Go.Proofs
def imgK (n:Nat) (by' m:List Int):Nat→List Int
 | 0=>List.replicate n (-1)
 | i+1=>(imgK n by' m i).set (by'.getD i 0).toNat (m.getD i 0)
theorem imgK_len (n:Nat) (by' m:List Int):∀ i,(imgK n by' m i).length=n
 | 0=>by simp [imgK]
 | i+1=>by simp [imgK,imgK_len n by' m i]
def stIm (n:Nat) (by' m:List Int) (nb:Nat) (box:Bxs) (tok:Tks) (nt:Nat) (i:Nat):AState :=
 ⟨tl [(13,.d (ints by')),(14,I by'.length),(15,I i),(7,.msl (nb+7) 0 n 1),(2,.d (ints m))],lb nb box [(7,rowsI (imgK n by' m i))],tok,nt⟩
theorem rI_len (xs:List Int):(rI xs).length=xs.length:=by simp
theorem Trans.thawI {cx:Cx} {nt0 nt:Nat} {l l':List (Nat × AV)} {out:Bxs} {loc loc':List (Nat × List (List AV))} {tok:Nat→Bool} (t s:Nat) (xs:List Int) (r:Nat)
  (hn:cx.nb=cx.base+cx.n) (hs:s<cx.n) (hk:lk loc s=none) (ht:tok t=true) (hr:tl l r=.ex t 1 (rI xs))
  (hl:ThL t (cx.base+s) 1 (rI xs) l l') (hb:ThB t (cx.base+s) 1 (rI xs) loc loc') :
  Trans cx nt0 ⟨tl l,lb cx.base out loc,tok,nt⟩ ⟨tl l',lb cx.base out ((s,rowsI xs)::loc'),upd tok t false,nt⟩:=by
 rw [rowsI_eq];exact Trans.thaw t s 1 (rI xs) r hn hs hk ht hr hl hb
theorem thTo_exI {t k n:Nat} {xs:List Int} (h:n=xs.length):ThTo t k 1 (rI xs) (.ex t 1 (rI xs)) (.msl k 0 n 1):=by
 have:n=(rI xs).length:=by rw [rI_len]; exact h
 rw [this]; exact .ex
def wantX (p:Gr) (N:List Int) (i:Nat):E:=⟨(p.edges.getD i default).ty,N.getD (p.edges.getD i default).fr.toNat 0,N.getD (p.edges.getD i default).to.toNat 0⟩
section
end
theorem indexI_in {l:List Int} {x:Int} (h:x∈l):0≤indexI l x∧indexI l x<l.length∧l.getD (indexI l x).toNat 0=x:=by
 rcases indexI_spec l x with ⟨_,hn⟩|⟨k,h2,h3,h4⟩
 ·exact absurd h hn
 ·rw [h2]; exact ⟨by omega,by omega,h4⟩
theorem indexI_gd {l:List Int} (hl:l.Nodup) {i:Nat} (h:i<l.length):indexI l (l.getD i 0)=i:=by
 obtain ⟨h1,h2,h3⟩:=indexI_in (getD_mem (d:=0) h);have:=getD_inj hl (show (indexI l (l.getD i 0)).toNat<l.length by omega) h h3
 omega
variable {P:Program}
theorem EffV.val {o:Oper} {ρ:Operand→AV} {box box':Bxs} {tok tok':Nat→Bool} {nt nt':Nat} {v:AV} (h:EffV P o ρ box tok nt v box' tok' nt'):isVal o.op=true:=by
 unfold EffV at h;split at h
 ·rename_i c ho;split at h
  ·rename_i f hf;rw [ho];obtain ⟨cal,args,tys⟩:=c;simp only at hf;subst hf;rfl
  ·exact h.elim
 ·exact h.elim
theorem EffV.spec {o:Oper} {ρ:Operand→AV} {box box':Bxs} {tok tok':Nat→Bool} {nt nt':Nat} {v:AV} (h:EffV P o ρ box tok nt v box' tok' nt') :
  ∃ x k i off rows,callPtr o.op=some x∧ρ x=.ptr k i off∧box'=upd box k (some rows):=by
 unfold EffV at h;split at h
 ·split at h
  ·split at h
   ·obtain ⟨x,k,i,off,rows,g1,g2,g3,g4,g5⟩:=h;exact ⟨x,k,i,off,rows,g1,g2,g4⟩
   ·exact h.elim
  ·exact h.elim
 ·exact h.elim
theorem Eff.up {wr:Bool} {base:Nat} {o:Oper} {ρ:Operand→AV} {box box':Bxs} {tok tok':Nat→Bool} {nt nt':Nat} {v:AV} (h:Eff P false base o ρ box tok nt v box' tok' nt'):Eff P wr base o ρ box tok nt v box' tok' nt':=by
 unfold Eff at h ⊢;cases hc:cls o.op <;> simp only [hc] at h ⊢ <;> first|exact h|exact .inl (t_false h)
theorem Eff.down {wr:Bool} {base:Nat} {o:Oper} {ρ:Operand→AV} {box box':Bxs} {tok tok':Nat→Bool} {nt nt':Nat} {v:AV} (hv:isVal o.op=false) (h:Eff P wr base o ρ box tok nt v box' tok' nt'):Eff P false base o ρ box tok nt v box' tok' nt':=by
 unfold Eff at h ⊢;cases hc:cls o.op <;> simp only [hc] at h ⊢ <;> first|exact h|skip
 rcases h with h|⟨_,h⟩
 ·exact .inl h
 ·rw [h.val] at hv; cases hv
theorem Step.up {wr:Bool} {base:Nat} {o:Oper} {S S':AState} (h:Step P false base o S S'):Step P wr base o S S':=by
 obtain ⟨v,b,t,n,h1,h2⟩:=h;exact ⟨v,b,t,n,h1.up,h2⟩
def ptrOp3 (o:Op):Option Operand:=match ptrOp o with
 | some p=>some p
 | none=>callPtr o
def calm (x y:Oper):Bool:=match isVal x.op,isVal y.op with
 | true,true=>false
 | true,false=>decide (cls y.op=.n)||decide (cls y.op=.r)
 | false,true=>decide (cls x.op=.n)||decide (cls x.op=.r)
 | false,false=>!clash x y||isPtr x.op&&isPtr y.op
theorem load_ptr {o:Oper} (h:cls o.op=.r):∃ p,ptrOp o.op=some p:=by
 cases hop:o.op <;> rw [hop] at h <;> simp only [cls,reduceCtorEq] at h
 ·exact ⟨_,rfl⟩
 ·split at h <;> first|(rename_i e; cases e; done)|(cases h; done)|simp_all
theorem val_cls {o:Op} (h:isVal o=true):cls o=.t∧ptrOp o=none:=by
 unfold isVal at h;split at h
 ·exact ⟨rfl,rfl⟩
 ·cases h
theorem calm_swap {base:Nat} {x y:Oper} {ρ:Operand→AV} {b0 b1 b2:Bxs} {t0 t1 t2:Nat→Bool} {n0 n1 n2:Nat} {vx vy:AV} (hc:calm x y=true)
  (hk:∀ p q,ptrOp3 x.op=some p→ptrOp3 y.op=some q→(cls x.op≠.r∨cls y.op≠.r)→∀ k i off k' i' off',ρ p=.ptr k i off→ρ q=.ptr k' i' off'→k≠k')
  (hx:Eff P true base x ρ b0 t0 n0 vx b1 t1 n1) (hy:Eff P true base y ρ b1 t1 n1 vy b2 t2 n2):∃ c t n,Eff P true base y ρ b0 t0 n0 vy c t n∧Eff P true base x ρ c t n vx b2 t2 n2:=by
 unfold calm at hc;cases vx':isVal x.op <;> cases vy':isVal y.op <;> simp only [vx',vy'] at hc
 ·have dx:=hx.down vx';have dy:=hy.down vy';cases hcl:clash x y with
  | false =>
   obtain ⟨c,t,n,h1,h2⟩:=eff_swap hcl dx dy;exact ⟨c,t,n,h1.up,h2.up⟩
  | true =>
   rw [hcl] at hc;simp only [Bool.not_true,Bool.false_or,Bool.and_eq_true] at hc;obtain ⟨p,hp⟩:=Option.isSome_iff_exists.1 hc.1;obtain ⟨q,hq⟩:=Option.isSome_iff_exists.1 hc.2;have hp3:ptrOp3 x.op=some p:=by unfold ptrOp3; rw [hp]
   have hq3:ptrOp3 y.op=some q:=by unfold ptrOp3; rw [hq]
   have hr:cls x.op≠.r∨cls y.op≠.r:=by
    by_cases e1:cls x.op=.r
    ·by_cases e2:cls y.op=.r
     ·simp [clash,e1,e2] at hcl
     ·exact .inr e2
    ·exact .inl e1
   obtain ⟨c,t,n,h1,h2⟩:=eff_far hp hq (hk p q hp3 hq3 hr) dx dy;exact ⟨c,t,n,h1.up,h2.up⟩
 ·-- the call comes second
  obtain ⟨cy,py⟩:=val_cls vy';unfold Eff at hx hy ⊢;simp only [Bool.or_eq_true,decide_eq_true_eq] at hc;rcases hc with hc|hc <;> simp only [hc,cy] at hx hy ⊢
  ·obtain ⟨e,rfl,rfl,rfl⟩:=hx;exact ⟨_,_,_,hy,e,rfl,rfl,rfl⟩
  ·obtain ⟨e,rfl,rfl,rfl⟩:=hx;obtain ⟨p,hp⟩:=load_ptr hc;refine ⟨_,_,_,hy,?_,rfl,rfl,rfl⟩;rcases hy with ⟨_,rfl⟩|⟨_,hv⟩
   ·exact e
   ·obtain ⟨z,k,i,off,rows,g1,g2,rfl⟩:=hv.spec;refine effR_ptr hp hc e fun k1 i1 off1 h1=>?_
    exact hk p z (by unfold ptrOp3; rw [hp]) (by unfold ptrOp3; rw [py]; exact g1) (.inr (by rw [cy]; decide)) _ _ _ _ _ _ h1 g2
 ·-- the call comes first
  obtain ⟨cx,px⟩:=val_cls vx';unfold Eff at hx hy ⊢;simp only [Bool.or_eq_true,decide_eq_true_eq] at hc;rcases hc with hc|hc <;> simp only [hc,cx] at hx hy ⊢
  ·obtain ⟨e,rfl,rfl,rfl⟩:=hy;exact ⟨_,_,_,⟨e,rfl,rfl,rfl⟩,hx⟩
  ·obtain ⟨e,rfl,rfl,rfl⟩:=hy;obtain ⟨q,hq⟩:=load_ptr hc;refine ⟨_,_,_,⟨?_,rfl,rfl,rfl⟩,hx⟩;rcases hx with ⟨_,rfl⟩|⟨_,hv⟩
   ·exact e
   ·obtain ⟨z,k,i,off,rows,g1,g2,rfl⟩:=hv.spec;refine effR_back hq hc (fun k1 i1 off1 h1=>?_) e;exact Ne.symm (hk z q (by unfold ptrOp3; rw [px]; exact g1) (by unfold ptrOp3; rw [hq]) (.inl (by rw [cx]; decide)) _ _ _ _ _ _ g2 h1)
 ·cases hc
def regOk3 (ops:Array Oper):Bool :=
 let an:=ancs ops.toList []
 dstUniq ops&&(List.range ops.size).all fun i=>(match ops[i]? with|some o=>(direct o).all fun j=>decide (j<i)|none=>true) &&
  (List.range i).all fun j=>(an.getD i 0).testBit j||(match ops[j]?,ops[i]? with
   | some x,some y=>Oper.apart ops x y&&calm x y
   | _,_=>false)
def unPairs (ops:Array Oper):List (Operand × Operand) :=
 let an:=ancs ops.toList []
 (List.range ops.size).flatMap fun i=>(List.range i).filterMap fun j=>if (an.getD i 0).testBit j then none else match ops[j]?,ops[i]? with
  | some x,some y=>match ptrOp3 x.op,ptrOp3 y.op with
   | some p,some q=>if cls x.op=.r∧cls y.op=.r then none else some (p,q)
   | _,_=>none
  | _,_=>none
def FarP (S:AState):List (Operand × Operand)→Prop
 | []=>True
 | (p,q)::r=>NK (S.ev p) (S.ev q)∧FarP S r
theorem FarP.at {S:AState} {p q:Operand}:∀ {L:List (Operand × Operand)},FarP S L→(p,q)∈L→NK (S.ev p) (S.ev q)
 | (a,b)::r,h,hm=>by
  rcases List.mem_cons.1 hm with e|hm
  ·cases e; exact h.1
  ·exact FarP.at h.2 hm
theorem unPairs_mem {ops:Array Oper} {i j:Nat} {x y:Oper} {p q:Operand} (hx:ops[j]?=some x) (hy:ops[i]?=some y) (hij:j<i) (hb:((ancs ops.toList []).getD i 0).testBit j=false) (hp:ptrOp3 x.op=some p) (hq:ptrOp3 y.op=some q) (hr:cls x.op≠.r∨cls y.op≠.r):(p,q)∈unPairs ops:=by
 have his:i<ops.size:=(Array.getElem?_eq_some_iff.1 hy).1
 unfold unPairs;simp only [List.mem_flatMap,List.mem_range,List.mem_filterMap];refine ⟨i,his,j,hij,?_⟩;have hnr:¬ (cls x.op=.r∧cls y.op=.r):=fun h=>by rcases hr with hr|hr; exact hr h.1; exact hr h.2
 rw [hb,hx,hy];simp [hp,hq,hnr]
theorem any_sound3 {n nb base:Nat} {ops:Array Oper} {Q:Exit→Act→World→Prop} {Sf:AState} {G0:Gh} {w0:World} {b0:Bxs} (hreg:regOk3 ops=true) (hal:allocOk ops=true) (hdst:dstOk n ops=true) (hnb:base+n≤nb)
  (hfar:FarP Sf (unPairs ops))
  (hQ:∀ a' w' G',RelS n nb G' Sf a' w'→LeK base G0 w0 b0 G' w' Sf.box→Q .normal a' w') (fuel:Nat) (listed:Array Bool) (rem:List Nat) (S:AState) (a:Act) (w:World) (G:Gh) (hrem:rem=List.range ops.size) (hside:Side ops S)
  (h1:listed.size=ops.size) (h2:rem=(List.range ops.size).filter (fun i=>!listed.getD i true)) (h3:rem.length=fuel) (h4:∀ i o,ops[i]?=some o→listed.getD i false=true→∀ j∈direct o,listed.getD j false=true)
  (h5:IRun P true base ops rem S Sf) (h6:RelS n nb G S a w) (h7:∀ i∈rem,∀ o,ops[i]?=some o→Pend P base o G S.box) (h8:LeK base G0 w0 b0 G w S.box):wpAny P .any ops Q fuel listed a w:=by
 unfold regOk3 at hreg;simp only [Bool.and_eq_true] at hreg;obtain ⟨hu,hreg⟩:=hreg;have key:∀ (i:Nat) (o:Oper),ops[i]?=some o→(∀ j∈direct o,j<i)∧∀ j x,ops[j]?=some x→j<i→((ancs ops.toList []).getD i 0).testBit j=true∨x.apart ops o=true∧calm x o=true:=by
  intro i o ho;have his:i<ops.size:=(Array.getElem?_eq_some_iff.1 ho).1
  have hall:=List.all_eq_true.1 hreg i (by simpa using his);rw [ho] at hall;simp only [Bool.and_eq_true] at hall;refine ⟨fun j hj=>by simpa using List.all_eq_true.1 hall.1 j hj,fun j x hx hj=>?_⟩;have h2:=List.all_eq_true.1 hall.2 j (by simpa using hj);rw [hx] at h2;simpa only [Bool.or_eq_true,Bool.and_eq_true] using h2
 have start:Ivs Sf S:=by
  intro t;by_cases hd:∃ o∈ops.toList,o.dst=some t
  ·obtain ⟨o,ho,hd⟩:=hd;exact .inr (hside o ho t hd)
  ·refine .inl (irun_keeps (fun j _ x hx hxd=>hd ⟨x,by simpa using Array.mem_of_getElem? hx,hxd⟩) h5).symm
 refine any_sound' (wr:=true) (fun i o ho=>(key i o ho).1) (Iv:=Ivs Sf) (fun i o S' S'' rest ho hni hst hrun hiv=>ivs_step hu i o S' S'' rest ho hni hst hrun hiv) ?_ hal hdst hnb hQ fuel listed rem S a w G h1 h2 h3 h4 start h5 h6 h7 h8;intro i j o x ho hx hj hb S' S1 S2 hiv g1 g2;rcases (key i o ho).2 j x hx hj with h|⟨h,h'⟩
 ·rw [hb] at h; cases h
 ·refine gstep_swap' h (fun {c0 c1 c2 s0 s1 s2 m0 m1 m2 vx vy} e1 e2=>?_) g1 g2;have back:∀ (z:Operand) k i off,S'.ev z=.ptr k i off→Sf.ev z=.ptr k i off:=by
   intro z k i off hz;cases z with
   | tmp t =>
    rcases hiv t with e|e
    ·exact e.symm.trans hz
    ·have hz':S'.tmps t=.ptr k i off:=hz
     rw [hz'] at e;exact e.elim
   | const c=>exact hz
   | global c=>exact hz
   | func c=>exact hz
  refine calm_swap h' (fun p q hp hq hr k i1 off k' i2 off' hk hk'=>?_) e1 e2;have hnk:=hfar.at (unPairs_mem hx ho hj hb hp hq hr);rw [back p _ _ _ hk,back q _ _ _ hk'] at hnk;exact hnk
def StopW (P:Program) (o:Oper) (fid:FuncId) (args:List AV) (S:AState) (K:AState→Prop):Prop :=
 (∃ v tok' nt',RCall P fid args S.box S.tok S.nt v tok' nt'∧K ⟨putT S.tmps o.dst v,S.box,tok',nt'⟩) ∨
 ∃ x k i off rows v tok' nt',callPtr o.op=some x∧S.ev x=.ptr k i off∧S.box k≠none∧WCall P fid args k S.box S.tok S.nt v rows tok' nt'∧K ⟨putT S.tmps o.dst v,upd S.box k (some rows),tok',nt'⟩
def FOneW (P:Program) (cx:Cx) (o:Oper) (K:AState→Prop) (S:AState):Prop:=match callFn o S.ev with
 | some (fid,args)=>StopW P o fid args S K
 | none=>FOne P cx true o K S
def FOpsW (P:Program) (cx:Cx) (ops:Array Oper):List Oper→(AState→Prop)→AState→Prop
 | [],K,S=>K S
 | o::r,K,S=>match o.guard with
  | none=>FOneW P cx o (FOpsW P cx ops r K) S
  | some (j,want)=>match yieldA ops S j with
   | some (some b)=>Gd b want (FOneW P cx o (FOpsW P cx ops r K)) (FSkip o.dst (FOpsW P cx ops r K)) S
   | some none=>FSkip o.dst (FOpsW P cx ops r K) S
   | none=>False
theorem fOpsW_true {cx:Cx} {ops:Array Oper} {K:AState→Prop}:∀ (l:List Oper) (S:AState),FOpsW P cx ops l K S→∃ S',ARun P true cx.base ops l S S'∧K S'
 | [],S,h=>⟨S,rfl,h⟩
 | o::r,S,h=>by
  have one:FOneW P cx o (FOpsW P cx ops r K) S→∃ S1 S',Step P true cx.base o S S1∧ARun P true cx.base ops r S1 S'∧K S':=by
   intro h1;unfold FOneW at h1;split at h1
   ·rename_i fid args hc;unfold callFn at hc;split at hc
    ·rename_i c ho;split at hc
     ·rename_i f hcal;split at hc
      ·rename_i fid' caps hf;simp only [Option.some.injEq,Prod.mk.injEq] at hc;obtain ⟨rfl,rfl⟩:=hc;have hcl:cls o.op=.t:=by
        rw [ho];obtain ⟨cal,args,tys⟩:=c;simp only at hcal;subst hcal;rfl
       rcases h1 with ⟨v,tok',nt',hd,hk'⟩|⟨x,k,i,off,rows,v,tok',nt',g1,g2,g3,hw,hk'⟩
       ·obtain ⟨S',h2,h3⟩:=fOpsW_true r _ hk';refine ⟨_,S',⟨v,S.box,tok',nt',?_,rfl⟩,h2,h3⟩;unfold Eff;rw [hcl];refine .inl ⟨.inr ?_,rfl⟩;unfold EffC;simp only [ho,hcal,hf];exact hd
       ·obtain ⟨S',h2,h3⟩:=fOpsW_true r _ hk';refine ⟨_,S',⟨v,upd S.box k (some rows),tok',nt',?_,rfl⟩,h2,h3⟩;unfold Eff;rw [hcl];refine .inr ⟨rfl,?_⟩;unfold EffV;rw [ho] at g1 ⊢;simp only [hcal,hf];exact ⟨x,k,i,off,rows,g1,g2,g3,rfl,hw⟩
      ·cases hc
     ·cases hc
    ·cases hc
   ·rename_i hc;rcases fOne_cases h1 with ⟨_,S1,hs,hk⟩|⟨hdr,_⟩|⟨fid,args,hc',hk⟩
    ·obtain ⟨S',h2,h3⟩:=fOpsW_true r S1 hk;exact ⟨S1,S',hs.up,h2,h3⟩
    ·cases hdr
    ·rw [hc] at hc'; cases hc'
  unfold FOpsW at h;unfold ARun;split at h
  ·rename_i hg;obtain ⟨S1,S',h1,h2,h3⟩:=one h;exact ⟨S',⟨S1,by unfold GStep; rw [hg]; exact h1,h2⟩,h3⟩
  ·rename_i j want hg;split at h
   ·rename_i b hy;by_cases e:b=want
    ·obtain ⟨S1,S',h1,h2,h3⟩:=one (h.1 e);exact ⟨S',⟨S1,by unfold GStep; rw [hg]; simp only [hy,e, ↓reduceIte]; exact h1,h2⟩,h3⟩
    ·obtain ⟨S',h2,h3⟩:=fOpsW_true r _ (h.2 (by cases b <;> cases want <;> simp_all));exact ⟨S',⟨_,by unfold GStep; rw [hg]; simp only [hy,Option.some.injEq,e, ↓reduceIte],h2⟩,h3⟩
   ·rename_i hy;obtain ⟨S',h2,h3⟩:=fOpsW_true r _ h;exact ⟨S',⟨_,by unfold GStep; rw [hg]; simp only [hy,reduceCtorEq, ↓reduceIte],h2⟩,h3⟩
   ·exact h.elim
def FRegW (P:Program) (cx:Cx) (ops:Array Oper) (K:AState→Prop) (S:AState):Prop:=match preF P cx.base ops.toList S.box with
 | some b=>FOpsW P cx ops ops.toList K ⟨S.tmps,b,S.tok,S.nt⟩
 | none=>False
theorem AL.region3 {cx:Cx} {nt0:Nat} {K:Exit→AState→Prop} {r:List CI} {S:AState} {id:Nat} {ops:Array Oper} (hf:P.follows .mixedOrders=true) (hnb:cx.base+cx.n≤cx.nb) (hok:(allocOk ops&&dstOk cx.n ops&&regOk3 ops)=true) (hside:Side ops S) (L:List (Operand × Operand)) (hL:unPairs ops=L)
  (h:FRegW P cx ops (fun S'=>FarP S' L∧AL P cx nt0 K r S') S):AL P cx nt0 K (.c (.region id ops true)::r) S:=by
 simp only [AL];simp only [Bool.and_eq_true] at hok;obtain ⟨⟨hal,hdst⟩,hreg⟩:=hok;intro G0 w0 he hn G a w hr hl;have hd:=dstOk_spec hdst;have hpre:PreB P cx.base ops.toList S.box fun b=>∃ S',ARun P true cx.base ops ops.toList { S with box:=b } S'∧FarP S' L∧AL P cx nt0 K r S':=by
  unfold FRegW at h;split at h
  ·rename_i b hb;exact preF_sound _ _ b hb (fOpsW_true _ _ h)
  ·exact h.elim
 obtain ⟨b,hb,hr1,hp,hkeep⟩:=preB_sound hnb ops.toList S.box (S:=S) hr (fun o ho d hod=>hd o d (by simpa using ho) hod) (allocOk_nodup hal) hpre;have hl1:LeC cx G0 w0 G w { S with box:=b }:=⟨hl.1,fun k hk hg=>by
  rw [←hl.2 k hk hg];refine hkeep k fun hm=>?_
  obtain ⟨o,ho,he⟩:=List.mem_filterMap.1 hm;split at he
  ·rename_i T s h1 h2;simp only [Option.some.injEq] at he;subst he;exact absurd hk (by simp)
  ·cases he⟩
 obtain ⟨S',hrun,hfar,hK⟩:=hb;refine wp_region_any hf ?_;have hrd:RelS cx.n cx.nb G { S with box:=b } a w.drew:=hr1.drew
 have hld:LeC cx G0 w0 G w.drew { S with box:=b }:=hl1.step ⟨Le.drew,fun k _ hg=>⟨hg,rfl⟩⟩
 refine any_sound3 (n:=cx.n) (nb:=cx.nb) (base:=cx.base) (Sf:=S') (G0:=G) (w0:=w.drew) (b0:=b) hreg hal hdst hnb (by rw [hL]; exact hfar) (fun a' w' G' h1 h2=>⟨S',G',hK,h1,hld.step h2⟩) ops.size (Array.replicate ops.size false) (List.range ops.size) { S with box:=b } a w.drew G rfl hside (by simp) ?_ (by simp) ?_ (IRun.of_all hrun) hrd ?_ (LeK.refl _ _ _ _)
 ·rw [List.filter_eq_self.2];intro i hi;simp at hi;simp [Array.getD,hi]
 ·intro i o ho hlst;have hi:=(Array.getElem?_eq_some_iff.1 ho).1;simp [Array.getD,hi] at hlst
 ·intro i _ o ho;exact hp o (by simpa using Array.mem_of_getElem? ho)
attribute [simp] FRegW FOneW callFn FarP
@[simp] theorem FOpsW_nil {cx:Cx} {ops:Array Oper} {K:AState→Prop} {t:Nat→AV} {b:Bxs} {k:Nat→Bool} {n:Nat}:FOpsW P cx ops [] K ⟨t,b,k,n⟩=K ⟨t,b,k,n⟩:=by simp only [FOpsW]
@[simp] theorem FOpsW_cons {cx:Cx} {ops:Array Oper} {o:Oper} {r:List Oper} {K:AState→Prop} {t:Nat→AV} {b:Bxs} {k:Nat→Bool} {n:Nat}:FOpsW P cx ops (o::r) K ⟨t,b,k,n⟩=match o.guard with
  | none=>FOneW P cx o (FOpsW P cx ops r K) ⟨t,b,k,n⟩
  | some (j,want)=>match yieldA ops ⟨t,b,k,n⟩ j with
   | some (some g)=>Gd g want (FOneW P cx o (FOpsW P cx ops r K)) (FSkip o.dst (FOpsW P cx ops r K)) ⟨t,b,k,n⟩
   | some none=>FSkip o.dst (FOpsW P cx ops r K) ⟨t,b,k,n⟩
   | none=>False:=by
 simp only [FOpsW]
abbrev nilS:AV:=.osl 0 [] .full
def lst {β:Type} (ok:Nat→Nat→Bool) (m:Nat) (fin:List Int→List β):Nat→List Int→List β
 | 0,L=>fin L
 | r+1,L=>(List.range m).flatMap fun (k:Nat)=>if (!decide ((k:Int)∈L)&&ok L.length k)=true then lst ok m fin r (L++[(k:Int)]) else []
def atB (by' of:List Int) (i k:Nat):Bool:=decide (indexI by' i<0)||decide (of.getD (indexI by' i).toNat 0=k)
def okXE (p g:Gr) (x m:Mo) (N:List Int) (i k:Nat):Bool:=decide (g.edges.getD k default=wantX p N i)&&atB x.edges m.edges i k
def okXN (p g:Gr) (x m:Mo) (i k:Nat):Bool:=decide (g.nodes.getD k 0=p.nodes.getD i 0)&&atB x.nodes m.nodes i k
def exE (p g:Gr) (x m:Mo) (N:List Int) (r:Nat) (L:List Int):List Mo:=lst (okXE p g x m N) g.edges.length (fun E=>[⟨N,E⟩]) r L
def exN (p g:Gr) (x m:Mo) (r:Nat) (L:List Int):List Mo:=lst (okXN p g x m) g.nodes.length (fun N=>exE p g x m N p.edges.length []) r L
def exts (p g:Gr) (x m:Mo):List Mo:=exN p g x m p.nodes.length []
@[simp] theorem lb_base (base:Nat) (out:Bxs) (loc:List (Nat × List (List AV))):lb base out loc base=lk loc 0:=lb_at base 0 out loc
@[simp] theorem upd_lb_base (base:Nat) (out:Bxs) (loc:List (Nat × List (List AV))) (rows:List (List AV)):upd (lb base out loc) base (some rows)=lb base out ((0,rows)::loc):=upd_lb base 0 out loc rows
@[simp] theorem to_ptr_base {q:Nat→Prop} {fz:Option (Nat × Nat × List (List D))} {base i off:Nat} {out:Bxs} {loc:List (Nat × List (List AV))}:To (fun k=>lb base out loc k≠none) q fz (.ptr base i off) (.ptr base i off)↔lk loc 0≠none:=to_ptr_lb (s:=0)
abbrev bytes (l:List Int):D:=.sl 1 (l.map fun n=>[u8 n])
def U8s (l:List Int):Prop:=∀ c∈l,0≤c∧c<256
theorem wrapU8 {n:Int} (h0:0≤n) (h1:n<256):IntKind.u8.wrap n=n:=IntWalk.u8_in n ⟨h0,by omega⟩
structure At where
 name:ByteArray
 lo:Int
 hi:Int
 names:List ByteArray
structure NT where
 name:ByteArray
 par:Int
 abs:Bool
 own:List At
structure ET where
 name:ByteArray
 fr:Int
 to:Int
 ol:Int
 oh:Int
 il:Int
 ih:Int
structure Ty where
 nodes:List NT
 edges:List ET
abbrev At.cells (a:At):List D:=[.raw (.string a.name),.raw (.int .i64 a.lo),.raw (.int .i64 a.hi),strs a.names]
abbrev atts (l:List At):D:=.sl 4 (l.map At.cells)
abbrev NT.cells (n:NT):List D:=[.raw (.string n.name),.raw (.int .i64 n.par),.raw (.bool n.abs),atts n.own]
abbrev ET.cells (e:ET):List D:=[.raw (.string e.name),.raw (.int .i64 e.fr),.raw (.int .i64 e.to),.raw (.int .i64 e.ol),.raw (.int .i64 e.oh),.raw (.int .i64 e.il),.raw (.int .i64 e.ih)]
abbrev nts (l:List NT):D:=.sl 4 (l.map NT.cells)
abbrev ets (l:List ET):D:=.sl 7 (l.map ET.cells)
abbrev Ty.av (t:Ty):AV:=.agg [.d (nts t.nodes),.d (ets t.edges)]
instance:Inhabited ByteArray:=⟨⟨#[]⟩⟩
abbrev eB:ByteArray:=⟨#[]⟩
def nmsAt (l:List ByteArray) (i:Nat):Int:=if nameB (l.getD i eB)=false then 2 else if memS (l.take i) (l.getD i eB)=true then 5 else 0
def nmsE (l:List ByteArray):Int:=if 20<l.length then 3 else firstE (nmsAt l) l.length
structure NmFit (l:List ByteArray):Prop where
 n:l.length≤1000000
 s:∀ x∈l,x.size≤1000000000000
theorem strs_take (l:List ByteArray) (i:Nat):strs (l.take i)=.sl 1 (List.take i (l.map fun s=>[D.raw (.string s)])):=by rw [strs,List.map_take]
theorem memS_more {l:List ByteArray} {i:Nat} {v:ByteArray} (hi:i<l.length) (h:memS (l.take i) v=false) (hne:v≠l[i]):memS (l.take (i+1)) v=false:=by
 rw [←Bool.not_eq_true,memS_iff] at h ⊢;rw [List.take_succ_eq_append_getElem hi,List.mem_append,List.mem_singleton];exact fun h2=>h2.elim h hne
theorem memS_hit {l:List ByteArray} {k i:Nat} (hk:k<l.length) (hki:k<i):memS (l.take i) l[k]=true:=memS_iff.2 (by rw [List.mem_take_iff_getElem]; exact ⟨k,by omega,rfl⟩)
def stNm4 (l:List ByteArray) (nb:Nat) (box:Bxs) (tok:Tks) (nt:Nat) (i:Nat):AState:=⟨tl [(3,I i),(0,.d (strs l))],lb nb box [],tok,nt⟩
def stNm5 (l:List ByteArray) (i:Nat) (nb:Nat) (box:Bxs) (tok:Tks) (nt:Nat) (k:Nat):AState:=⟨tl [(4,I k),(3,I i),(0,.d (strs l))],lb nb box [],tok,nt⟩
def stNm (l:List ByteArray) (nb:Nat) (box:Bxs) (tok:Tks) (nt:Nat) (i:Nat):AState:=⟨tl [(10,I i),(9,I l.length),(8,.d (strs l)),(0,.d (strs l))],lb nb box [],tok,nt⟩
theorem names_c (l:List ByteArray) (hl:NmFit l) (tok:Tks) (nt:Nat):DCall Tryz.prog 262 [.d (strs l)] tok nt (I (nmsE l)) tok nt:=by
 intro box nb;have hln:=hl.n;by_cases h20:20<l.length
 ·have h20':(20:Int)<l.length:=by omega
  rw [show nmsE l=3 from if_pos h20];refine sI Tryz.func262 Tryz.ntmps262 fun hbox htok=>?_
  repeat (first|simp [h20']|refine sR ?_)
  refine sC ?_;repeat (first|simp|refine sR ?_)
  refine sT (sH hbox htok ?_);simp [packA]
 ·have h20':¬ (20:Int)<l.length:=by omega
  have hE:nmsE l=firstE (nmsAt l) l.length:=if_neg h20
  refine sI Tryz.func262 Tryz.ntmps262 fun hbox htok=>?_
  repeat (first|simp [h20']|refine sR ?_)
  refine sC ?_;repeat (first|simp|refine sR ?_)
  refine sN ?_;refine AL.loopT (stNm l nb box tok nt) (fun i=>i≤l.length∧firstE (nmsAt l) i=0) (fun i=>l.length - i) 0 ⟨Nat.zero_le _,rfl⟩ (Weaks.mk (Nat.le_refl _) rfl (by simp [ToL,lk]) trivial) ?_;rintro i S' ⟨hi,hok⟩ hS;simp only [stNm] at hS;subst hS;have hw:=sW (i:=i) (by omega);have hR:i<l.length→nmsAt l i≠0→firstE (nmsAt l) l.length=nmsAt l i:=fun hlt h0=>firstE_stop hok h0 l.length hlt
  repeat (first|simp|refine sR ?_|refine sC ?_)
  refine ⟨fun hlt=>?_,fun hge=>?_⟩
  ·have hg:l.getD i eB=l[i]:=by simp [hlt]
   have hA:nmsAt l i=if nameB l[i]=false then 2 else if memS (l.take i) l[i]=true then 5 else 0:=by rw [nmsAt,hg]
   have hn:=isName_c l[i] (Nat.le_trans (hl.s _ (List.getElem_mem hlt)) (by decide));have hc:=containsS_c (l.take i) l[i] (by simp; omega);have hR:=hR hlt;repeat (first|simp [hlt,strs_at hlt]|refine sR ?_)
   refine Stop.of_d (hn _ _) ?_;simp;cases e1:nameB l[i]
   ·rw [e1,if_pos rfl] at hA;rw [hA] at hR;have hR:=hR (by decide);repeat (first|simp|refine sR ?_)
    refine sC ?_;repeat (first|simp|refine sR ?_)
    refine sT (sH hbox htok ?_);simp [packA,hE,hR]
   ·rw [e1,if_neg (by simp)] at hA;repeat (first|simp|refine sR ?_)
    refine sC ?_;repeat (first|simp|refine sR ?_)
    refine ⟨by omega,?_⟩;rw [strs_take] at hc;refine Stop.of_d (hc _ _) ?_;simp;cases e2:memS (l.take i) l[i]
    ·rw [e2,if_neg (by simp)] at hA;repeat (first|simp [hw]|refine sR ?_|refine sC ?_)
     refine sE ?_;exact ⟨i+1,⟨hlt,by simp only [firstE,hok,hA, ↓reduceIte]⟩,by omega,Weaks.mk (Nat.le_refl _) rfl (by simp [ToL,lk]) trivial⟩
    ·rw [e2,if_pos rfl] at hA;rw [hA] at hR;have hR:=hR (by decide);repeat (first|simp|refine sR ?_)
     refine sC ?_;repeat (first|simp|refine sR ?_)
     refine sT (sH hbox htok ?_);simp [packA,hE,hR]
  ·refine sX ?_;simp only [AU, ↓reduceIte];repeat (first|simp|refine sR ?_)
   have:i=l.length:=by omega
   subst this;refine sT (sH hbox htok ?_);simp [packA,hE,hok]
theorem names04_c (l:List ByteArray) (hl:NmFit l) (tok:Tks) (nt:Nat):DCall Tryz.prog 264 [.d (strs l)] tok nt (I (nmsE l)) tok nt:=by
 intro box nb;have hln:=hl.n;by_cases h20:20<l.length
 ·have h20':(20:Int)<l.length:=by omega
  rw [show nmsE l=3 from if_pos h20];refine sI Tryz.func264 Tryz.ntmps264 fun hbox htok=>?_
  repeat (first|simp [h20']|refine sR ?_)
  refine sC ?_;repeat (first|simp|refine sR ?_)
  refine sT (sH hbox htok ?_);simp [packA]
 ·have h20':¬ (20:Int)<l.length:=by omega
  have hE:nmsE l=firstE (nmsAt l) l.length:=if_neg h20
  refine sI Tryz.func264 Tryz.ntmps264 fun hbox htok=>?_
  repeat (first|simp [h20']|refine sR ?_)
  refine sC ?_;repeat (first|simp|refine sR ?_)
  refine sN ?_;refine AL.loopT (stNm4 l nb box tok nt) (fun i=>i≤l.length∧firstE (nmsAt l) i=0) (fun i=>l.length - i) 0 ⟨Nat.zero_le _,rfl⟩ (Weaks.mk (Nat.le_refl _) rfl (by simp [ToL,lk]) trivial) ?_;rintro i S' ⟨hi,hok⟩ hS;simp only [stNm4] at hS;subst hS;have hw:=sW (i:=i) (by omega);have hR:i<l.length→nmsAt l i≠0→firstE (nmsAt l) l.length=nmsAt l i:=fun hlt h0=>firstE_stop hok h0 l.length hlt
  repeat (first|simp|refine sR ?_|refine sC ?_)
  refine ⟨fun hlt=>?_,fun hge=>?_⟩
  ·have hg:l.getD i eB=l[i]:=by simp [hlt]
   have hA:nmsAt l i=if nameB l[i]=false then 2 else if memS (l.take i) l[i]=true then 5 else 0:=by rw [nmsAt,hg]
   have hn:=isName01_c l[i] (Nat.le_trans (hl.s _ (List.getElem_mem hlt)) (by decide));have hR:=hR hlt;repeat (first|simp [hlt,strs_at hlt]|refine sR ?_)
   refine Stop.of_d (hn _ _) ?_;simp;cases e1:nameB l[i]
   ·rw [e1,if_pos rfl] at hA;rw [hA] at hR;have hR:=hR (by decide);repeat (first|simp|refine sR ?_)
    refine sC ?_;repeat (first|simp|refine sR ?_)
    refine sT (sH hbox htok ?_);simp [packA,hE,hR]
   ·rw [e1,if_neg (by simp)] at hA;repeat (first|simp|refine sR ?_)
    refine sC ?_;repeat (first|simp|refine sR ?_)
    refine sN ?_;refine AL.loopT (stNm5 l i nb box tok nt) (fun k=>k≤i∧memS (l.take k) l[i]=false) (fun k=>i - k) 0 ⟨Nat.zero_le _,rfl⟩ (Weaks.mk (Nat.le_refl _) rfl (by simp [ToL,lk]) trivial) ?_;rintro k S' ⟨hk,hm⟩ hS;simp only [stNm5] at hS;subst hS;have hwk:=sW (i:=k) (by omega);repeat (first|simp|refine sR ?_|refine sC ?_)
    refine ⟨fun hlk=>?_,fun hge=>?_⟩
    ·have hkl:k<l.length:=by omega
     by_cases e2:l[k]=l[i]
     ·have b2:(l[k].toList==l[i].toList)=true:=by rw [seq_dec]; simp [e2]
      have hmm:=memS_hit hkl hlk;rw [e2] at hmm;rw [if_pos hmm] at hA;rw [hA] at hR;have hR:=hR (by decide);repeat (first|simp [hlt,hkl,b2]|refine sR ?_)
      refine sC ?_;repeat (first|simp|refine sR ?_)
      refine sT (sH hbox htok ?_);simp [packA,hE,hR]
     ·have b2:(l[k].toList==l[i].toList)=false:=by rw [seq_dec]; simp [e2]
      repeat (first|simp [hlt,hkl,b2]|refine sR ?_)
      refine sC ?_;simp;repeat (first|simp [hwk]|refine sR ?_)
      refine sE ?_;exact ⟨k+1,⟨hlk,memS_more hkl hm fun h=>e2 h.symm⟩,by omega,Weaks.mk (Nat.le_refl _) rfl (by simp [ToL,lk]) trivial⟩
    ·refine sX ?_;simp only [AU, ↓reduceIte];have:k=i:=by omega
     subst this;rw [if_neg (by simp [hm])] at hA;repeat (first|simp [hw]|refine sR ?_)
     refine sE ?_;exact ⟨k+1,⟨hlt,by simp only [firstE,hok,hA, ↓reduceIte]⟩,by omega,Weaks.mk (Nat.le_refl _) rfl (by simp [ToL,lk]) trivial⟩
  ·refine sX ?_;simp only [AU, ↓reduceIte];repeat (first|simp|refine sR ?_)
   have:i=l.length:=by omega
   subst this;refine sT (sH hbox htok ?_);simp [packA,hE,hok]
abbrev At.av (a:At):AV:=.agg [Sb a.name,I a.lo,I a.hi,.d (strs a.names)]
abbrev NT.av (n:NT):AV:=.agg [Sb n.name,I n.par,B n.abs,.d (atts n.own)]
abbrev ET.av (e:ET):AV:=.agg [Sb e.name,I e.fr,I e.to,I e.ol,I e.oh,I e.il,I e.ih]
theorem any_takeG {α:Type} {p:α→Bool} {xs:List α} {i:Nat} (h:i<xs.length) (h1:∀ x∈xs.take i,p x=false) (h2:p xs[i]=true):anyB p xs=true∧xs.findIdx p=i:=by
 refine ⟨List.any_eq_true.2 ⟨_,List.getElem_mem h,h2⟩,?_⟩;rw [List.findIdx_eq h];refine ⟨h2,fun j hj=>?_⟩;have:=h1 xs[j] (by
  rw [List.mem_take_iff_getElem];exact ⟨j,by omega,rfl⟩)
 simpa using this
def stIA (xs:List At) (f:FuncId) (caps:List AV) (nb:Nat) (box:Bxs) (tok:Tks) (nt:Nat) (i:Nat):AState:=⟨tl [(0,.d (atts xs)),(1,.fn (.func f) caps),(7,I xs.length),(8,I i)],lb nb box [],tok,nt⟩
theorem indexFuncA_c (xs:List At) (f:FuncId) (caps:List AV) (p:At→Bool) (hx:xs.length≤1000000) (box:Bxs) (nb:Nat) (tok:Tks) (nt:Nat) (hc:∀ c∈caps,OkIn (fun k=>box k≠none) (fun _=>True) c)
  (hf:∀ x∈xs,∀ box' nb',Ext box box'→ACalls Tryz.prog f (x.av::caps) ⟨box',nb',tok,nt⟩ fun v m=>v=B (p x)∧m=⟨box',nb',tok,nt⟩) :
  ACalls Tryz.prog 292 [.d (atts xs),.fn (.func f) caps] ⟨box,nb,tok,nt⟩ fun v m=>v=I (if anyB p xs=true then (xs.findIdx p:Nat) else -1)∧m=⟨box,nb,tok,nt⟩:=by
 refine sI Tryz.func292 Tryz.ntmps292 fun hbox htok=>?_
 repeat (first|simp|refine sR ?_)
 refine sN ?_;refine AL.loopT (stIA xs f caps nb box tok nt) (fun i=>i≤xs.length∧∀ x∈xs.take i,p x=false) (fun i=>xs.length - i) 0 ⟨Nat.zero_le _,by simp⟩ (Weaks.mk (Nat.le_refl _) rfl (by simp [ToL]; exact .same (okFn hc hbox [] (by simp) rfl _)) trivial) ?_;rintro i S' ⟨hi,htk⟩ hS;simp only [stIA] at hS;subst hS;have hw:=sW (i:=i) (by omega);repeat (first|simp|refine sR ?_|refine sC ?_)
 refine ⟨fun hlt=>?_,fun hge=>?_⟩
 ·have hfx:=hf xs[i] (List.getElem_mem _);have hpx:p xs[i]=true→anyB p xs=true∧(xs.findIdx p=i):=fun he=>any_takeG hlt htk he
  have hmore:p xs[i]=false→∀ x∈xs.take (i+1),p x=false:=fun he x hx=>by
   rw [List.take_succ_eq_append_getElem hlt] at hx;rcases List.mem_append.1 hx with hx|hx
   ·exact htk x hx
   ·simp at hx; rw [hx]; exact he
  repeat (first|simp [hlt]|refine sR ?_)
  generalize xs[i]=x at *;refine Stop.of_b (hfx _ _ ((Ext.refl box).lb hbox [])) ?_;simp;cases he:p x
  ·refine sC ?_;simp;repeat (first|simp [hw]|refine sR ?_)
   refine sE ?_;refine ⟨i+1,⟨hlt,?_⟩,by omega,Weaks.mk (Nat.le_refl _) rfl (by simp [ToL]; exact .same (okFn hc hbox [] (by simp) rfl _)) trivial⟩;exact hmore he
  ·obtain ⟨h1,h2⟩:=hpx he;refine sC ?_;repeat (first|simp|refine sR ?_)
   refine sT (sH hbox htok ?_);simp [packA,h1,h2]
 ·have hn:anyB p xs=false:=by
   rw [List.take_of_length_le hge] at htk;simpa [anyB] using htk
  refine sX ?_;simp only [AU, ↓reduceIte];repeat (first|simp|refine sR ?_)
  refine sT (sH hbox htok ?_);simp [packA,hn]
theorem containsFuncA_c (xs:List At) (f:FuncId) (caps:List AV) (p:At→Bool) (hx:xs.length≤1000000) (box:Bxs) (nb:Nat) (tok:Tks) (nt:Nat) (hc:∀ c∈caps,OkIn (fun k=>box k≠none) (fun _=>True) c)
  (hf:∀ x∈xs,∀ box' nb',Ext box box'→ACalls Tryz.prog f (x.av::caps) ⟨box',nb',tok,nt⟩ fun v m=>v=B (p x)∧m=⟨box',nb',tok,nt⟩) :
  ACalls Tryz.prog 260 [.d (atts xs),.fn (.func f) caps] ⟨box,nb,tok,nt⟩ fun v m=>v=B (anyB p xs)∧m=⟨box,nb,tok,nt⟩:=by
 obtain ⟨A,hany⟩:∃ A,anyB p xs=A:=⟨_,rfl⟩
 have hi:=fun b nb' h1 h2=>indexFuncA_c xs f caps p hx b nb' tok nt h1 h2
 rw [hany];simp only [hany] at hi;refine sI Tryz.func260 Tryz.ntmps260 fun hbox htok=>?_
 repeat (first|simp|refine sR ?_)
 refine Stop.of_b (hi (lb nb box []) _ (fun c h=>(hc c h).mono (fun k hk=>by rw [hbox]; exact hk) fun _ h=>h) (fun x hx' box' nb' he=>hf x hx' box' nb' (by rw [hbox] at he; exact he))) ?_;simp;cases A
 ·repeat (first|simp|refine sR ?_)
  refine sT (sH hbox htok ?_);simp [packA]
 ·have h0:(0:Int)≤(xs.findIdx p:Nat):=by omega
  repeat (first|simp|refine sR ?_)
  refine sT (sH hbox htok ?_);simp [packA,h0]
def stIN (xs:List NT) (f:FuncId) (caps:List AV) (nb:Nat) (box:Bxs) (tok:Tks) (nt:Nat) (i:Nat):AState:=⟨tl [(0,.d (nts xs)),(1,.fn (.func f) caps),(7,I xs.length),(8,I i)],lb nb box [],tok,nt⟩
theorem indexFuncN_c (xs:List NT) (f:FuncId) (caps:List AV) (p:NT→Bool) (hx:xs.length≤1000000) (box:Bxs) (nb:Nat) (tok:Tks) (nt:Nat) (hc:∀ c∈caps,OkIn (fun k=>box k≠none) (fun _=>True) c)
  (hf:∀ x∈xs,∀ box' nb',Ext box box'→ACalls Tryz.prog f (x.av::caps) ⟨box',nb',tok,nt⟩ fun v m=>v=B (p x)∧m=⟨box',nb',tok,nt⟩) :
  ACalls Tryz.prog 234 [.d (nts xs),.fn (.func f) caps] ⟨box,nb,tok,nt⟩ fun v m=>v=I (if anyB p xs=true then (xs.findIdx p:Nat) else -1)∧m=⟨box,nb,tok,nt⟩:=by
 refine sI Tryz.func234 Tryz.ntmps234 fun hbox htok=>?_
 repeat (first|simp|refine sR ?_)
 refine sN ?_;refine AL.loopT (stIN xs f caps nb box tok nt) (fun i=>i≤xs.length∧∀ x∈xs.take i,p x=false) (fun i=>xs.length - i) 0 ⟨Nat.zero_le _,by simp⟩ (Weaks.mk (Nat.le_refl _) rfl (by simp [ToL]; exact .same (okFn hc hbox [] (by simp) rfl _)) trivial) ?_;rintro i S' ⟨hi,htk⟩ hS;simp only [stIN] at hS;subst hS;have hw:=sW (i:=i) (by omega);repeat (first|simp|refine sR ?_|refine sC ?_)
 refine ⟨fun hlt=>?_,fun hge=>?_⟩
 ·have hfx:=hf xs[i] (List.getElem_mem _);have hpx:p xs[i]=true→anyB p xs=true∧(xs.findIdx p=i):=fun he=>any_takeG hlt htk he
  have hmore:p xs[i]=false→∀ x∈xs.take (i+1),p x=false:=fun he x hx=>by
   rw [List.take_succ_eq_append_getElem hlt] at hx;rcases List.mem_append.1 hx with hx|hx
   ·exact htk x hx
   ·simp at hx; rw [hx]; exact he
  repeat (first|simp [hlt]|refine sR ?_)
  generalize xs[i]=x at *;refine Stop.of_b (hfx _ _ ((Ext.refl box).lb hbox [])) ?_;simp;cases he:p x
  ·refine sC ?_;simp;repeat (first|simp [hw]|refine sR ?_)
   refine sE ?_;refine ⟨i+1,⟨hlt,?_⟩,by omega,Weaks.mk (Nat.le_refl _) rfl (by simp [ToL]; exact .same (okFn hc hbox [] (by simp) rfl _)) trivial⟩;exact hmore he
  ·obtain ⟨h1,h2⟩:=hpx he;refine sC ?_;repeat (first|simp|refine sR ?_)
   refine sT (sH hbox htok ?_);simp [packA,h1,h2]
 ·have hn:anyB p xs=false:=by
   rw [List.take_of_length_le hge] at htk;simpa [anyB] using htk
  refine sX ?_;simp only [AU, ↓reduceIte];repeat (first|simp|refine sR ?_)
  refine sT (sH hbox htok ?_);simp [packA,hn]
theorem containsFuncN_c (xs:List NT) (f:FuncId) (caps:List AV) (p:NT→Bool) (hx:xs.length≤1000000) (box:Bxs) (nb:Nat) (tok:Tks) (nt:Nat) (hc:∀ c∈caps,OkIn (fun k=>box k≠none) (fun _=>True) c)
  (hf:∀ x∈xs,∀ box' nb',Ext box box'→ACalls Tryz.prog f (x.av::caps) ⟨box',nb',tok,nt⟩ fun v m=>v=B (p x)∧m=⟨box',nb',tok,nt⟩) :
  ACalls Tryz.prog 169 [.d (nts xs),.fn (.func f) caps] ⟨box,nb,tok,nt⟩ fun v m=>v=B (anyB p xs)∧m=⟨box,nb,tok,nt⟩:=by
 obtain ⟨A,hany⟩:∃ A,anyB p xs=A:=⟨_,rfl⟩
 have hi:=fun b nb' h1 h2=>indexFuncN_c xs f caps p hx b nb' tok nt h1 h2
 rw [hany];simp only [hany] at hi;refine sI Tryz.func169 Tryz.ntmps169 fun hbox htok=>?_
 repeat (first|simp|refine sR ?_)
 refine Stop.of_b (hi (lb nb box []) _ (fun c h=>(hc c h).mono (fun k hk=>by rw [hbox]; exact hk) fun _ h=>h) (fun x hx' box' nb' he=>hf x hx' box' nb' (by rw [hbox] at he; exact he))) ?_;simp;cases A
 ·repeat (first|simp|refine sR ?_)
  refine sT (sH hbox htok ?_);simp [packA]
 ·have h0:(0:Int)≤(xs.findIdx p:Nat):=by omega
  repeat (first|simp|refine sR ?_)
  refine sT (sH hbox htok ?_);simp [packA,h0]
def stIE2 (xs:List ET) (f:FuncId) (caps:List AV) (nb:Nat) (box:Bxs) (tok:Tks) (nt:Nat) (i:Nat):AState:=⟨tl [(0,.d (ets xs)),(1,.fn (.func f) caps),(7,I xs.length),(8,I i)],lb nb box [],tok,nt⟩
theorem indexFuncE2_c (xs:List ET) (f:FuncId) (caps:List AV) (p:ET→Bool) (hx:xs.length≤1000000) (box:Bxs) (nb:Nat) (tok:Tks) (nt:Nat) (hc:∀ c∈caps,OkIn (fun k=>box k≠none) (fun _=>True) c)
  (hf:∀ x∈xs,∀ box' nb',Ext box box'→ACalls Tryz.prog f (x.av::caps) ⟨box',nb',tok,nt⟩ fun v m=>v=B (p x)∧m=⟨box',nb',tok,nt⟩) :
  ACalls Tryz.prog 263 [.d (ets xs),.fn (.func f) caps] ⟨box,nb,tok,nt⟩ fun v m=>v=I (if anyB p xs=true then (xs.findIdx p:Nat) else -1)∧m=⟨box,nb,tok,nt⟩:=by
 refine sI Tryz.func263 Tryz.ntmps263 fun hbox htok=>?_
 repeat (first|simp|refine sR ?_)
 refine sN ?_;refine AL.loopT (stIE2 xs f caps nb box tok nt) (fun i=>i≤xs.length∧∀ x∈xs.take i,p x=false) (fun i=>xs.length - i) 0 ⟨Nat.zero_le _,by simp⟩ (Weaks.mk (Nat.le_refl _) rfl (by simp [ToL]; exact .same (okFn hc hbox [] (by simp) rfl _)) trivial) ?_;rintro i S' ⟨hi,htk⟩ hS;simp only [stIE2] at hS;subst hS;have hw:=sW (i:=i) (by omega);repeat (first|simp|refine sR ?_|refine sC ?_)
 refine ⟨fun hlt=>?_,fun hge=>?_⟩
 ·have hfx:=hf xs[i] (List.getElem_mem _);have hpx:p xs[i]=true→anyB p xs=true∧(xs.findIdx p=i):=fun he=>any_takeG hlt htk he
  have hmore:p xs[i]=false→∀ x∈xs.take (i+1),p x=false:=fun he x hx=>by
   rw [List.take_succ_eq_append_getElem hlt] at hx;rcases List.mem_append.1 hx with hx|hx
   ·exact htk x hx
   ·simp at hx; rw [hx]; exact he
  repeat (first|simp [hlt]|refine sR ?_)
  generalize xs[i]=x at *;refine Stop.of_b (hfx _ _ ((Ext.refl box).lb hbox [])) ?_;simp;cases he:p x
  ·refine sC ?_;simp;repeat (first|simp [hw]|refine sR ?_)
   refine sE ?_;refine ⟨i+1,⟨hlt,?_⟩,by omega,Weaks.mk (Nat.le_refl _) rfl (by simp [ToL]; exact .same (okFn hc hbox [] (by simp) rfl _)) trivial⟩;exact hmore he
  ·obtain ⟨h1,h2⟩:=hpx he;refine sC ?_;repeat (first|simp|refine sR ?_)
   refine sT (sH hbox htok ?_);simp [packA,h1,h2]
 ·have hn:anyB p xs=false:=by
   rw [List.take_of_length_le hge] at htk;simpa [anyB] using htk
  refine sX ?_;simp only [AU, ↓reduceIte];repeat (first|simp|refine sR ?_)
  refine sT (sH hbox htok ?_);simp [packA,hn]
theorem containsFuncE2_c (xs:List ET) (f:FuncId) (caps:List AV) (p:ET→Bool) (hx:xs.length≤1000000) (box:Bxs) (nb:Nat) (tok:Tks) (nt:Nat) (hc:∀ c∈caps,OkIn (fun k=>box k≠none) (fun _=>True) c)
  (hf:∀ x∈xs,∀ box' nb',Ext box box'→ACalls Tryz.prog f (x.av::caps) ⟨box',nb',tok,nt⟩ fun v m=>v=B (p x)∧m=⟨box',nb',tok,nt⟩) :
  ACalls Tryz.prog 215 [.d (ets xs),.fn (.func f) caps] ⟨box,nb,tok,nt⟩ fun v m=>v=B (anyB p xs)∧m=⟨box,nb,tok,nt⟩:=by
 obtain ⟨A,hany⟩:∃ A,anyB p xs=A:=⟨_,rfl⟩
 have hi:=fun b nb' h1 h2=>indexFuncE2_c xs f caps p hx b nb' tok nt h1 h2
 rw [hany];simp only [hany] at hi;refine sI Tryz.func215 Tryz.ntmps215 fun hbox htok=>?_
 repeat (first|simp|refine sR ?_)
 refine Stop.of_b (hi (lb nb box []) _ (fun c h=>(hc c h).mono (fun k hk=>by rw [hbox]; exact hk) fun _ h=>h) (fun x hx' box' nb' he=>hf x hx' box' nb' (by rw [hbox] at he; exact he))) ?_;simp;cases A
 ·repeat (first|simp|refine sR ?_)
  refine sT (sH hbox htok ?_);simp [packA]
 ·have h0:(0:Int)≤(xs.findIdx p:Nat):=by omega
  repeat (first|simp|refine sR ?_)
  refine sT (sH hbox htok ?_);simp [packA,h0]
abbrev At.row (a:At):List AV:=[Sb a.name,I a.lo,I a.hi,.d (strs a.names)]
theorem attr1_c (x y:At) (box:Bxs) (nb k:Nat) (tok:Tks) (nt:Nat) (h1:box k=some [x.row]) :
  ACalls Tryz.prog 261 [y.av,.ptr k 0 0] ⟨box,nb,tok,nt⟩ fun v m=>v=B (decide (y.name=x.name))∧m=⟨box,nb,tok,nt⟩:=by
 refine sI Tryz.func261 Tryz.ntmps261 fun hbox htok=>?_
 have k1n:=key_lt hbox h1;rw [←seq_dec];repeat (first|simp [lb_out k1n,h1]|refine sR ?_)
 refine sT (sH hbox htok ?_);simp [packA]
def rngA (x:At):Bool:=if x.names.length=0 then decide (-1000000≤x.lo∧x.lo≤x.hi∧x.hi≤1000000) else decide (x.lo=0∧x.hi=(x.names.length:Int) - 1)
def attE (x:At) (before:List At):Int:=if nameB x.name=false then 2 else if anyB (fun y=>decide (y.name=x.name)) before=true then 5 else if nmsE x.names≠0 then nmsE x.names else if rngA x=true then 0 else 6
structure At.Fit (a:At):Prop where
 n:a.name.size≤1000000000000
 l:NmFit a.names
theorem attribute_c (x:At) (before:List At) (hx:x.Fit) (hb:before.length≤1000000) (tok:Tks) (nt:Nat):DCall Tryz.prog 213 [x.av,.d (atts before)] tok nt (I (attE x before)) tok nt:=by
 intro box nb;have h1:=isName_c x.name (Nat.le_trans hx.n (by decide));have h3:=names_c x.names hx.l;cases e1:nameB x.name
 ·rw [e1] at h1;rw [show attE x before=2 by rw [attE,if_pos e1]];refine sI Tryz.func213 Tryz.ntmps213 fun hbox htok=>?_
  repeat (first|simp|refine sR ?_)
  refine Stop.of_d (h1 _ _) ?_;repeat (first|simp|refine sR ?_)
  refine sC ?_;repeat (first|simp|refine sR ?_)
  refine sT (sH hbox htok ?_);simp [packA]
 ·rw [e1] at h1;have hA:attE x before=if anyB (fun y=>decide (y.name=x.name)) before=true then 5 else if nmsE x.names≠0 then nmsE x.names else if rngA x=true then 0 else 6:=by rw [attE,if_neg (by simp [e1])]
  obtain ⟨N,hN⟩:∃ N,attE x before=N:=⟨_,rfl⟩
  rw [hN] at hA ⊢;obtain ⟨p,hp⟩:∃ p:At→Bool,(fun y=>decide (y.name=x.name))=p:=⟨_,rfl⟩
  have h2:=fun y box nb k h=>attr1_c x y box nb k tok nt h
  have hpp:∀ y:At,decide (y.name=x.name)=p y:=fun y=>by rw [←hp]
  simp only [hpp] at h2;rw [hp] at hA;have hcap:∀ c∈[AV.ptr (nb+2) 0 0],OkIn (fun k=>(lb nb box [(2,[x.row])]) k≠none) (fun _=>True) c:=by
   intro c hc;rw [List.mem_singleton.1 hc];simp [lb_at]
  refine sI Tryz.func213 Tryz.ntmps213 fun hbox htok=>?_
  repeat (first|simp|refine sR ?_)
  refine Stop.of_d (h1 _ _) ?_;repeat (first|simp|refine sR ?_)
  refine sC ?_;repeat (first|simp|refine sR ?_)
  refine Stop.of_b (containsFuncA_c before 261 [.ptr (nb+2) 0 0] p hb _ _ _ _ hcap (fun y hy box' nb' he=>h2 y box' nb' _ (he _ _ (by simp [lb_at])))) ?_;repeat (first|simp|refine sR ?_)
  cases e2:anyB p before
  ·rw [e2,if_neg (by simp)] at hA;refine sC ?_;repeat (first|simp|refine sR ?_)
   refine Stop.of_d (h3 _ _) ?_;repeat (first|simp|refine sR ?_)
   by_cases e3:nmsE x.names=0
   ·rw [if_neg (by simp [e3])] at hA;simp only [e3];refine sC ?_;simp;by_cases c1 : -1000000≤x.lo
    ·by_cases c2:x.lo≤x.hi
     ·by_cases c3:x.hi≤1000000
      ·repeat (first|simp [c1,c2,c3]|refine sR ?_)
       by_cases z:x.names.length=0
       ·have z2:¬ 0<x.names.length:=by omega
        have hr:rngA x=true:=by rw [rngA,if_pos z]; simp only [decide_eq_true_eq,decide_eq_false_iff_not]; omega
        rw [hr] at hA;refine sC ?_;simp [z2];repeat (first|simp|refine sR ?_)
        refine sC ?_;repeat (first|simp|refine sR ?_)
        refine sT (sH hbox htok ?_);simp [packA,hA]
       ·have z2:0<x.names.length:=by omega
        have hr:rngA x=decide (x.lo=0∧x.hi=(x.names.length:Int) - 1):=if_neg z
        rw [hr] at hA;have hln:=hx.l.n;have w:IntKind.i64.wrap ((x.names.length:Int) - 1)=(x.names.length:Int) - 1:=wrap_in (by omega) (by omega)
        by_cases l0:x.lo=0
        ·have b0:(x.lo==0)=true:=by simp [l0]
         by_cases h0:x.hi=(x.names.length:Int) - 1
         ·have b1:(x.hi==(x.names.length:Int) - 1)=true:=by simp [h0]
          refine sC ?_;simp [z2];repeat (first|simp [w,b0,b1]|refine sR ?_)
          refine sC ?_;repeat (first|simp|refine sR ?_)
          refine sT (sH hbox htok ?_);simp [packA,hA,l0,h0]
         ·have b1:(x.hi==(x.names.length:Int) - 1)=false:=by simp [h0]
          refine sC ?_;simp [z2];repeat (first|simp [w,b0,b1]|refine sR ?_)
          refine sC ?_;repeat (first|simp|refine sR ?_)
          refine sT (sH hbox htok ?_);simp [packA,hA,l0,h0]
        ·have b0:(x.lo==0)=false:=by simp [l0]
         refine sC ?_;simp [z2];repeat (first|simp [w,b0]|refine sR ?_)
         refine sC ?_;repeat (first|simp|refine sR ?_)
         refine sT (sH hbox htok ?_);simp [packA,hA,l0]
      ·repeat (first|simp [c1,c2,c3]|refine sR ?_)
       by_cases z:x.names.length=0
       ·have z2:¬ 0<x.names.length:=by omega
        have hr:rngA x=false:=by rw [rngA,if_pos z]; simp only [decide_eq_true_eq,decide_eq_false_iff_not]; omega
        rw [hr] at hA;refine sC ?_;simp [z2];repeat (first|simp|refine sR ?_)
        refine sC ?_;repeat (first|simp|refine sR ?_)
        refine sT (sH hbox htok ?_);simp [packA,hA]
       ·have z2:0<x.names.length:=by omega
        have hr:rngA x=decide (x.lo=0∧x.hi=(x.names.length:Int) - 1):=if_neg z
        rw [hr] at hA;have hln:=hx.l.n;have w:IntKind.i64.wrap ((x.names.length:Int) - 1)=(x.names.length:Int) - 1:=wrap_in (by omega) (by omega)
        by_cases l0:x.lo=0
        ·have b0:(x.lo==0)=true:=by simp [l0]
         by_cases h0:x.hi=(x.names.length:Int) - 1
         ·have b1:(x.hi==(x.names.length:Int) - 1)=true:=by simp [h0]
          refine sC ?_;simp [z2];repeat (first|simp [w,b0,b1]|refine sR ?_)
          refine sC ?_;repeat (first|simp|refine sR ?_)
          refine sT (sH hbox htok ?_);simp [packA,hA,l0,h0]
         ·have b1:(x.hi==(x.names.length:Int) - 1)=false:=by simp [h0]
          refine sC ?_;simp [z2];repeat (first|simp [w,b0,b1]|refine sR ?_)
          refine sC ?_;repeat (first|simp|refine sR ?_)
          refine sT (sH hbox htok ?_);simp [packA,hA,l0,h0]
        ·have b0:(x.lo==0)=false:=by simp [l0]
         refine sC ?_;simp [z2];repeat (first|simp [w,b0]|refine sR ?_)
         refine sC ?_;repeat (first|simp|refine sR ?_)
         refine sT (sH hbox htok ?_);simp [packA,hA,l0]
     ·repeat (first|simp [c1,c2]|refine sR ?_)
      by_cases z:x.names.length=0
      ·have z2:¬ 0<x.names.length:=by omega
       have hr:rngA x=false:=by rw [rngA,if_pos z]; simp only [decide_eq_true_eq,decide_eq_false_iff_not]; omega
       rw [hr] at hA;refine sC ?_;simp [z2];repeat (first|simp|refine sR ?_)
       refine sC ?_;repeat (first|simp|refine sR ?_)
       refine sT (sH hbox htok ?_);simp [packA,hA]
      ·have z2:0<x.names.length:=by omega
       have hr:rngA x=decide (x.lo=0∧x.hi=(x.names.length:Int) - 1):=if_neg z
       rw [hr] at hA;have hln:=hx.l.n;have w:IntKind.i64.wrap ((x.names.length:Int) - 1)=(x.names.length:Int) - 1:=wrap_in (by omega) (by omega)
       by_cases l0:x.lo=0
       ·have b0:(x.lo==0)=true:=by simp [l0]
        by_cases h0:x.hi=(x.names.length:Int) - 1
        ·have b1:(x.hi==(x.names.length:Int) - 1)=true:=by simp [h0]
         refine sC ?_;simp [z2];repeat (first|simp [w,b0,b1]|refine sR ?_)
         refine sC ?_;repeat (first|simp|refine sR ?_)
         refine sT (sH hbox htok ?_);simp [packA,hA,l0,h0]
        ·have b1:(x.hi==(x.names.length:Int) - 1)=false:=by simp [h0]
         refine sC ?_;simp [z2];repeat (first|simp [w,b0,b1]|refine sR ?_)
         refine sC ?_;repeat (first|simp|refine sR ?_)
         refine sT (sH hbox htok ?_);simp [packA,hA,l0,h0]
       ·have b0:(x.lo==0)=false:=by simp [l0]
        refine sC ?_;simp [z2];repeat (first|simp [w,b0]|refine sR ?_)
        refine sC ?_;repeat (first|simp|refine sR ?_)
        refine sT (sH hbox htok ?_);simp [packA,hA,l0]
    ·repeat (first|simp [c1]|refine sR ?_)
     by_cases z:x.names.length=0
     ·have z2:¬ 0<x.names.length:=by omega
      have hr:rngA x=false:=by rw [rngA,if_pos z]; simp only [decide_eq_true_eq,decide_eq_false_iff_not]; omega
      rw [hr] at hA;refine sC ?_;simp [z2];repeat (first|simp|refine sR ?_)
      refine sC ?_;repeat (first|simp|refine sR ?_)
      refine sT (sH hbox htok ?_);simp [packA,hA]
     ·have z2:0<x.names.length:=by omega
      have hr:rngA x=decide (x.lo=0∧x.hi=(x.names.length:Int) - 1):=if_neg z
      rw [hr] at hA;have hln:=hx.l.n;have w:IntKind.i64.wrap ((x.names.length:Int) - 1)=(x.names.length:Int) - 1:=wrap_in (by omega) (by omega)
      by_cases l0:x.lo=0
      ·have b0:(x.lo==0)=true:=by simp [l0]
       by_cases h0:x.hi=(x.names.length:Int) - 1
       ·have b1:(x.hi==(x.names.length:Int) - 1)=true:=by simp [h0]
        refine sC ?_;simp [z2];repeat (first|simp [w,b0,b1]|refine sR ?_)
        refine sC ?_;repeat (first|simp|refine sR ?_)
        refine sT (sH hbox htok ?_);simp [packA,hA,l0,h0]
       ·have b1:(x.hi==(x.names.length:Int) - 1)=false:=by simp [h0]
        refine sC ?_;simp [z2];repeat (first|simp [w,b0,b1]|refine sR ?_)
        refine sC ?_;repeat (first|simp|refine sR ?_)
        refine sT (sH hbox htok ?_);simp [packA,hA,l0,h0]
      ·have b0:(x.lo==0)=false:=by simp [l0]
       refine sC ?_;simp [z2];repeat (first|simp [w,b0]|refine sR ?_)
       refine sC ?_;repeat (first|simp|refine sR ?_)
       refine sT (sH hbox htok ?_);simp [packA,hA,l0]
   ·rw [if_pos e3] at hA;have b3:(nmsE x.names != 0)=true:=by simp [e3]
    simp only [b3];refine sC ?_;repeat (first|simp|refine sR ?_)
    refine sT (sH hbox htok ?_);simp [packA,hA]
  ·rw [e2,if_pos rfl] at hA;refine sC ?_;repeat (first|simp|refine sR ?_)
   refine sT (sH hbox htok ?_);simp [packA,hA]
def inZ (n lo hi:Int):Bool:=decide (lo≤n∧n≤hi)
theorem in04_c (n lo hi:Int) (tok:Tks) (nt:Nat):DCall Tryz.prog 167 [I n,I lo,I hi] tok nt (B (inZ n lo hi)) tok nt:=by
 intro box nb;by_cases h1:lo≤n
 ·by_cases h2:n≤hi
  ·refine sI Tryz.func167 Tryz.ntmps167 fun hbox htok=>?_
   repeat (first|simp [h1,h2]|refine sR ?_)
   refine sT (sH hbox htok ?_);simp [packA,inZ,h1,h2]
  ·refine sI Tryz.func167 Tryz.ntmps167 fun hbox htok=>?_
   repeat (first|simp [h1,h2]|refine sR ?_)
   refine sT (sH hbox htok ?_);simp [packA,inZ,h1,h2]
 ·refine sI Tryz.func167 Tryz.ntmps167 fun hbox htok=>?_
  repeat (first|simp [h1]|refine sR ?_)
  refine sT (sH hbox htok ?_);simp [packA,inZ,h1]
def attS (x:At):Int:=if nmsE x.names≠0 then nmsE x.names else if rngA x=true then 0 else 6
theorem attribute04_c (x:At) (hx:x.Fit) (tok:Tks) (nt:Nat):DCall Tryz.prog 220 [x.av] tok nt (I (attS x)) tok nt:=by
 intro box nb;have h3:=names04_c x.names hx.l;have i1:=in04_c x.lo (-1000000) 1000000;have i2:=in04_c x.hi x.lo 1000000;obtain ⟨N,hN⟩:∃ N,attS x=N:=⟨_,rfl⟩
 rw [hN];unfold attS at hN;by_cases z:x.names.length=0
 ·have z0:nmsE x.names=0:=by
   have:x.names=[]:=List.length_eq_zero_iff.1 z
   rw [this]; rfl
  rw [if_neg (by simp [z0])] at hN;have hr:rngA x=decide (-1000000≤x.lo∧x.lo≤x.hi∧x.hi≤1000000):=by rw [rngA,if_pos z]
  have zl:x.names=[]:=List.length_eq_zero_iff.1 z
  cases e1:inZ x.lo (-1000000) 1000000
  ·have r1:rngA x=false:=by
    rw [hr];simp only [inZ,decide_eq_false_iff_not] at e1 ⊢;omega
   rw [r1] at hN;rw [e1] at i1;refine sI Tryz.func220 Tryz.ntmps220 fun hbox htok=>?_
   repeat (first|simp [z,zl]|refine sR ?_|refine sC ?_)
   refine Stop.of_d (i1 _ _) ?_;repeat (first|simp|refine sR ?_)
   refine sC ?_;repeat (first|simp|refine sR ?_)
   refine sT (sH hbox htok ?_);simp [packA,←hN]
  ·cases e2:inZ x.hi x.lo 1000000
   ·have r1:rngA x=false:=by
     rw [hr];simp only [inZ,decide_eq_false_iff_not,decide_eq_true_eq] at e1 e2 ⊢;omega
    rw [r1] at hN;rw [e1] at i1;rw [e2] at i2;refine sI Tryz.func220 Tryz.ntmps220 fun hbox htok=>?_
    repeat (first|simp [z,zl]|refine sR ?_|refine sC ?_)
    refine Stop.of_d (i1 _ _) ?_;repeat (first|simp|refine sR ?_)
    refine Stop.of_d (i2 _ _) ?_;repeat (first|simp|refine sR ?_)
    refine sC ?_;repeat (first|simp|refine sR ?_)
    refine sT (sH hbox htok ?_);simp [packA,←hN]
   ·have r1:rngA x=true:=by
     rw [hr];simp only [inZ,decide_eq_true_eq] at e1 e2 ⊢;omega
    rw [r1] at hN;rw [e1] at i1;rw [e2] at i2;refine sI Tryz.func220 Tryz.ntmps220 fun hbox htok=>?_
    repeat (first|simp [z,zl]|refine sR ?_|refine sC ?_)
    refine Stop.of_d (i1 _ _) ?_;repeat (first|simp|refine sR ?_)
    refine Stop.of_d (i2 _ _) ?_;repeat (first|simp|refine sR ?_)
    refine sC ?_;repeat (first|simp|refine sR ?_)
    refine sT (sH hbox htok ?_);simp [packA,←hN]
 ·have zl:¬ x.names=[]:=fun h=>z (by rw [h]; rfl)
  have hr:rngA x=decide (x.lo=0∧x.hi=(x.names.length:Int) - 1):=if_neg z
  rw [hr] at hN;have hln:=hx.l.n;have w:IntKind.i64.wrap ((x.names.length:Int) - 1)=(x.names.length:Int) - 1:=wrap_in (by omega) (by omega)
  refine sI Tryz.func220 Tryz.ntmps220 fun hbox htok=>?_
  repeat (first|simp [z,zl]|refine sR ?_|refine sC ?_)
  refine Stop.of_d (h3 _ _) ?_;repeat (first|simp|refine sR ?_)
  by_cases e3:nmsE x.names=0
  ·rw [if_neg (by simp [e3])] at hN;simp only [e3];refine sC ?_;simp;by_cases l0:x.lo=0
   ·have b0:(x.lo != 0)=false:=by simp [l0]
    by_cases h0:x.hi=(x.names.length:Int) - 1
    ·have b1:(x.hi != (x.names.length:Int) - 1)=false:=by simp [h0]
     repeat (first|simp [w,b0,b1]|refine sR ?_)
     refine sC ?_;repeat (first|simp|refine sR ?_)
     refine sT (sH hbox htok ?_);simp [packA,←hN,l0,h0]
    ·have b1:(x.hi != (x.names.length:Int) - 1)=true:=by simp [h0]
     repeat (first|simp [w,b0,b1]|refine sR ?_)
     refine sC ?_;repeat (first|simp|refine sR ?_)
     refine sT (sH hbox htok ?_);simp [packA,←hN,l0,h0]
   ·have b0:(x.lo != 0)=true:=by simp [l0]
    repeat (first|simp [w,b0]|refine sR ?_)
    refine sC ?_;repeat (first|simp|refine sR ?_)
    refine sT (sH hbox htok ?_);simp [packA,←hN,l0]
  ·rw [if_pos e3] at hN;have b3:(nmsE x.names != 0)=true:=by simp [e3]
   simp only [b3];refine sC ?_;repeat (first|simp|refine sR ?_)
   refine sT (sH hbox htok ?_);simp [packA,←hN]
instance:Inhabited NT:=⟨⟨eB,0,false,[]⟩⟩
def Ty.nd (t:Ty) (i:Nat):NT:=t.nodes.getD i default
def atsL (t:Ty) (i:Nat):List At:=if h:0≤(t.nd i).par∧(t.nd i).par.toNat<i then atsL t (t.nd i).par.toNat++(t.nd i).own else (t.nd i).own
termination_by i
decreasing_by exact h.2
theorem atsL_up {t:Ty} {i:Nat} (h:0≤(t.nd i).par) (h2:(t.nd i).par.toNat<i):atsL t i=atsL t (t.nd i).par.toNat++(t.nd i).own:=by rw [atsL,dif_pos ⟨h,h2⟩]
theorem atsL_top {t:Ty} {i:Nat} (h:¬ 0≤(t.nd i).par):atsL t i=(t.nd i).own:=by rw [atsL,dif_neg fun h2=>h h2.1]
theorem atsL_len {t:Ty} {M:Nat} (hM:∀ i,(t.nd i).own.length≤M):∀ n i,i<n→(atsL t i).length≤(i+1) * M
 | 0,i,hi=>absurd hi (Nat.not_lt_zero _)
 | n+1,i,hi=>by
  have hm:=hM i;by_cases h:0≤(t.nd i).par∧(t.nd i).par.toNat<i
  ·have ih:=atsL_len hM n (t.nd i).par.toNat (by omega);rw [atsL_up h.1 h.2,List.length_append];have:((t.nd i).par.toNat+1) * M≤i * M:=Nat.mul_le_mul_right _ (by omega)
   rw [Nat.add_mul,Nat.one_mul];omega
  ·rw [atsL,dif_neg h];have:M≤(i+1) * M:=Nat.le_mul_of_pos_left _ (by omega)
   omega
structure Ty.Fit (t:Ty):Prop where
 n:t.nodes.length≤1000
 e:t.edges.length≤1000
 nn:∀ x∈t.nodes,x.name.size≤1000000000000
 en:∀ x∈t.edges,x.name.size≤1000000000000
 a:∀ x∈t.nodes,x.own.length≤1000∧∀ y∈x.own,y.Fit
theorem nd_at {t:Ty} {i:Nat} (h:i<t.nodes.length):t.nd i=t.nodes[i]:=by simp [Ty.nd,h]
theorem attrs_c (t:Ty) (ht:t.Fit) (hM:∀ i,(t.nd i).own.length≤1000):∀ (n i:Nat),i<n→i<t.nodes.length→(∀ j,j≤i→(t.nd j).par<j)→∀ (tok:Tks) (nt:Nat),∃ tok' nt' o,((∀ q,tok q=true→q<nt)→TK tok nt tok' nt' [o]) ∧
  DCall Tryz.prog 212 [t.av,I i] tok nt (.osl 4 ((atsL t i).map At.cells) o) tok' nt'
 | 0,i,hi,_,_,_,_=>absurd hi (Nat.not_lt_zero _)
 | n+1,i,hi,hlt,hp,tok,nt=>by
  have hnd:=nd_at hlt;by_cases h0:0≤(t.nd i).par
  ·have hpi:=hp i (Nat.le_refl _);obtain ⟨tok1,nt1,o1,hk,hc⟩:=attrs_c t ht hM n (t.nd i).par.toNat (by omega) (by omega) (fun j hj=>hp j (by omega)) tok nt;have hL:=atsL_up h0 (by omega);have hl1:=atsL_len hM (i+1) (t.nd i).par.toNat (by omega);have hl2:=hM i;have hb:((t.nd i).par.toNat+1) * 1000≤1000 * 1000:=Nat.mul_le_mul_right _ (by have:=ht.n; omega)
   refine ⟨_,_,.tok nt1,fun h=>(hk h).app,?_⟩;rw [hL];rw [Int.toNat_of_nonneg h0] at hc;generalize atsL t (t.nd i).par.toNat=Q at *;rw [hnd] at h0 hc hl2 ⊢;intro box nb;have hc:=hc;refine sI Tryz.func212 Tryz.ntmps212 fun hbox htok=>?_
   have hkk:=hk htok;repeat (first|simp [hlt]|refine sR ?_)
   refine sC ?_;simp [h0];repeat (first|simp|refine sR ?_)
   refine Stop.of_d (hc) ?_;simp;repeat (first|simp [hlt]|refine sR ?_)
   refine ⟨⟨by omega,hkk.live⟩,?_⟩;refine sN ?_;refine AL.ret ?_;try simp only [AU]
   refine ⟨by simp,Fin.own (by simp [resAs,resA]; rfl) hbox rfl hkk.app.le ?_⟩;simp [packA]
  ·have hL:=atsL_top h0;have hl2:=hM i;refine ⟨_,_,.tok nt,fun h=>(TK.start h).full.app,?_⟩;rw [hL];rw [hnd] at h0 hl2 ⊢;intro box nb;refine sI Tryz.func212 Tryz.ntmps212 fun hbox htok=>?_
   have hkk:=(TK.start htok).full;repeat (first|simp [hlt]|refine sR ?_)
   refine sC ?_;simp [h0];repeat (first|simp [hlt]|refine sR ?_)
   refine ⟨by omega,?_⟩;refine sN ?_;refine AL.ret ?_;try simp only [AU]
   refine ⟨by simp,Fin.own (by simp [resAs,resA]; rfl) hbox rfl (by simp) ?_⟩;simp [packA]
theorem attrsNeg_c (t:Ty) (a:Int) (h:a<0) (tok:Tks) (nt:Nat):DCall Tryz.prog 219 [t.av,I a] tok nt (.osl 0 [] .full) tok nt:=by
 intro box nb;refine sI Tryz.func219 Tryz.ntmps219 fun hbox htok=>?_
 repeat (first|simp [h]|refine sR ?_|refine sC ?_)
 refine sT (sH hbox htok ?_);simp [packA]
theorem attrs04_c (t:Ty) (ht:t.Fit) (hM:∀ i,(t.nd i).own.length≤1000):∀ (n i:Nat),i<n→i<t.nodes.length→(∀ j,j≤i→(t.nd j).par<j)→∀ (tok:Tks) (nt:Nat),∃ tok' nt' o,((∀ q,tok q=true→q<nt)→TK tok nt tok' nt' [o]) ∧
  DCall Tryz.prog 219 [t.av,I i] tok nt (.osl 4 ((atsL t i).map At.cells) o) tok' nt'
 | 0,i,hi,_,_,_,_=>absurd hi (Nat.not_lt_zero _)
 | n+1,i,hi,hlt,hp,tok,nt=>by
  have hnd:=nd_at hlt;have hi0:¬ (i:Int)<0:=by omega
  by_cases h0:0≤(t.nd i).par
  ·have hpi:=hp i (Nat.le_refl _);obtain ⟨tok1,nt1,o1,hk,hc⟩:=attrs04_c t ht hM n (t.nd i).par.toNat (by omega) (by omega) (fun j hj=>hp j (by omega)) tok nt;have hL:=atsL_up h0 (by omega);have hl1:=atsL_len hM (i+1) (t.nd i).par.toNat (by omega);have hl2:=hM i;have hb:((t.nd i).par.toNat+1) * 1000≤1000 * 1000:=Nat.mul_le_mul_right _ (by have:=ht.n; omega)
   refine ⟨_,_,.tok (nt1+1),fun h=>(hk h).tail.full.app.app,?_⟩;rw [hL];rw [Int.toNat_of_nonneg h0] at hc;generalize atsL t (t.nd i).par.toNat=Q at *;rw [hnd] at h0 hc hl2 ⊢;intro box nb;refine sI Tryz.func219 Tryz.ntmps219 fun hbox htok=>?_
   have hkk:=hk htok;repeat (first|simp [hi0]|refine sR ?_)
   refine sC ?_;simp [hi0];repeat (first|simp [hlt]|refine sR ?_)
   refine Stop.of_d (hc) ?_;simp;repeat (first|simp [hlt]|refine sR ?_)
   first|refine ⟨by omega,⟨by omega,upd_same _ _ _⟩,?_⟩|refine ⟨⟨by omega,upd_same _ _ _⟩,?_⟩|refine ⟨by omega,upd_same _ _ _,?_⟩|trace_state
   refine sN ?_;refine AL.ret ?_;try simp only [AU]
   refine ⟨by simp,Fin.own (by simp [resAs,resA]; rfl) hbox rfl hkk.tail.full.app.app.le ?_⟩;simp [packA]
  ·have hL:=atsL_top h0;have hl2:=hM i;have hc:=attrsNeg_c t (t.nd i).par (by omega) tok nt;refine ⟨_,_,.tok (nt+1),fun h=>(TK.start h).full.app.app,?_⟩;rw [hL];rw [hnd] at h0 hc hl2 ⊢;intro box nb;refine sI Tryz.func219 Tryz.ntmps219 fun hbox htok=>?_
   have hkk:=(TK.start htok).full;repeat (first|simp [hi0]|refine sR ?_)
   refine sC ?_;simp [hi0];repeat (first|simp [hlt]|refine sR ?_)
   refine Stop.of_d (hc) ?_;simp;repeat (first|simp [hlt]|refine sR ?_)
   first|refine ⟨by omega,⟨by omega,upd_same _ _ _⟩,?_⟩|refine ⟨⟨by omega,upd_same _ _ _⟩,?_⟩|refine ⟨by omega,upd_same _ _ _,?_⟩|trace_state
   refine sN ?_;refine AL.ret ?_;try simp only [AU]
   refine ⟨by simp,Fin.own (by simp [resAs,resA]; rfl) hbox rfl hkk.app.app.le ?_⟩;simp [packA]
def bndB (lo hi:Int):Bool:=decide (0≤lo∧lo≤40)&&(hi == -1||decide (lo≤hi∧hi≤40))
theorem bounded_c (lo hi:Int) (tok:Tks) (nt:Nat):DCall Tryz.prog 217 [I lo,I hi] tok nt (B (bndB lo hi)) tok nt:=by
 intro box nb;by_cases h1:0≤lo
 ·by_cases h2:lo≤40
  ·cases h3:(hi == -1)
   ·by_cases h4:lo≤hi
    ·by_cases h5:hi≤40
     ·refine sI Tryz.func217 Tryz.ntmps217 fun hbox htok=>?_
      repeat (first|simp [h1,h2,h3,h4,h5]|refine sR ?_)
      refine sT (sH hbox htok ?_);simp [packA,bndB,h1,h2,h3,h4,h5]
     ·refine sI Tryz.func217 Tryz.ntmps217 fun hbox htok=>?_
      repeat (first|simp [h1,h2,h3,h4,h5]|refine sR ?_)
      refine sT (sH hbox htok ?_);simp [packA,bndB,h1,h2,h3,h4,h5]
    ·refine sI Tryz.func217 Tryz.ntmps217 fun hbox htok=>?_
     repeat (first|simp [h1,h2,h3,h4]|refine sR ?_)
     refine sT (sH hbox htok ?_);simp [packA,bndB,h1,h2,h3,h4]
   ·refine sI Tryz.func217 Tryz.ntmps217 fun hbox htok=>?_
    repeat (first|simp [h1,h2,h3]|refine sR ?_)
    refine sT (sH hbox htok ?_);simp [packA,bndB,h1,h2,h3]
  ·refine sI Tryz.func217 Tryz.ntmps217 fun hbox htok=>?_
   repeat (first|simp [h1,h2]|refine sR ?_)
   refine sT (sH hbox htok ?_);simp [packA,bndB,h1,h2]
 ·refine sI Tryz.func217 Tryz.ntmps217 fun hbox htok=>?_
  repeat (first|simp [h1]|refine sR ?_)
  refine sT (sH hbox htok ?_);simp [packA,bndB,h1]
abbrev NT.row (n:NT):List AV:=[Sb n.name,I n.par,B n.abs,.d (atts n.own)]
abbrev ET.row (e:ET):List AV:=[Sb e.name,I e.fr,I e.to,I e.ol,I e.oh,I e.il,I e.ih]
theorem node1_c (x y:NT) (box:Bxs) (nb k:Nat) (tok:Tks) (nt:Nat) (h1:box k=some [x.row]) :
  ACalls Tryz.prog 211 [y.av,.ptr k 0 0] ⟨box,nb,tok,nt⟩ fun v m=>v=B (decide (y.name=x.name))∧m=⟨box,nb,tok,nt⟩:=by
 refine sI Tryz.func211 Tryz.ntmps211 fun hbox htok=>?_
 have k1n:=key_lt hbox h1;rw [←seq_dec];repeat (first|simp [lb_out k1n,h1]|refine sR ?_)
 refine sT (sH hbox htok ?_);simp [packA]
theorem edge2_c (x y:ET) (box:Bxs) (nb k:Nat) (tok:Tks) (nt:Nat) (h1:box k=some [x.row]) :
  ACalls Tryz.prog 216 [y.av,.ptr k 0 0] ⟨box,nb,tok,nt⟩ fun v m=>v=B (decide (y.name=x.name))∧m=⟨box,nb,tok,nt⟩:=by
 refine sI Tryz.func216 Tryz.ntmps216 fun hbox htok=>?_
 have k1n:=key_lt hbox h1;rw [←seq_dec];repeat (first|simp [lb_out k1n,h1]|refine sR ?_)
 refine sT (sH hbox htok ?_);simp [packA]
theorem bound04_c (lo hi:Int) (tok:Tks) (nt:Nat):DCall Tryz.prog 221 [I lo,I hi] tok nt (B (bndB lo hi)) tok nt:=by
 intro box nb;have i1:=in04_c lo 0 40;have i2:=in04_c hi lo 40;cases e1:inZ lo 0 40
 ·rw [e1] at i1;have hb:bndB lo hi=false:=by
   have:decide (0≤lo∧lo≤40)=false:=e1
   simp [bndB,this]
  rw [hb];refine sI Tryz.func221 Tryz.ntmps221 fun hbox htok=>?_
  repeat (first|simp|refine sR ?_)
  refine Stop.of_d (i1 _ _) ?_;repeat (first|simp|refine sR ?_)
  refine sT (sH hbox htok ?_);simp [packA]
 ·rw [e1] at i1;have h1:decide (0≤lo∧lo≤40)=true:=e1
  cases h3:(hi == -1)
  ·have hb:bndB lo hi=inZ hi lo 40:=by
    simp only [bndB,h1,h3,inZ,Bool.true_and,Bool.false_or]
   rw [hb];refine sI Tryz.func221 Tryz.ntmps221 fun hbox htok=>?_
   repeat (first|simp|refine sR ?_)
   refine Stop.of_d (i1 _ _) ?_;simp;repeat (first|simp [h3]|refine sR ?_)
   refine Stop.of_d (i2 _ _) ?_;repeat (first|simp|refine sR ?_)
   refine sT (sH hbox htok ?_);simp [packA]
  ·have hb:bndB lo hi=true:=by simp only [bndB,h1,h3,Bool.true_and,Bool.true_or]
   rw [hb];refine sI Tryz.func221 Tryz.ntmps221 fun hbox htok=>?_
   repeat (first|simp|refine sR ?_)
   refine Stop.of_d (i1 _ _) ?_;simp;repeat (first|simp [h3]|refine sR ?_)
   refine sT (sH hbox htok ?_);simp [packA]
def insB (t:Ty) (n:Int):Bool:=decide (0≤n∧n<t.nodes.length)
theorem edge1_c (t:Ty) (n:Int) (box:Bxs) (nb k:Nat) (tok:Tks) (nt:Nat) (h1:box k=some [[.d (nts t.nodes),.d (ets t.edges)]]) :
  ACalls Tryz.prog 214 [I n,.ptr k 0 0] ⟨box,nb,tok,nt⟩ fun v m=>v=B (insB t n)∧m=⟨box,nb,tok,nt⟩:=by
 by_cases h0:0≤n
 ·refine sI Tryz.func214 Tryz.ntmps214 fun hbox htok=>?_
  have k1n:=key_lt hbox h1;repeat (first|simp [lb_out k1n,h1,h0]|refine sR ?_)
  refine sT (sH hbox htok ?_);simp [packA,insB,h0]
 ·refine sI Tryz.func214 Tryz.ntmps214 fun hbox htok=>?_
  have k1n:=key_lt hbox h1;repeat (first|simp [lb_out k1n,h1,h0]|refine sR ?_)
  refine sT (sH hbox htok ?_);simp [packA,insB,h0]
def atAt (L:List At) (k:Nat):Int:=attE (L.getD k ⟨eB,0,0,[]⟩) (L.take k)
def ownAt (L:List At) (M k:Nat):Int:=if k+M<L.length then 0 else atAt L k
def ownE (L:List At) (M:Nat):Int:=firstE (ownAt L M) L.length
theorem ownAt_zero (L:List At) (M:Nat):∀ k,k+M≤L.length→firstE (ownAt L M) k=0
 | 0,_=>rfl
 | k+1,h=>by
  simp only [firstE,ownAt_zero L M k (by omega), ↓reduceIte,ownAt];rw [if_pos (by omega)]
theorem atsL_own {t:Ty} {i:Nat}:(t.nd i).own.length≤(atsL t i).length:=by
 rw [atsL];split
 ·rw [List.length_append]; omega
 ·exact Nat.le_refl _
theorem atsL_fit {t:Ty} (ht:t.Fit):∀ n i,i<n→∀ x∈atsL t i,x.Fit
 | 0,i,hi=>absurd hi (Nat.not_lt_zero _)
 | n+1,i,hi=>by
  have hown:∀ x∈(t.nd i).own,x.Fit:=by
   by_cases h:i<t.nodes.length
   ·rw [nd_at h]; exact (ht.a _ (List.getElem_mem h)).2
   ·intro x hx;simp only [Ty.nd,List.getD_eq_getElem?_getD,List.getElem?_eq_none (Nat.le_of_not_lt h),Option.getD_none] at hx;cases hx
  rw [atsL];split
  ·rename_i h;intro x hx;rcases List.mem_append.1 hx with hx|hx
   ·exact atsL_fit ht n _ (by omega) x hx
   ·exact hown x hx
  ·exact hown
theorem at_getD {L:List At} {k:Nat} (h:k<L.length):atAt L k=attE L[k] (L.take k):=by simp [atAt,h]
theorem atts_take (L:List At) (k:Nat):atts (L.take k)=.sl 4 (List.take k (L.map At.cells)):=by rw [atts,List.map_take]
theorem atts_at {L:List At} {k:Nat} (h:k<L.length):(L.map At.cells)[k]?=some L[k].cells:=by simp [h]
def nodE (t:Ty) (i:Nat):Int :=
 if nameB (t.nd i).name=false then 2 else if anyB (fun y=>decide (y.name=(t.nd i).name)) (t.nodes.take i)=true then 5
 else if (t.nd i).par < -1∨(i:Int)≤(t.nd i).par then 6 else if 4<(t.nd i).own.length then 3
 else if 8<(atsL t i).length then 3 else ownE (atsL t i) (t.nd i).own.length
def stNo (L:List At) (nb:Nat) (box:Bxs) (tok:Tks) (nt:Nat) (k:Nat):AState:=⟨tl [(7,I k),(6,.d (atts L))],lb nb box [],tok,nt⟩
theorem node_c (t:Ty) (ht:t.Fit) (hM:∀ i,(t.nd i).own.length≤1000) (i:Nat) (hi:i<t.nodes.length) (hp:∀ j,j<i→(t.nd j).par<j) (tok:Tks) (nt:Nat):DCall Tryz.prog 133 [t.av,I i] tok nt (I (nodE t i)) tok nt:=by
 intro box nb;have hnd:=nd_at hi;have hmem:=List.getElem_mem hi;have h1:=isName_c (t.nd i).name (by rw [hnd]; exact Nat.le_trans (ht.nn _ hmem) (by decide));obtain ⟨N,hN⟩:∃ N,nodE t i=N:=⟨_,rfl⟩
 rw [hN];unfold nodE at hN;rw [hnd] at h1 hN;cases e1:nameB t.nodes[i].name
 ·rw [e1] at h1 hN;rw [if_pos rfl] at hN;refine sI Tryz.func133 Tryz.ntmps133 fun hbox htok=>?_
  repeat (first|simp [hi]|refine sR ?_)
  refine Stop.of_d (h1 _ _) ?_;repeat (first|simp|refine sR ?_)
  refine sC ?_;repeat (first|simp|refine sR ?_)
  refine sT (sH hbox htok ?_);simp [packA,←hN]
 ·rw [e1] at h1 hN;rw [if_neg (by simp)] at hN;obtain ⟨p,hpp⟩:∃ p:NT→Bool,(fun y=>decide (y.name=t.nodes[i].name))=p:=⟨_,rfl⟩
  have h2:=fun y box nb k (hbk:box k=some [(t.nodes[i]'hi).row])=>node1_c (t.nodes[i]'hi) y box nb k tok nt hbk
  have hpy:∀ y:NT,decide (y.name=t.nodes[i].name)=p y:=fun y=>by rw [←hpp]
  simp only [hpy] at h2;rw [hpp] at hN;refine sI Tryz.func133 Tryz.ntmps133 fun hbox htok=>?_
  repeat (first|simp [hi]|refine sR ?_)
  refine Stop.of_d (h1 _ _) ?_;repeat (first|simp [hi]|refine sR ?_|refine sC ?_)
  refine ⟨by omega,?_⟩;have hcf:=fun (b:Bxs) nb' h3 h4=>containsFuncN_c (t.nodes.take i) 211 [.ptr (nb+5) 0 0] p (by simp; have:=ht.n; omega) b nb' tok nt h3 h4
  rw [show nts (t.nodes.take i)=.sl 4 (List.take i (t.nodes.map NT.cells)) by rw [nts,List.map_take]] at hcf;refine Stop.of_b (hcf _ _ (fun c hc=>by rw [List.mem_singleton.1 hc]; simp [lb_at]) (fun y hy box' nb' he=>h2 y box' nb' _ (he _ _ (by simp [lb_at])))) ?_;simp;cases e2:anyB p (t.nodes.take i)
  ·rw [e2,if_neg (by simp)] at hN;refine sC ?_;simp;by_cases e3:t.nodes[i].par < -1
   ·rw [if_pos (.inl e3)] at hN;repeat (first|simp [e3]|refine sR ?_)
    refine sC ?_;repeat (first|simp|refine sR ?_)
    refine sT (sH hbox htok ?_);simp [packA,←hN]
   ·by_cases e4:(i:Int)≤t.nodes[i].par
    ·rw [if_pos (.inr e4)] at hN;repeat (first|simp [e3,e4]|refine sR ?_)
     refine sC ?_;repeat (first|simp|refine sR ?_)
     refine sT (sH hbox htok ?_);simp [packA,←hN]
    ·rw [if_neg (by omega)] at hN;repeat (first|simp [e3,e4]|refine sR ?_)
     refine sC ?_;repeat (first|simp|refine sR ?_)
     by_cases e5:4<t.nodes[i].own.length
     ·have e5':(4:Int)<t.nodes[i].own.length:=by omega
      rw [if_pos e5] at hN;refine sC ?_;simp [e5,e5'];repeat (first|simp|refine sR ?_)
      refine sT (sH hbox htok ?_);simp [packA,←hN]
     ·have e5':¬ (4:Int)<t.nodes[i].own.length:=by omega
      rw [if_neg e5] at hN;obtain ⟨tok1,nt1,o1,hk,hc⟩:=attrs_c t ht hM (i+1) i (Nat.lt_succ_self _) hi (fun j hj=>by
       by_cases e:j=i
       ·subst e; rw [hnd]; omega
       ·exact hp j (by omega)) tok nt
      have hal:=atsL_len hM (i+1) i (Nat.lt_succ_self _);have haf:=atsL_fit ht (i+1) i (Nat.lt_succ_self _);have hml:=atsL_own (t:=t) (i:=i);rw [hnd] at hml;have htn:=ht.n;have hal2:(atsL t i).length≤1000000:=Nat.le_trans hal (by have:(i+1) * 1000≤1000 * 1000:=Nat.mul_le_mul_right _ (by omega); omega)
      clear hal;generalize atsL t i=L at *;refine sC ?_;simp [e5,e5'];repeat (first|simp|refine sR ?_)
      refine Stop.of_d (hc) ?_;simp;have hkk:=hk htok;repeat (first|simp|refine sR ?_)
      by_cases e6:8<L.length
      ·have e6':(8:Int)<L.length:=by omega
       rw [if_pos e6] at hN;refine sC ?_;simp [e6,e6'];repeat (first|simp|refine sR ?_)
       refine sT (sG hbox htok hkk.old hkk.le ?_);simp [packA,←hN]
      ·have e6':¬ (8:Int)<L.length:=by omega
       rw [if_neg e6] at hN;have hw0:IntKind.i64.wrap ((L.length:Int) - (t.nodes[i].own.length:Nat))=((L.length - t.nodes[i].own.length:Nat):Int):=by rw [wrap_in (by omega) (by omega)]; omega
       have hz:=ownAt_zero L t.nodes[i].own.length (L.length - t.nodes[i].own.length) (by omega);unfold ownE at hN;obtain ⟨f,hf⟩:∃ f,ownAt L t.nodes[i].own.length=f:=⟨_,rfl⟩
       have hfk:∀ k,(hk:k<L.length)→L.length - t.nodes[i].own.length≤k→f k=attE L[k] (L.take k):=fun k hk hge=>by
        rw [←hf,ownAt,if_neg (by omega),at_getD hk]
       rw [hf] at hN hz;refine sC ?_;simp [e6,e6'];repeat (first|simp [hi,lb_at,hw0]|refine sR ?_)
       have hal3:L.length - t.nodes[i].own.length≤L.length:=Nat.sub_le _ _
       generalize L.length - t.nodes[i].own.length=a at *;refine sN ?_;refine AL.loopT (stNo L nb box tok1 nt1) (fun k=>a≤k∧k≤L.length∧firstE f k=0) (fun k=>L.length - k) a ⟨Nat.le_refl _,by omega,hz⟩ (Weaks.mk (by have:=hkk.le; omega) rfl (by simp [ToL,lk,To.data]) trivial) ?_;rintro k S' ⟨hak,hkl,hok⟩ hS;simp only [stNo] at hS;subst hS;have hw:=sW (i:=k) (by omega);repeat (first|simp|refine sR ?_|refine sC ?_)
       refine ⟨fun hlt=>?_,fun hge=>?_⟩
       ·have hA:=hfk k hlt hak;have hc2:=attribute_c L[k] (L.take k) (haf _ (List.getElem_mem hlt)) (by simp; omega);rw [atts_take,←hA] at hc2;have hR:f k≠0→firstE f L.length=f k:=fun h0=>firstE_stop hok h0 L.length hlt
        have hnx:f k=0→firstE f (k+1)=0:=fun h0=>by simp only [firstE,hok,h0, ↓reduceIte]
        generalize f k=E at *;repeat (first|simp [hlt,atts_at hlt]|refine sR ?_)
        try refine ⟨by omega,?_⟩
        refine Stop.of_d (hc2 _ _) ?_;repeat (first|simp|refine sR ?_)
        by_cases e7:E=0
        ·refine sC ?_;simp [e7];repeat (first|simp [hw]|refine sR ?_)
         refine sE ?_;exact ⟨k+1,⟨by omega,hlt,hnx e7⟩,by omega,Weaks.mk (by have:=hkk.le; omega) rfl (by simp [ToL,lk]) trivial⟩
        ·have b7:(E != 0)=true:=by simp [e7]
         refine sC ?_;simp [e7,b7];repeat (first|simp|refine sR ?_)
         refine sT (sG hbox htok hkk.old hkk.le ?_);simp [packA,←hN,hR e7]
       ·refine sX ?_;simp only [AU, ↓reduceIte];repeat (first|simp|refine sR ?_)
        have:k=L.length:=by omega
        subst this;refine sT (sG hbox htok hkk.old hkk.le ?_);simp [packA,←hN,hok]
  ·rw [e2,if_pos rfl] at hN;refine sC ?_;repeat (first|simp|refine sR ?_)
   refine sT (sH hbox htok ?_);simp [packA,←hN]
def anyN (l:List NT) (s:ByteArray):Bool:=anyB (fun y=>decide (y.name=s)) l
theorem anyN_iff {l:List NT} {s:ByteArray}:anyN l s=true↔∃ x∈l,x.name=s:=by simp [anyN,anyB]
theorem anyN_more {l:List NT} {i:Nat} {s:ByteArray} (hi:i<l.length) (h:anyN (l.take i) s=false) (hne:l[i].name≠s):anyN (l.take (i+1)) s=false:=by
 rw [←Bool.not_eq_true,anyN_iff] at h ⊢;rintro ⟨x,hx,he⟩;rw [List.take_succ_eq_append_getElem hi,List.mem_append,List.mem_singleton] at hx;rcases hx with hx|hx
 ·exact h ⟨x,hx,he⟩
 ·exact hne (by rw [←hx]; exact he)
theorem anyN_hit {l:List NT} {k i:Nat} {s:ByteArray} (hk:k<l.length) (hki:k<i) (he:l[k].name=s):anyN (l.take i) s=true :=
 anyN_iff.2 ⟨l[k],by rw [List.mem_take_iff_getElem]; exact ⟨k,by omega,rfl⟩,he⟩
def anyAt (l:List At) (s:ByteArray):Bool:=anyB (fun y=>decide (y.name=s)) l
theorem anyAt_iff {l:List At} {s:ByteArray}:anyAt l s=true↔∃ x∈l,x.name=s:=by simp [anyAt,anyB]
theorem anyAt_more {l:List At} {i:Nat} {s:ByteArray} (hi:i<l.length) (h:anyAt (l.take i) s=false) (hne:l[i].name≠s):anyAt (l.take (i+1)) s=false:=by
 rw [←Bool.not_eq_true,anyAt_iff] at h ⊢;rintro ⟨x,hx,he⟩;rw [List.take_succ_eq_append_getElem hi,List.mem_append,List.mem_singleton] at hx;rcases hx with hx|hx
 ·exact h ⟨x,hx,he⟩
 ·exact hne (by rw [←hx]; exact he)
theorem anyAt_hit {l:List At} {k i:Nat} {s:ByteArray} (hk:k<l.length) (hki:k<i) (he:l[k].name=s):anyAt (l.take i) s=true :=
 anyAt_iff.2 ⟨l[k],by rw [List.mem_take_iff_getElem]; exact ⟨k,by omega,rfl⟩,he⟩
theorem attE_attS (x:At) (b:List At):attE x b=if nameB x.name=false then 2 else if anyAt b x.name=true then 5 else attS x:=rfl
def stNr1 (t:Ty) (i:Nat) (n:NT) (nb:Nat) (box:Bxs) (tok:Tks) (nt:Nat) (k:Nat):AState:=⟨tl [(6,I k),(5,.ptr (nb+5) 0 0),(2,.ptr (nb+2) 0 0),(1,I i)],lb nb box [(5,[n.row]),(2,[[.d (nts t.nodes),.d (ets t.edges)]])],tok,nt⟩
def stNr2 (L:List At) (nb:Nat) (box:Bxs) (tok:Tks) (nt:Nat) (k:Nat):AState:=⟨tl [(8,I k),(7,.d (atts L))],lb nb box [],tok,nt⟩
def stNr3 (L:List At) (k:Nat) (nb:Nat) (box:Bxs) (tok:Tks) (nt:Nat) (j:Nat):AState:=⟨tl [(9,I j),(8,I k),(7,.d (atts L))],lb nb box [],tok,nt⟩
theorem node04_c (t:Ty) (ht:t.Fit) (hM:∀ i,(t.nd i).own.length≤1000) (i:Nat) (hi:i<t.nodes.length) (hp:∀ j,j<i→(t.nd j).par<j) (tok:Tks) (nt:Nat):DCall Tryz.prog 139 [t.av,I i] tok nt (I (nodE t i)) tok nt:=by
 intro box nb;have hnd:=nd_at hi;have hmem:=List.getElem_mem hi;have htn:=ht.n;have h1:=isName01_c (t.nd i).name (by rw [hnd]; exact Nat.le_trans (ht.nn _ hmem) (by decide));obtain ⟨N,hN⟩:∃ N,nodE t i=N:=⟨_,rfl⟩
 rw [hN];unfold nodE at hN
 change (if nameB (t.nd i).name=false then (2:Int) else if anyN (t.nodes.take i) (t.nd i).name=true then 5 else _)=N at hN
 rw [hnd] at h1 hN;have hin:=in04_c t.nodes[i].par (-1) ((i:Int) - 1);have hwi:IntKind.i64.wrap ((i:Int) - 1)=(i:Int) - 1:=by rw [wrap_in (by omega) (by omega)]
 cases e1:nameB t.nodes[i].name
 ·rw [e1] at h1 hN;rw [if_pos rfl] at hN;refine sI Tryz.func139 Tryz.ntmps139 fun hbox htok=>?_
  repeat (first|simp [hi]|refine sR ?_)
  refine Stop.of_d (h1 _ _) ?_;repeat (first|simp|refine sR ?_)
  refine sC ?_;repeat (first|simp|refine sR ?_)
  refine sT (sH hbox htok ?_);simp [packA,←hN]
 ·rw [e1] at h1 hN;rw [if_neg (by simp)] at hN;refine sI Tryz.func139 Tryz.ntmps139 fun hbox htok=>?_
  repeat (first|simp [hi]|refine sR ?_)
  refine Stop.of_d (h1 _ _) ?_;repeat (first|simp|refine sR ?_)
  refine sC ?_;repeat (first|simp|refine sR ?_)
  refine sN ?_;refine AL.loopT (stNr1 t i t.nodes[i] nb box tok nt) (fun k=>k≤i∧anyN (t.nodes.take k) t.nodes[i].name=false) (fun k=>i - k) 0 ⟨Nat.zero_le _,rfl⟩ wkA ?_;rintro k S' ⟨hk,hm⟩ hS;simp only [stNr1] at hS;subst hS;have hwk:=sW (i:=k) (by omega);repeat (first|simp|refine sR ?_|refine sC ?_)
  refine ⟨fun hlk=>?_,fun hge=>?_⟩
  ·have hkl:k<t.nodes.length:=by omega
   by_cases e2:t.nodes[k].name=t.nodes[i].name
   ·have b2:(t.nodes[k].name.toList==t.nodes[i].name.toList)=true:=by rw [seq_dec]; simp [e2]
    rw [if_pos (anyN_hit hkl hlk e2)] at hN;repeat (first|simp [hi,hkl,b2]|refine sR ?_)
    refine sC ?_;simp [b2];repeat (first|simp|refine sR ?_)
    refine sT (sH hbox htok ?_);simp [packA,←hN]
   ·have b2:(t.nodes[k].name.toList==t.nodes[i].name.toList)=false:=by rw [seq_dec]; simp [e2]
    repeat (first|simp [hi,hkl,b2]|refine sR ?_)
    refine sC ?_;simp [b2];repeat (first|simp [hwk]|refine sR ?_)
    refine sE ?_;exact ⟨k+1,⟨hlk,anyN_more hkl hm e2⟩,by omega,wkA⟩
  ·refine sX ?_;simp only [AU, ↓reduceIte];have:k=i:=by omega
   subst this;rw [hm,if_neg (by simp)] at hN;by_cases e3:t.nodes[k].par < -1∨(k:Int)≤t.nodes[k].par
   ·rw [if_pos e3] at hN;have b3:inZ t.nodes[k].par (-1) ((k:Int) - 1)=false:=by simp only [inZ,decide_eq_false_iff_not]; omega
    rw [b3] at hin;repeat (first|simp [hi,hwi]|refine sR ?_)
    refine Stop.of_d (hin _ _) ?_;repeat (first|simp|refine sR ?_)
    refine sC ?_;repeat (first|simp|refine sR ?_)
    refine sT (sH hbox htok ?_);simp [packA,←hN]
   ·rw [if_neg e3] at hN;have b3:inZ t.nodes[k].par (-1) ((k:Int) - 1)=true:=by simp only [inZ,decide_eq_true_eq]; omega
    rw [b3] at hin;obtain ⟨tok1,nt1,o1,hk,hc⟩:=attrs04_c t ht hM (k+1) k (Nat.lt_succ_self _) hi (fun j hj=>by
     by_cases e:j=k
     ·subst e; rw [hnd]; omega
     ·exact hp j (by omega)) tok nt
    have hal:=atsL_len hM (k+1) k (Nat.lt_succ_self _);have haf:=atsL_fit ht (k+1) k (Nat.lt_succ_self _);have hml:=atsL_own (t:=t) (i:=k);rw [hnd] at hml;have hal2:(atsL t k).length≤1000000:=Nat.le_trans hal (by have:(k+1) * 1000≤1000 * 1000:=Nat.mul_le_mul_right _ (by omega); omega)
    clear hal;generalize atsL t k=L at *;have hw0:IntKind.i64.wrap ((L.length:Int) - (t.nodes[k].own.length:Nat))=((L.length - t.nodes[k].own.length:Nat):Int):=by rw [wrap_in (by omega) (by omega)]; omega
    have hz:=ownAt_zero L t.nodes[k].own.length (L.length - t.nodes[k].own.length) (by omega);unfold ownE at hN;obtain ⟨f,hf⟩:∃ f,ownAt L t.nodes[k].own.length=f:=⟨_,rfl⟩
    have hfk:∀ j,(hk:j<L.length)→L.length - t.nodes[k].own.length≤j→f j=attE L[j] (L.take j):=fun j hk hge=>by
     rw [←hf,ownAt,if_neg (by omega),at_getD hk]
    rw [hf] at hN hz;repeat (first|simp [hi,hwi]|refine sR ?_)
    refine Stop.of_d (hin _ _) ?_;repeat (first|simp [hi]|refine sR ?_|refine sC ?_)
    refine Stop.of_d (hc) ?_;simp;have hkk:=hk htok;by_cases e5:4<t.nodes[k].own.length
    ·have e5':(4:Int)<t.nodes[k].own.length:=by omega
     rw [if_pos e5] at hN;repeat (first|simp [hi,e5,e5']|refine sR ?_)
     refine sC ?_;simp [e5,e5'];repeat (first|simp|refine sR ?_)
     refine sT (sG hbox htok hkk.old hkk.le ?_);simp [packA,←hN]
    ·have e5':¬ (4:Int)<t.nodes[k].own.length:=by omega
     rw [if_neg e5] at hN;by_cases e6:8<L.length
     ·have e6':(8:Int)<L.length:=by omega
      rw [if_pos e6] at hN;repeat (first|simp [hi,e5,e5',e6,e6']|refine sR ?_)
      refine sC ?_;simp [e6,e6'];repeat (first|simp|refine sR ?_)
      refine sT (sG hbox htok hkk.old hkk.le ?_);simp [packA,←hN]
     ·have e6':¬ (8:Int)<L.length:=by omega
      rw [if_neg e6] at hN;repeat (first|simp [hi,e5,e5',e6,e6']|refine sR ?_)
      refine sC ?_;simp [e6,e6'];repeat (first|simp [hi,hw0]|refine sR ?_)
      have hal3:L.length - t.nodes[k].own.length≤L.length:=Nat.sub_le _ _
      generalize L.length - t.nodes[k].own.length=a at *;refine sN ?_;refine AL.loopT (stNr2 L nb box tok1 nt1) (fun k=>a≤k∧k≤L.length∧firstE f k=0) (fun k=>L.length - k) a ⟨Nat.le_refl _,by omega,hz⟩ (Weaks.mk (by have:=hkk.le; omega) rfl (by simp [ToL,lk,To.data]) trivial) ?_;rintro k S' ⟨hak,hkl,hok⟩ hS;simp only [stNr2] at hS;subst hS;have hw:=sW (i:=k) (by omega);repeat (first|simp|refine sR ?_|refine sC ?_)
      refine ⟨fun hlt=>?_,fun hge=>?_⟩
      ·have hA:=hfk k hlt hak;have hR:f k≠0→firstE f L.length=f k:=fun h0=>firstE_stop hok h0 L.length hlt
       have hnx:f k=0→firstE f (k+1)=0:=fun h0=>by simp only [firstE,hok,h0, ↓reduceIte]
       generalize f k=E at *;rw [attE_attS] at hA;have hfx:=haf _ (List.getElem_mem hlt);have hn:=isName01_c L[k].name (Nat.le_trans hfx.n (by decide));have hc2:=attribute04_c L[k] hfx;repeat (first|simp [hlt,atts_at hlt]|refine sR ?_)
       refine Stop.of_d (hn _ _) ?_;simp;cases f1:nameB L[k].name
       ·rw [f1,if_pos rfl] at hA;repeat (first|simp|refine sR ?_)
        refine sC ?_;repeat (first|simp|refine sR ?_)
        refine sT (sG hbox htok hkk.old hkk.le ?_);simp [packA,←hN,hR (by omega),hA]
       ·rw [f1,if_neg (by simp)] at hA;repeat (first|simp|refine sR ?_)
        refine sC ?_;repeat (first|simp|refine sR ?_)
        refine sN ?_;refine AL.loopT (stNr3 L k nb box tok1 nt1) (fun j=>j≤k∧anyAt (L.take j) L[k].name=false) (fun j=>k - j) 0 ⟨Nat.zero_le _,rfl⟩ (Weaks.mk (by have:=hkk.le; omega) rfl (by simp [ToL,lk]) trivial) ?_;rintro j S' ⟨hj,hm2⟩ hS;simp only [stNr3] at hS;subst hS;have hwj:=sW (i:=j) (by omega);repeat (first|simp|refine sR ?_|refine sC ?_)
        refine ⟨fun hlj=>?_,fun hgj=>?_⟩
        ·have hjl:j<L.length:=by omega
         by_cases f2:L[j].name=L[k].name
         ·have b2:(L[j].name.toList==L[k].name.toList)=true:=by rw [seq_dec]; simp [f2]
          rw [if_pos (anyAt_hit hjl hlj f2)] at hA;repeat (first|simp [hlt,hjl,b2]|refine sR ?_)
          refine sC ?_;simp [b2];repeat (first|simp|refine sR ?_)
          refine sT (sG hbox htok hkk.old hkk.le ?_);simp [packA,←hN,hR (by omega),hA]
         ·have b2:(L[j].name.toList==L[k].name.toList)=false:=by rw [seq_dec]; simp [f2]
          repeat (first|simp [hlt,hjl,b2]|refine sR ?_)
          refine sC ?_;simp [b2];repeat (first|simp [hwj]|refine sR ?_)
          refine sE ?_;exact ⟨j+1,⟨hlj,anyAt_more hjl hm2 f2⟩,by omega,Weaks.mk (by have:=hkk.le; omega) rfl (by simp [ToL,lk]) trivial⟩
        ·refine sX ?_;simp only [AU, ↓reduceIte];have:j=k:=by omega
         subst this;rw [hm2,if_neg (by simp)] at hA;rw [←hA] at hc2;repeat (first|simp [hlt,atts_at hlt]|refine sR ?_)
         refine Stop.of_d (hc2 _ _) ?_;repeat (first|simp|refine sR ?_)
         by_cases e7:E=0
         ·refine sC ?_;simp [e7];repeat (first|simp [hw]|refine sR ?_)
          refine sE ?_;exact ⟨j+1,⟨by omega,hlt,hnx e7⟩,by omega,Weaks.mk (by have:=hkk.le; omega) rfl (by simp [ToL,lk]) trivial⟩
         ·have b7:(E != 0)=true:=by simp [e7]
          refine sC ?_;simp [e7,b7];repeat (first|simp|refine sR ?_)
          refine sT (sG hbox htok hkk.old hkk.le ?_);simp [packA,←hN,hR e7]
      ·refine sX ?_;simp only [AU, ↓reduceIte];repeat (first|simp|refine sR ?_)
       have:k=L.length:=by omega
       subst this;refine sT (sG hbox htok hkk.old hkk.le ?_);simp [packA,←hN,hok]
instance:Inhabited ET:=⟨⟨eB,0,0,0,0,0,0⟩⟩
def Ty.ed (t:Ty) (i:Nat):ET:=t.edges.getD i default
theorem ed_at {t:Ty} {i:Nat} (h:i<t.edges.length):t.ed i=t.edges[i]:=by simp [Ty.ed,h]
def anyE (l:List ET) (s:ByteArray):Bool:=anyB (fun y=>decide (y.name=s)) l
theorem anyE_iff {l:List ET} {s:ByteArray}:anyE l s=true↔∃ x∈l,x.name=s:=by simp [anyE,anyB]
theorem anyE_more {l:List ET} {i:Nat} {s:ByteArray} (hi:i<l.length) (h:anyE (l.take i) s=false) (hne:l[i].name≠s):anyE (l.take (i+1)) s=false:=by
 rw [←Bool.not_eq_true,anyE_iff] at h ⊢;rintro ⟨x,hx,he⟩;rw [List.take_succ_eq_append_getElem hi,List.mem_append,List.mem_singleton] at hx;rcases hx with hx|hx
 ·exact h ⟨x,hx,he⟩
 ·exact hne (by rw [←hx]; exact he)
theorem anyE_hit {l:List ET} {k i:Nat} {s:ByteArray} (hk:k<l.length) (hki:k<i) (he:l[k].name=s):anyE (l.take i) s=true :=
 anyE_iff.2 ⟨l[k],by rw [List.mem_take_iff_getElem]; exact ⟨k,by omega,rfl⟩,he⟩
def edR (t:Ty) (x:ET):Int:=if insB t x.fr=false then 6 else if insB t x.to=false then 6 else if bndB x.ol x.oh=false then 6 else if bndB x.il x.ih=false then 6 else 0
def edgE (t:Ty) (i:Nat):Int :=
 if nameB (t.ed i).name=false then 2 else if anyE (t.edges.take i) (t.ed i).name=true then 5 else edR t (t.ed i)
set_option maxRecDepth 100000 in
theorem edge_c (t:Ty) (ht:t.Fit) (i:Nat) (hi:i<t.edges.length) (tok:Tks) (nt:Nat):DCall Tryz.prog 134 [t.av,I i] tok nt (I (edgE t i)) tok nt:=by
 intro box nb;have hnd:=ed_at hi;have hmem:=List.getElem_mem hi;have hte:=ht.e;have h1:=isName_c (t.ed i).name (by rw [hnd]; exact Nat.le_trans (ht.en _ hmem) (by decide));obtain ⟨N,hN⟩:∃ N,edgE t i=N:=⟨_,rfl⟩
 rw [hN];unfold edgE at hN;rw [hnd] at h1 hN;cases e1:nameB t.edges[i].name
 ·rw [e1] at h1 hN;rw [if_pos rfl] at hN;refine sI Tryz.func134 Tryz.ntmps134 fun hbox htok=>?_
  repeat (first|simp [hi]|refine sR ?_)
  refine Stop.of_d (h1 _ _) ?_;repeat (first|simp|refine sR ?_)
  refine sC ?_;repeat (first|simp|refine sR ?_)
  refine sT (sH hbox htok ?_);simp [packA,←hN]
 ·rw [e1] at h1 hN;rw [if_neg (by simp)] at hN;unfold anyE at hN;obtain ⟨p,hpp⟩:∃ p:ET→Bool,(fun y=>decide (y.name=t.edges[i].name))=p:=⟨_,rfl⟩
  have h2:=fun y box nb k (hbk:box k=some [(t.edges[i]'hi).row])=>edge2_c (t.edges[i]'hi) y box nb k tok nt hbk
  have hpy:∀ y:ET,decide (y.name=t.edges[i].name)=p y:=fun y=>by rw [←hpp]
  simp only [hpy] at h2;rw [hpp] at hN;refine sI Tryz.func134 Tryz.ntmps134 fun hbox htok=>?_
  repeat (first|simp [hi]|refine sR ?_)
  refine Stop.of_d (h1 _ _) ?_;repeat (first|simp [hi]|refine sR ?_|refine sC ?_)
  try refine ⟨by omega,?_⟩
  have hcf:=fun (b:Bxs) nb' h3 h4=>containsFuncE2_c (t.edges.take i) 216 [.ptr (nb+5) 0 0] p (by simp; have:=ht.e; omega) b nb' tok nt h3 h4
  rw [show ets (t.edges.take i)=.sl 7 (List.take i (t.edges.map ET.cells)) by rw [ets,List.map_take]] at hcf;refine Stop.of_b (hcf _ _ (fun c hc=>by rw [List.mem_singleton.1 hc]; simp [lb_at]) (fun y hy box' nb' he=>h2 y box' nb' _ (he _ _ (by simp [lb_at])))) ?_;simp;cases e2:anyB p (t.edges.take i)
  ·rw [e2,if_neg (by simp)] at hN;unfold edR at hN;have b1:=bounded_c t.edges[i].ol t.edges[i].oh;have b2:=bounded_c t.edges[i].il t.edges[i].ih;refine sC ?_;repeat (first|simp|refine sR ?_)
   refine Stop.of_b (edge1_c t t.edges[i].fr _ _ (nb+2) _ _ (by simp [lb_at])) ?_;simp;cases g1:insB t t.edges[i].fr
   ·rw [g1,if_pos rfl] at hN;repeat (first|simp|refine sR ?_)
    refine sC ?_;repeat (first|simp|refine sR ?_)
    refine sC ?_;repeat (first|simp|refine sR ?_)
    refine sT (sH hbox htok ?_);simp [packA,←hN]
   ·rw [g1,if_neg (by simp)] at hN;repeat (first|simp|refine sR ?_)
    refine Stop.of_b (edge1_c t t.edges[i].to _ _ (nb+2) _ _ (by simp [lb_at])) ?_;simp;cases g2:insB t t.edges[i].to
    ·rw [g2,if_pos rfl] at hN;repeat (first|simp|refine sR ?_)
     refine sC ?_;repeat (first|simp|refine sR ?_)
     refine sC ?_;repeat (first|simp|refine sR ?_)
     refine sT (sH hbox htok ?_);simp [packA,←hN]
    ·rw [g2,if_neg (by simp)] at hN;repeat (first|simp|refine sR ?_)
     refine sC ?_;repeat (first|simp|refine sR ?_)
     refine Stop.of_d (b1 _ _) ?_;simp;cases g3:bndB t.edges[i].ol t.edges[i].oh
     ·rw [g3,if_pos rfl] at hN;repeat (first|simp|refine sR ?_)
      refine sC ?_;repeat (first|simp|refine sR ?_)
      refine sT (sH hbox htok ?_);simp [packA,←hN]
     ·rw [g3,if_neg (by simp)] at hN;repeat (first|simp|refine sR ?_)
      refine Stop.of_d (b2 _ _) ?_;simp;cases g4:bndB t.edges[i].il t.edges[i].ih
      ·rw [g4,if_pos rfl] at hN;repeat (first|simp|refine sR ?_)
       refine sC ?_;repeat (first|simp|refine sR ?_)
       refine sT (sH hbox htok ?_);simp [packA,←hN]
      ·rw [g4,if_neg (by simp)] at hN;repeat (first|simp|refine sR ?_)
       refine sC ?_;repeat (first|simp|refine sR ?_)
       refine sT (sH hbox htok ?_);simp [packA,←hN]
  ·rw [e2,if_pos rfl] at hN;refine sC ?_;repeat (first|simp|refine sR ?_)
   refine sT (sH hbox htok ?_);simp [packA,←hN]
theorem xx:True:=trivial
def stEr (t:Ty) (i:Nat) (x:ET) (nb:Nat) (box:Bxs) (tok:Tks) (nt:Nat) (k:Nat):AState:=⟨tl [(6,I k),(5,.ptr (nb+5) 0 0),(2,.ptr (nb+2) 0 0),(1,I i)],lb nb box [(5,[x.row]),(2,[[.d (nts t.nodes),.d (ets t.edges)]])],tok,nt⟩
theorem edge04_c (t:Ty) (ht:t.Fit) (i:Nat) (hi:i<t.edges.length) (tok:Tks) (nt:Nat):DCall Tryz.prog 140 [t.av,I i] tok nt (I (edgE t i)) tok nt:=by
 intro box nb;have hnd:=ed_at hi;have hmem:=List.getElem_mem hi;have hte:=ht.e;have htn:=ht.n;have h1:=isName01_c (t.ed i).name (by rw [hnd]; exact Nat.le_trans (ht.en _ hmem) (by decide));obtain ⟨N,hN⟩:∃ N,edgE t i=N:=⟨_,rfl⟩
 rw [hN];unfold edgE at hN;rw [hnd] at h1 hN;have i1:=in04_c t.edges[i].fr 0 ((t.nodes.length:Int) - 1);have i2:=in04_c t.edges[i].to 0 ((t.nodes.length:Int) - 1);have b1:=bound04_c t.edges[i].ol t.edges[i].oh;have b2:=bound04_c t.edges[i].il t.edges[i].ih;have hins:∀ n:Int,inZ n 0 ((t.nodes.length:Int) - 1)=insB t n:=fun n=>by simp only [inZ,insB]; congr 1; simp only [eq_iff_iff]; omega
 rw [hins] at i1 i2;have hw0:IntKind.i64.wrap ((t.nodes.length:Int) - 1)=(t.nodes.length:Int) - 1:=by rw [wrap_in (by omega) (by omega)]
 cases e1:nameB t.edges[i].name
 ·rw [e1] at h1 hN;rw [if_pos rfl] at hN;refine sI Tryz.func140 Tryz.ntmps140 fun hbox htok=>?_
  repeat (first|simp [hi]|refine sR ?_)
  refine Stop.of_d (h1 _ _) ?_;repeat (first|simp|refine sR ?_)
  refine sC ?_;repeat (first|simp|refine sR ?_)
  refine sT (sH hbox htok ?_);simp [packA,←hN]
 ·rw [e1] at h1 hN;rw [if_neg (by simp)] at hN;refine sI Tryz.func140 Tryz.ntmps140 fun hbox htok=>?_
  repeat (first|simp [hi]|refine sR ?_)
  refine Stop.of_d (h1 _ _) ?_;repeat (first|simp|refine sR ?_)
  refine sC ?_;repeat (first|simp|refine sR ?_)
  refine sN ?_;refine AL.loopT (stEr t i t.edges[i] nb box tok nt) (fun k=>k≤i∧anyE (t.edges.take k) t.edges[i].name=false) (fun k=>i - k) 0 ⟨Nat.zero_le _,rfl⟩ wkA ?_;rintro k S' ⟨hk,hm⟩ hS;simp only [stEr] at hS;subst hS;have hwk:=sW (i:=k) (by omega);repeat (first|simp|refine sR ?_|refine sC ?_)
  refine ⟨fun hlk=>?_,fun hge=>?_⟩
  ·have hkl:k<t.edges.length:=by omega
   by_cases e2:t.edges[k].name=t.edges[i].name
   ·have b2:(t.edges[k].name.toList==t.edges[i].name.toList)=true:=by rw [seq_dec]; simp [e2]
    rw [if_pos (anyE_hit hkl hlk e2)] at hN;repeat (first|simp [hi,hkl,b2]|refine sR ?_)
    refine sC ?_;simp [b2];repeat (first|simp|refine sR ?_)
    refine sT (sH hbox htok ?_);simp [packA,←hN]
   ·have b2:(t.edges[k].name.toList==t.edges[i].name.toList)=false:=by rw [seq_dec]; simp [e2]
    repeat (first|simp [hi,hkl,b2]|refine sR ?_)
    refine sC ?_;simp [b2];repeat (first|simp [hwk]|refine sR ?_)
    refine sE ?_;exact ⟨k+1,⟨hlk,anyE_more hkl hm e2⟩,by omega,wkA⟩
  ·refine sX ?_;simp only [AU, ↓reduceIte];have:k=i:=by omega
   subst this;rw [hm,if_neg (by simp)] at hN;unfold edR at hN;repeat (first|simp [hi,hw0]|refine sR ?_)
   refine Stop.of_d (i1 _ _) ?_;simp;cases g1:insB t t.edges[k].fr
   ·rw [g1,if_pos rfl] at hN;repeat (first|simp|refine sR ?_)
    refine sC ?_;repeat (first|simp|refine sR ?_)
    refine sT (sH hbox htok ?_);simp [packA,←hN]
   ·rw [g1,if_neg (by simp)] at hN;repeat (first|simp|refine sR ?_)
    refine Stop.of_d (i2 _ _) ?_;simp;cases g2:insB t t.edges[k].to
    ·rw [g2,if_pos rfl] at hN;repeat (first|simp|refine sR ?_)
     refine sC ?_;repeat (first|simp|refine sR ?_)
     refine sT (sH hbox htok ?_);simp [packA,←hN]
    ·rw [g2,if_neg (by simp)] at hN;repeat (first|simp|refine sR ?_)
     refine Stop.of_d (b1 _ _) ?_;simp;cases g3:bndB t.edges[k].ol t.edges[k].oh
     ·rw [g3,if_pos rfl] at hN;repeat (first|simp|refine sR ?_)
      refine sC ?_;repeat (first|simp|refine sR ?_)
      refine sT (sH hbox htok ?_);simp [packA,←hN]
     ·rw [g3,if_neg (by simp)] at hN;repeat (first|simp|refine sR ?_)
      refine Stop.of_d (b2 _ _) ?_;simp;cases g4:bndB t.edges[k].il t.edges[k].ih
      ·rw [g4,if_pos rfl] at hN;repeat (first|simp|refine sR ?_)
       refine sC ?_;repeat (first|simp|refine sR ?_)
       refine sT (sH hbox htok ?_);simp [packA,←hN]
      ·rw [g4,if_neg (by simp)] at hN;repeat (first|simp|refine sR ?_)
       refine sC ?_;repeat (first|simp|refine sR ?_)
       refine sT (sH hbox htok ?_);simp [packA,←hN]
def firstN (f:Nat→Int) (g:Nat→ByteArray):Nat→ByteArray
 | 0=>eB
 | n+1=>if firstE f n=0 then (if f n=0 then eB else g n) else firstN f g n
theorem firstN_stop {f:Nat→Int} {g:Nat→ByteArray} {i:Nat} (h0:firstE f i=0) (h:f i≠0):∀ n,i<n→firstN f g n=g i
 | 0,hi=>absurd hi (Nat.not_lt_zero _)
 | n+1,hi=>by
  simp only [firstN];by_cases e:i=n
  ·subst e;rw [if_pos h0,if_neg h]
  ·have:=firstE_stop h0 h n (by omega)
   rw [if_neg (by rw [this]; exact h),firstN_stop h0 h n (by omega)]
theorem firstN_none {f:Nat→Int} {g:Nat→ByteArray}:∀ n,firstE f n=0→firstN f g n=eB
 | 0,_=>rfl
 | n+1,h=>by
  simp only [firstE] at h;split at h
  ·rename_i h1;rw [firstN,if_pos h1,if_pos h]
  ·rename_i h1;exact absurd h h1
def tyE (t:Ty):Int :=
 if t.nodes.length=0 then 7 else if 12<t.nodes.length then 3 else if 20<t.edges.length then 3
 else if firstE (nodE t) t.nodes.length≠0 then firstE (nodE t) t.nodes.length else firstE (edgE t) t.edges.length
def tyN (t:Ty):ByteArray :=
 if t.nodes.length=0 then eB else if 12<t.nodes.length then eB else if 20<t.edges.length then eB
 else if firstE (nodE t) t.nodes.length≠0 then firstN (nodE t) (fun i=>(t.nd i).name) t.nodes.length else firstN (edgE t) (fun i=>(t.ed i).name) t.edges.length
theorem nodE_par {t:Ty} {i:Nat} (h:nodE t i=0):(t.nd i).par<i:=by
 unfold nodE at h;split at h
 ·cases h
 ·split at h
  ·cases h
  ·split at h
   ·cases h
   ·omega
theorem firstE_allZ {f:Nat→Int}:∀ n,firstE f n=0→∀ i,i<n→f i=0
 | 0,_,i,hi=>absurd hi (Nat.not_lt_zero _)
 | n+1,h,i,hi=>by
  simp only [firstE] at h;split at h
  ·rename_i h1;by_cases e:i=n
   ·subst e; exact h
   ·exact firstE_allZ n h1 i (by omega)
  ·rename_i h1;exact absurd h h1
def stV4n (t:Ty) (nb:Nat) (box:Bxs) (tok:Tks) (nt:Nat) (i:Nat):AState:=⟨tl [(4,I i),(1,.ptr (nb+1) 0 0)],lb nb box [(1,[[.d (nts t.nodes),.d (ets t.edges)]])],tok,nt⟩
def stV4e (t:Ty) (nb:Nat) (box:Bxs) (tok:Tks) (nt:Nat) (i:Nat):AState:=⟨tl [(6,I i),(1,.ptr (nb+1) 0 0)],lb nb box [(1,[[.d (nts t.nodes),.d (ets t.edges)]])],tok,nt⟩
theorem valid04_c (t:Ty) (ht:t.Fit) (hM:∀ i,(t.nd i).own.length≤1000) (tok:Tks) (nt:Nat):DCall Tryz.prog 70 [t.av] tok nt (.tup [Sb (tyN t),I (tyE t)]) tok nt:=by
 intro box nb;have htn:=ht.n;have hte:=ht.e;obtain ⟨N,hN⟩:∃ N,tyE t=N:=⟨_,rfl⟩
 obtain ⟨Z,hZ⟩:∃ Z,tyN t=Z:=⟨_,rfl⟩
 rw [hN,hZ];unfold tyE at hN;unfold tyN at hZ;by_cases e1:t.nodes.length=0
 ·have e1':t.nodes=[]:=List.length_eq_zero_iff.1 e1
  rw [if_pos e1] at hN hZ;refine sI Tryz.func70 Tryz.ntmps70 fun hbox htok=>?_
  repeat (first|simp [e1']|refine sR ?_|refine sC ?_)
  refine sT (sH hbox htok ?_);simp [packA,←hN,←hZ]
 ·have e1':¬ t.nodes=[]:=fun h=>e1 (by rw [h]; rfl)
  rw [if_neg e1] at hN hZ;by_cases e2:12<t.nodes.length
  ·have e2':(12:Int)<t.nodes.length:=by omega
   rw [if_pos e2] at hN hZ;refine sI Tryz.func70 Tryz.ntmps70 fun hbox htok=>?_
   repeat (first|simp [e1',e2,e2']|refine sR ?_)
   refine sC ?_;simp [e1',e2,e2'];repeat (first|simp [e2,e2']|refine sR ?_|refine sC ?_)
   refine sT (sH hbox htok ?_);simp [packA,←hN,←hZ]
  ·have e2':¬ (12:Int)<t.nodes.length:=by omega
   rw [if_neg e2] at hN hZ;by_cases e3:20<t.edges.length
   ·have e3':(20:Int)<t.edges.length:=by omega
    rw [if_pos e3] at hN hZ;refine sI Tryz.func70 Tryz.ntmps70 fun hbox htok=>?_
    repeat (first|simp [e1',e2,e2',e3,e3']|refine sR ?_)
    refine sC ?_;simp [e1',e2,e2'];repeat (first|simp [e2,e2',e3,e3']|refine sR ?_|refine sC ?_)
    refine sT (sH hbox htok ?_);simp [packA,←hN,←hZ]
   ·have e3':¬ (20:Int)<t.edges.length:=by omega
    rw [if_neg e3] at hN hZ;refine sI Tryz.func70 Tryz.ntmps70 fun hbox htok=>?_
    repeat (first|simp [e1',e2,e2',e3,e3']|refine sR ?_)
    refine sC ?_;simp [e1',e2,e2'];repeat (first|simp [e2,e2',e3,e3']|refine sR ?_|refine sC ?_)
    refine sN ?_;refine AL.loopT (stV4n t nb box tok nt) (fun i=>i≤t.nodes.length∧firstE (nodE t) i=0) (fun i=>t.nodes.length - i) 0 ⟨Nat.zero_le _,rfl⟩ wkA ?_;rintro i S' ⟨hi,hok⟩ hS;simp only [stV4n] at hS;subst hS;have hw:=sW (i:=i) (by omega);repeat (first|simp|refine sR ?_|refine sC ?_)
    refine ⟨fun hlt=>?_,fun hge=>?_⟩
    ·have hc:=node04_c t ht hM i hlt (fun j hj=>nodE_par (firstE_allZ i hok j hj));have hR:nodE t i≠0→firstE (nodE t) t.nodes.length=nodE t i:=fun h0=>firstE_stop hok h0 _ hlt
     have hR2:nodE t i≠0→firstN (nodE t) (fun i=>(t.nd i).name) t.nodes.length=t.nodes[i].name:=fun h0=>by rw [firstN_stop hok h0 _ hlt,nd_at hlt]
     have hnx:nodE t i=0→firstE (nodE t) (i+1)=0:=fun h0=>by simp only [firstE,hok,h0, ↓reduceIte]
     generalize nodE t i=E at *;repeat (first|simp [hlt]|refine sR ?_)
     refine Stop.of_d (hc _ _) ?_;repeat (first|simp|refine sR ?_)
     by_cases e7:E=0
     ·refine sC ?_;simp [e7];repeat (first|simp [hw]|refine sR ?_)
      refine sE ?_;exact ⟨i+1,⟨hlt,hnx e7⟩,by omega,wkA⟩
     ·have b7:(E != 0)=true:=by simp [e7]
      rw [hR e7,if_pos e7] at hN hZ;rw [hR2 e7] at hZ;refine sC ?_;simp [e7,b7];repeat (first|simp [hlt]|refine sR ?_)
      refine sT (sH hbox htok ?_);simp [packA,←hN,←hZ]
    ·refine sX ?_;simp only [AU, ↓reduceIte];have:i=t.nodes.length:=by omega
     subst this;rw [if_neg (by rw [hok]; simp)] at hN hZ;repeat (first|simp|refine sR ?_)
     refine sN ?_;refine AL.loopT (stV4e t nb box tok nt) (fun i=>i≤t.edges.length∧firstE (edgE t) i=0) (fun i=>t.edges.length - i) 0 ⟨Nat.zero_le _,rfl⟩ wkA ?_;rintro i S' ⟨hi,hok2⟩ hS;simp only [stV4e] at hS;subst hS;have hw:=sW (i:=i) (by omega);repeat (first|simp|refine sR ?_|refine sC ?_)
     refine ⟨fun hlt=>?_,fun hge=>?_⟩
     ·have hc:=edge04_c t ht i hlt;have hR:edgE t i≠0→firstE (edgE t) t.edges.length=edgE t i:=fun h0=>firstE_stop hok2 h0 _ hlt
      have hR2:edgE t i≠0→firstN (edgE t) (fun i=>(t.ed i).name) t.edges.length=t.edges[i].name:=fun h0=>by rw [firstN_stop hok2 h0 _ hlt,ed_at hlt]
      have hnx:edgE t i=0→firstE (edgE t) (i+1)=0:=fun h0=>by simp only [firstE,hok2,h0, ↓reduceIte]
      generalize edgE t i=E at *;repeat (first|simp [hlt]|refine sR ?_)
      refine Stop.of_d (hc _ _) ?_;repeat (first|simp|refine sR ?_)
      by_cases e7:E=0
      ·refine sC ?_;simp [e7];repeat (first|simp [hw]|refine sR ?_)
       refine sE ?_;exact ⟨i+1,⟨hlt,hnx e7⟩,by omega,wkA⟩
      ·have b7:(E != 0)=true:=by simp [e7]
       rw [hR e7] at hN;rw [hR2 e7] at hZ;refine sC ?_;simp [e7,b7];repeat (first|simp [hlt]|refine sR ?_)
       refine sT (sH hbox htok ?_);simp [packA,←hN,←hZ]
     ·refine sX ?_;simp only [AU, ↓reduceIte];have:i=t.edges.length:=by omega
      subst this;rw [hok2] at hN;rw [firstN_none _ hok2] at hZ;repeat (first|simp|refine sR ?_)
      refine sT (sH hbox htok ?_);simp [packA,←hN,←hZ]
def stVn (t:Ty) (nb:Nat) (box:Bxs) (tok:Tks) (nt:Nat) (i:Nat):AState:=⟨tl [(29,I i),(28,I t.nodes.length),(27,.d (nts t.nodes)),(1,.ptr (nb+1) 0 0)],lb nb box [(1,[[.d (nts t.nodes),.d (ets t.edges)]])],tok,nt⟩
def stVe (t:Ty) (nb:Nat) (box:Bxs) (tok:Tks) (nt:Nat) (i:Nat):AState:=⟨tl [(46,I i),(45,I t.edges.length),(44,.d (ets t.edges)),(1,.ptr (nb+1) 0 0)],lb nb box [(1,[[.d (nts t.nodes),.d (ets t.edges)]])],tok,nt⟩
theorem valid_c4 (t:Ty) (ht:t.Fit) (hM:∀ i,(t.nd i).own.length≤1000) (tok:Tks) (nt:Nat):DCall Tryz.prog 66 [t.av] tok nt (.tup [Sb (tyN t),I (tyE t)]) tok nt:=by
 intro box nb;have htn:=ht.n;have hte:=ht.e;obtain ⟨N,hN⟩:∃ N,tyE t=N:=⟨_,rfl⟩
 obtain ⟨Z,hZ⟩:∃ Z,tyN t=Z:=⟨_,rfl⟩
 rw [hN,hZ];unfold tyE at hN;unfold tyN at hZ;by_cases e1:t.nodes.length=0
 ·have e1':t.nodes=[]:=List.length_eq_zero_iff.1 e1
  rw [if_pos e1] at hN hZ;refine sI Tryz.func66 Tryz.ntmps66 fun hbox htok=>?_
  repeat (first|simp [e1']|refine sR ?_|refine sC ?_)
  refine sT (sH hbox htok ?_);simp [packA,←hN,←hZ]
 ·have e1':¬ t.nodes=[]:=fun h=>e1 (by rw [h]; rfl)
  rw [if_neg e1] at hN hZ;by_cases e2:12<t.nodes.length
  ·have e2':(12:Int)<t.nodes.length:=by omega
   rw [if_pos e2] at hN hZ;refine sI Tryz.func66 Tryz.ntmps66 fun hbox htok=>?_
   repeat (first|simp [e1',e2,e2']|refine sR ?_)
   refine sC ?_;simp [e1',e2,e2'];repeat (first|simp [e2,e2']|refine sR ?_|refine sC ?_)
   refine sT (sH hbox htok ?_);simp [packA,←hN,←hZ]
  ·have e2':¬ (12:Int)<t.nodes.length:=by omega
   rw [if_neg e2] at hN hZ;by_cases e3:20<t.edges.length
   ·have e3':(20:Int)<t.edges.length:=by omega
    rw [if_pos e3] at hN hZ;refine sI Tryz.func66 Tryz.ntmps66 fun hbox htok=>?_
    repeat (first|simp [e1',e2,e2',e3,e3']|refine sR ?_)
    refine sC ?_;simp [e1',e2,e2'];repeat (first|simp [e2,e2',e3,e3']|refine sR ?_|refine sC ?_)
    refine sT (sH hbox htok ?_);simp [packA,←hN,←hZ]
   ·have e3':¬ (20:Int)<t.edges.length:=by omega
    rw [if_neg e3] at hN hZ;refine sI Tryz.func66 Tryz.ntmps66 fun hbox htok=>?_
    repeat (first|simp [e1',e2,e2',e3,e3']|refine sR ?_)
    refine sC ?_;simp [e1',e2,e2'];repeat (first|simp [e2,e2',e3,e3']|refine sR ?_|refine sC ?_)
    refine sN ?_;refine AL.loopT (stVn t nb box tok nt) (fun i=>i≤t.nodes.length∧firstE (nodE t) i=0) (fun i=>t.nodes.length - i) 0 ⟨Nat.zero_le _,rfl⟩ wkA ?_;rintro i S' ⟨hi,hok⟩ hS;simp only [stVn] at hS;subst hS;have hw:=sW (i:=i) (by omega);repeat (first|simp|refine sR ?_|refine sC ?_)
    refine ⟨fun hlt=>?_,fun hge=>?_⟩
    ·have hc:=node_c t ht hM i hlt (fun j hj=>nodE_par (firstE_allZ i hok j hj));have hR:nodE t i≠0→firstE (nodE t) t.nodes.length=nodE t i:=fun h0=>firstE_stop hok h0 _ hlt
     have hR2:nodE t i≠0→firstN (nodE t) (fun i=>(t.nd i).name) t.nodes.length=t.nodes[i].name:=fun h0=>by rw [firstN_stop hok h0 _ hlt,nd_at hlt]
     have hnx:nodE t i=0→firstE (nodE t) (i+1)=0:=fun h0=>by simp only [firstE,hok,h0, ↓reduceIte]
     generalize nodE t i=E at *;repeat (first|simp [hlt]|refine sR ?_)
     refine Stop.of_d (hc _ _) ?_;repeat (first|simp|refine sR ?_)
     by_cases e7:E=0
     ·refine sC ?_;simp [e7];repeat (first|simp [hw]|refine sR ?_)
      refine sE ?_;exact ⟨i+1,⟨hlt,hnx e7⟩,by omega,wkA⟩
     ·have b7:(E != 0)=true:=by simp [e7]
      rw [hR e7,if_pos e7] at hN hZ;rw [hR2 e7] at hZ;refine sC ?_;simp [e7,b7];repeat (first|simp [hlt]|refine sR ?_)
      refine sT (sH hbox htok ?_);simp [packA,←hN,←hZ]
    ·refine sX ?_;simp only [AU, ↓reduceIte];have:i=t.nodes.length:=by omega
     subst this;rw [if_neg (by rw [hok]; simp)] at hN hZ;repeat (first|simp|refine sR ?_)
     refine sN ?_;refine AL.loopT (stVe t nb box tok nt) (fun i=>i≤t.edges.length∧firstE (edgE t) i=0) (fun i=>t.edges.length - i) 0 ⟨Nat.zero_le _,rfl⟩ wkA ?_;rintro i S' ⟨hi,hok2⟩ hS;simp only [stVe] at hS;subst hS;have hw:=sW (i:=i) (by omega);repeat (first|simp|refine sR ?_|refine sC ?_)
     refine ⟨fun hlt=>?_,fun hge=>?_⟩
     ·have hc:=edge_c t ht i hlt;have hR:edgE t i≠0→firstE (edgE t) t.edges.length=edgE t i:=fun h0=>firstE_stop hok2 h0 _ hlt
      have hR2:edgE t i≠0→firstN (edgE t) (fun i=>(t.ed i).name) t.edges.length=t.edges[i].name:=fun h0=>by rw [firstN_stop hok2 h0 _ hlt,ed_at hlt]
      have hnx:edgE t i=0→firstE (edgE t) (i+1)=0:=fun h0=>by simp only [firstE,hok2,h0, ↓reduceIte]
      generalize edgE t i=E at *;repeat (first|simp [hlt]|refine sR ?_)
      refine Stop.of_d (hc _ _) ?_;repeat (first|simp|refine sR ?_)
      by_cases e7:E=0
      ·refine sC ?_;simp [e7];repeat (first|simp [hw]|refine sR ?_)
       refine sE ?_;exact ⟨i+1,⟨hlt,hnx e7⟩,by omega,wkA⟩
      ·have b7:(E != 0)=true:=by simp [e7]
       rw [hR e7] at hN;rw [hR2 e7] at hZ;refine sC ?_;simp [e7,b7];repeat (first|simp [hlt]|refine sR ?_)
       refine sT (sH hbox htok ?_);simp [packA,←hN,←hZ]
     ·refine sX ?_;simp only [AU, ↓reduceIte];have:i=t.edges.length:=by omega
      subst this;rw [hok2] at hN;rw [firstN_none _ hok2] at hZ;repeat (first|simp|refine sR ?_)
      refine sT (sH hbox htok ?_);simp [packA,←hN,←hZ]
def rowsB (bs:List Bool):List (List AV):=bs.map fun b=>[AV.d (.raw (.bool b))]
theorem rowsB_eq (bs:List Bool):rowsB bs=rowsD (bs.map fun b=>[D.raw (.bool b)]):=by simp [rowsB,rowsD]
@[simp] theorem set_rB (bs:List Bool) (i:Nat) (v:Bool):(rowsB bs).set i [AV.d (.raw (.bool v))]=rowsB (bs.set i v):=by simp [rowsB,List.map_set]
@[simp] theorem rowsB_length (bs:List Bool):(rowsB bs).length=bs.length:=by simp [rowsB]
@[simp high] theorem rowsB_get {bs:List Bool} {i:Nat} (h:i<bs.length):(rowsB bs)[i]?=some [AV.d (.raw (.bool bs[i]))]:=by simp [rowsB,h]
@[simp] theorem rowsTo_B {p q:Nat→Prop} {fz:Option (Nat × Nat × List (List D))} (bs:List Bool):RowsTo p q fz (rowsB bs) (rowsB bs):=by rw [rowsB_eq]; simp
def pickN (ns:List Int) (js:List Int) (i:Nat):List Int:=(js.take i).map fun j=>ns.getD j.toNat 0
@[simp] theorem pickN_len (l h:List Int) (i:Nat):(pickN l h i).length=min i h.length:=by simp [pickN]
def pickE (es:List E) (ns js:List Int) (i:Nat):List E:=(js.take i).map fun j=>⟨(es.getD j.toNat default).ty,indexI ns (es.getD j.toNat default).fr,indexI ns (es.getD j.toNat default).to⟩
@[simp] theorem pickE_len (l:List E) (ns h:List Int) (i:Nat):(pickE l ns h i).length=min i h.length:=by simp [pickE]
def rkK (ns:List Int) (bit:Nat→Bool):Nat→List Int
 | 0=>[]
 | i+1=>if bit i=true then rkK ns bit i++[((chN ns bit i).1.length:Int)] else rkK ns bit i++[0]
def rkR (ns:List Int) (bit:Nat→Bool) (n i:Nat):List Int:=rkK ns bit i++List.replicate (n - i) 0
theorem rkK_len (ns:List Int) (bit:Nat→Bool):∀ i,(rkK ns bit i).length=i
 | 0=>rfl
 | i+1=>by
  simp only [rkK];split <;> simp [rkK_len ns bit i]
@[simp] theorem rkR_len (ns:List Int) (bit:Nat→Bool) {n i:Nat} (h:i≤n):(rkR ns bit n i).length=n:=by simp [rkR,rkK_len]; omega
def mrgK (l:List Int) (lo hi:Int) (i:Nat):List Int:=(l.take i).map fun k=>if k=hi then lo else k
@[simp] theorem mrgK_len (l:List Int) (lo hi:Int) (i:Nat):(mrgK l lo hi i).length=min i l.length:=by simp [mrgK]
def preK (l:List Int) (i:Nat):List Int:=l.take i
@[simp] theorem preK_len (l:List Int) (i:Nat):(preK l i).length=min i l.length:=by simp [preK]
end Go.AM
namespace Go.Proofs
open Go.Shelf
end Go.Proofs
namespace Go.AM
open Go Go.Proofs Go.RowKit Go.Lib
def backL (l:List Int) (n:Nat):List Int:=(List.range n).map fun (k:Nat)=>indexI l (k:Int)
end Go.AM
