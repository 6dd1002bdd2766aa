/-
 Parts of the proof, as merged from many texts: a machine over data, what the functions compute, plain laws.
-/
import Derived.Test.YtebmobphgaiaiaaGreatPCP10
import Derived.Deep.AppendLies
set_option linter.unusedSimpArgs false
set_option linter.unusedVariables false
namespace Go.AM
open Go Go.Proofs
theorem ascL_succ (l:List Int) (n:Nat):ascL l (n+1)=if (n:Int)∈l then ascL l n++[(n:Int)] else ascL l n:=by
 unfold ascL;rw [List.range_succ,List.filter_append,List.map_append];by_cases h:(n:Int)∈l <;> simp [h]
theorem ascL_zero (l:List Int):ascL l 0=[]:=rfl
theorem ascL_len {l:List Int} (hn:l.Nodup) (n:Nat):(ascL l n).length≤l.length :=
 nodup_le (ascL l n) l (nodup_of_lt (pw_getD (ascL_pw l n))) fun x hx=>(ascL_mem.1 hx).1
theorem ascL_full {l:List Int} {N n:Nat} (hn:l.Nodup) (hr:∀ x∈l,0≤x∧x<N) (h:l.length≤(ascL l n).length):ascL l n=ascL l N:=by
 have hd:=nodup_of_lt (pw_getD (ascL_pw l n));have key:∀ x∈l,x∈ascL l n:=fun x hx=>Classical.byContradiction fun hx2=>by
  have:=nodup_le (x::ascL l n) l (List.nodup_cons.2 ⟨hx2,hd⟩) fun y hy=>by
   rcases List.mem_cons.1 hy with rfl|hy
   ·exact hx
   ·exact (ascL_mem.1 hy).1
  simp only [List.length_cons] at this;omega
 refine pw_ext (ascL_pw _ _) (ascL_pw _ _) fun x=>⟨fun hx=>?_,fun hx=>key x (ascL_mem.1 hx).1⟩
 have:=(ascL_mem.1 hx).1
 exact ascL_mem.2 ⟨this,hr x this⟩
theorem ascL_more {l:List Int} {N n:Nat} (hn:l.Nodup) (hr:∀ x∈l,0≤x∧x<N) (h:(ascL l n).length<l.length):n<N:=Classical.byContradiction fun h2=>by
 have e:∀ x∈l,x∈ascL l n:=fun x hx=>ascL_mem.2 ⟨hx,by have:=hr x hx; omega⟩
 have:=nodup_le l (ascL l n) hn e
 omega
theorem not_take {l:List Int} (hn:l.Nodup) {k:Nat} (h:k<l.length):l[k]∉l.take k:=fun hm=>by
 obtain ⟨j,hj,e⟩:=List.getElem_of_mem hm;rw [List.getElem_take] at e;have hj':j<k:=by simp at hj; omega
 have:=List.pairwise_iff_getElem.1 hn j k (by omega) h hj'
 exact this e
def stAc (l:List Int) (nb:Nat) (box:Bxs) (x:Acc):AState:=⟨tl [(0,.d (ints l)),(3,.osl 1 (rI (ascL l x.i)) x.own),(4,I x.i)],lb nb box [],x.tok,x.nt⟩
def stAc2 (l:List Int) (n:Nat) (nb:Nat) (box:Bxs) (x:Acc):AState:=⟨tl [(0,.d (ints l)),(3,.osl 1 (rI (ascL l n++if (n:Int)∈l.take x.i then [(n:Int)] else [])) x.own),(4,I n),(5,I x.i)],lb nb box [],x.tok,x.nt⟩
theorem ascending34_c (l:List Int) (N:Nat) (hl:l.length≤1000000) (hN:N≤1000000) (hn:l.Nodup) (hr:∀ x∈l,0≤x∧x<N) (tok:Tks) (nt:Nat):DCall Tryz.prog 155 [.d (ints l)] tok nt (.d (ints (ascL l N))) tok nt:=by
 intro box nb;refine sI Tryz.func155 Tryz.ntmps155 fun hbox htok=>?_
 repeat (first|simp|refine sR ?_)
 refine sN ?_;refine AL.loopT (stAc l nb box) (fun x=>x.i≤N∧TK tok nt x.tok x.nt [x.own]) (fun x=>N - x.i) ⟨0,.full,tok,nt⟩ ⟨Nat.zero_le _,(TK.start htok).full⟩ (Weaks.mk (Nat.le_refl _) rfl (by simp [ToL,lk,ascL_zero]) trivial) ?_;rintro ⟨i,own,tok',nt'⟩ S ⟨hi,htk⟩ hS;simp only [stAc] at hS hi htk;subst hS;have hw:=sW (i:=i) (by omega);have hlen:=ascL_len hn i;have hsc:=ascL_succ l i;have hful:=ascL_full (n:=i) hn hr;have hmor:=ascL_more (n:=i) hn hr;repeat (first|simp|refine sR ?_|refine sC ?_)
 refine ⟨fun hlt=>?_,fun hge=>?_⟩
 ·have hiN:=hmor (by omega);have hacc:∀ k,((ascL l i++if (i:Int)∈l.take k then [(i:Int)] else []:List Int)).length≤1000001:=fun k=>by
   rw [List.length_append];split <;> simp <;> omega
  repeat (first|simp|refine sR ?_)
  refine sN ?_;refine AL.loopT (stAc2 l i nb box) (fun x=>x.i≤l.length∧TK tok nt x.tok x.nt [x.own]) (fun x=>l.length - x.i) ⟨0,own,tok',nt'⟩ ⟨Nat.zero_le _,htk⟩ (Weaks.mk htk.le rfl (by simp [ToL,lk]) trivial) ?_;rintro ⟨k,own2,tok2,nt2⟩ S ⟨hk,htk2⟩ hS;simp only [stAc2] at hS hk htk2;subst hS;have hwk:=sW (i:=k) (by omega);have hak:=hacc k;obtain ⟨R,hR⟩:∃ R,(ascL l i++if (i:Int)∈l.take k then [(i:Int)] else []:List Int)=R:=⟨_,rfl⟩
  rw [hR] at hak ⊢;repeat (first|simp|refine sR ?_|refine sC ?_)
  refine ⟨fun hlk=>?_,fun hge=>?_⟩
  ·have hmem:∀ x:Int,x∈l.take (k+1)↔x∈l.take k∨x=l[k]:=fun x=>by rw [←List.take_append_getElem hlk,List.mem_append,List.mem_singleton]
   have hnot:l[k]∉l.take k:=not_take hn hlk
   by_cases e:l[k]=(i:Int)
   ·have b:(l[k]==(i:Int))=true:=by simp [e]
    have hR2:(ascL l i++if (i:Int)∈l.take (k+1) then [(i:Int)] else []:List Int)=R++[(i:Int)]:=by
     rw [←hR,if_pos ((hmem _).2 (.inr e.symm)),if_neg (by rw [←e]; exact hnot),List.append_nil]
    repeat (first|simp [hlk,b]|refine sR ?_)
    refine sC ?_;repeat (first|simp|refine sR ?_)
    refine ⟨⟨by omega,htk2.live⟩,?_⟩;repeat (first|simp [hwk]|refine sR ?_)
    refine sE ?_;exact ⟨⟨k+1,_,_,_⟩,⟨hlk,htk2.app⟩,by simp only; omega,Weaks.mk htk2.app.le rfl (by simp only [hR2]; simp [ToL,lk]) trivial⟩
   ·have b:(l[k]==(i:Int))=false:=by simp [e]
    have hR2:(ascL l i++if (i:Int)∈l.take (k+1) then [(i:Int)] else []:List Int)=R:=by
     rw [←hR];congr 2
     rw [hmem,eq_iff_iff];exact ⟨fun h=>h.resolve_right fun h=>e h.symm,.inl⟩
    repeat (first|simp [hlk,b]|refine sR ?_)
    refine sC ?_;simp;repeat (first|simp [hwk]|refine sR ?_)
    refine sE ?_;exact ⟨⟨k+1,own2,tok2,nt2⟩,⟨hlk,htk2⟩,by simp only; omega,Weaks.mk htk2.le rfl (by simp only [hR2]; simp [ToL,lk]) trivial⟩
  ·refine sX ?_;simp only [AU, ↓reduceIte];have:k=l.length:=by omega
   subst this;rw [List.take_length] at hR;have hR2:ascL l (i+1)=R:=by
    rw [hsc,←hR];split <;> simp
   repeat (first|simp [hw]|refine sR ?_)
   refine sE ?_;exact ⟨⟨i+1,own2,tok2,nt2⟩,⟨hiN,htk2⟩,by simp only; omega,Weaks.mk htk2.le rfl (by simp only [hR2]; simp [ToL,lk]) trivial⟩
 ·have hful:=hful (by omega);refine sX ?_;simp only [AU, ↓reduceIte];repeat (first|simp|refine sR ?_)
  refine sT (sG hbox htok htk.old htk.le ?_);simp [packA,hful]
def stLe (places from' to':List Int) (nb:Nat) (box:Bxs) (x:Acc):AState:=⟨tl [(0,.d (ints places)),(1,.d (ints from')),(2,.d (ints to')),(7,.osl 1 (rI (byK (places.map (indexI from')) to' x.i)) x.own),(8,I x.i)],lb nb box [],x.tok,x.nt⟩
def stLe2 (places from' to' Q:List Int) (i:Nat) (p:Int) (nb:Nat) (box:Bxs) (x:Acc):AState :=
 ⟨tl [(0,.d (ints places)),(1,.d (ints from')),(2,.d (ints to')),(7,.osl 1 (rI (Q++if p∈from'.take x.i then [to'.getD (indexI from' p).toNat 0] else [])) x.own),(8,I i),(9,I x.i)],lb nb box [],x.tok,x.nt⟩
theorem led34_c (places from' to':List Int) (h1:places.length≤1000000) (h2:from'.length≤1000000) (hn:from'.Nodup) (hs:∀ x∈places,x∈from') (hk:from'.length≤to'.length) (tok:Tks) (nt:Nat) :
  DCall Tryz.prog 219 [.d (ints places),.d (ints from'),.d (ints to')] tok nt (.d (ints (byK (places.map (indexI from')) to' (places.map (indexI from')).length))) tok nt:=by
 intro box nb;have hlenP:∀ i,(byK (places.map (indexI from')) to' i).length≤i:=fun i=>by simp [byK]; omega
 refine sI Tryz.func219 Tryz.ntmps219 fun hbox htok=>?_
 repeat (first|simp|refine sR ?_)
 refine sN ?_;refine AL.loopT (stLe places from' to' nb box) (fun x=>x.i≤places.length∧TK tok nt x.tok x.nt [x.own]) (fun x=>places.length - x.i) ⟨0,.full,tok,nt⟩ ⟨Nat.zero_le _,(TK.start htok).full⟩ (Weaks.mk (Nat.le_refl _) rfl (by simp [ToL,lk,byK_zero]) trivial) ?_;rintro ⟨i,own,tok',nt'⟩ S ⟨hi,htk⟩ hS;simp only [stLe] at hS hi htk;subst hS;have hw:=sW (i:=i) (by omega);have hlen:=hlenP i;obtain ⟨Q,hQ⟩:∃ Q,byK (places.map (indexI from')) to' i=Q:=⟨_,rfl⟩
 rw [hQ] at hlen ⊢;repeat (first|simp|refine sR ?_|refine sC ?_)
 refine ⟨fun hlt=>?_,fun hge=>?_⟩
 ·have hsc:=byK_succ (places.map (indexI from')) to' (i:=i) (by simpa using hlt);rw [List.getElem_map,hQ] at hsc;obtain ⟨x0,x1⟩:=mem_indexI hs i hlt;have hix:=(indexI_in (hs _ (List.getElem_mem hlt))).2.2;repeat (first|simp|refine sR ?_)
  refine sN ?_;refine AL.loopT (stLe2 places from' to' Q i places[i] nb box) (fun x=>x.i≤from'.length∧TK tok nt x.tok x.nt [x.own]) (fun x=>from'.length - x.i) ⟨0,own,tok',nt'⟩ ⟨Nat.zero_le _,htk⟩ (Weaks.mk htk.le rfl (by simp [ToL,lk]) trivial) ?_;rintro ⟨k,own2,tok2,nt2⟩ S ⟨hk2,htk2⟩ hS;simp only [stLe2] at hS hk2 htk2;subst hS;have hwk:=sW (i:=k) (by omega);obtain ⟨R,hR⟩:∃ R,(Q++if places[i]∈from'.take k then [to'.getD (indexI from' places[i]).toNat 0] else []:List Int)=R:=⟨_,rfl⟩
  have hak:R.length≤1000001:=by
   rw [←hR,List.length_append];split <;> simp <;> omega
  rw [hR];repeat (first|simp|refine sR ?_|refine sC ?_)
  refine ⟨fun hlk=>?_,fun hge=>?_⟩
  ·have hmem:∀ x:Int,x∈from'.take (k+1)↔x∈from'.take k∨x=from'[k]:=fun x=>by rw [←List.take_append_getElem hlk,List.mem_append,List.mem_singleton]
   have hnot:from'[k]∉from'.take k:=not_take hn hlk
   by_cases e:from'[k]=places[i]
   ·have b:(from'[k]==places[i])=true:=by simp [e]
    have hidx:(indexI from' places[i]).toNat=k:=by
     have:=indexI_gd hn hlk
     have g:from'.getD k 0=from'[k]:=by simp [hlk]
     rw [g,e] at this;omega
    have hkt:k<to'.length:=by omega
    have hR2:(Q++if places[i]∈from'.take (k+1) then [to'.getD (indexI from' places[i]).toNat 0] else []:List Int)=R++[to'[k]]:=by
     rw [←hR,if_pos ((hmem _).2 (.inr e.symm)),if_neg (by rw [←e]; exact hnot),List.append_nil,hidx];simp [hkt]
    repeat (first|simp [hlt,hlk,b]|refine sR ?_)
    refine sC ?_;simp;repeat (first|simp [hkt]|refine sR ?_)
    refine ⟨⟨by omega,htk2.live⟩,?_⟩;repeat (first|simp [hwk]|refine sR ?_)
    refine sE ?_;exact ⟨⟨k+1,_,_,_⟩,⟨hlk,htk2.app⟩,by simp only; omega,Weaks.mk htk2.app.le rfl (by simp only [hR2]; simp [ToL,lk]) trivial⟩
   ·have b:(from'[k]==places[i])=false:=by simp [e]
    have hR2:(Q++if places[i]∈from'.take (k+1) then [to'.getD (indexI from' places[i]).toNat 0] else []:List Int)=R:=by
     rw [←hR];congr 2
     rw [hmem,eq_iff_iff];exact ⟨fun h=>h.resolve_right fun h=>e h.symm,.inl⟩
    repeat (first|simp [hlt,hlk,b]|refine sR ?_)
    refine sC ?_;simp;repeat (first|simp [hwk]|refine sR ?_)
    refine sE ?_;exact ⟨⟨k+1,own2,tok2,nt2⟩,⟨hlk,htk2⟩,by simp only; omega,Weaks.mk htk2.le rfl (by simp only [hR2]; simp [ToL,lk]) trivial⟩
  ·refine sX ?_;simp only [AU, ↓reduceIte];have:k=from'.length:=by omega
   subst this;rw [List.take_length,if_pos (hs _ (List.getElem_mem hlt))] at hR;rw [hR] at hsc;repeat (first|simp [hw]|refine sR ?_)
   refine sE ?_;exact ⟨⟨i+1,own2,tok2,nt2⟩,⟨hlt,htk2⟩,by simp only; omega,Weaks.mk htk2.le rfl (by simp only [hsc]; simp [ToL,lk]) trivial⟩
 ·refine sX ?_;simp only [AU, ↓reduceIte];have:i=places.length:=by omega
  subst this;repeat (first|simp|refine sR ?_)
  refine sT (sG hbox htok htk.old htk.le ?_);simp [packA,←hQ]
theorem false34_c (tok:Tks) (nt:Nat):DCall Tryz.prog 156 [] tok nt noC.av tok nt:=by
 intro box nb;have h:=true33_c;refine sI Tryz.func156 Tryz.ntmps156 fun hbox htok=>?_
 repeat (first|simp|refine sR ?_)
 refine Stop.of_d (h _ _) ?_;repeat (first|simp|refine sR ?_)
 refine sT (sH hbox htok ?_);simp [packA,noC,Cd.cells,Cd.rows,trueC,cdOf,Cd.kind,Cd.kids,Cd.m,Cd.g,Cd.sl,Cd.vars,Cd.te,conds,ints,AM.edges,slots,tests]
def Sp.ru (s:Sp):Ru:=⟨⟨#[]⟩,s.l,[],0,[],s.r,[],0,[],s.k,s.i,true,cdOf 0 []⟩
theorem of34_c (l r:Gr) (k i:Mo) (tok:Tks) (nt:Nat):DCall Tryz.prog 218 [l.av,r.av,k.av,i.av] tok nt (Sp.ru ⟨l,r,k,i⟩).av tok nt:=by
 intro box nb;refine sI Tryz.func218 Tryz.ntmps218 fun hbox htok=>?_
 repeat (first|simp|refine sR ?_)
 refine sT (sH hbox htok ?_);simp [packA,Sp.ru,cdOf,Cd.kind,Cd.kids,Cd.m,Cd.g,Cd.sl,Cd.vars,Cd.te,conds,ints,AM.edges,slots,tests]
set_option maxRecDepth 100000 in
theorem kept34_c (c l r:Gr) (z k:Mo) (hk:Emb c l k) (h1:k.nodes.length≤z.nodes.length) (h2:k.edges.length≤z.edges.length) (tok:Tks) (nt:Nat) :
  DCall Tryz.prog 159 [l.av,r.av,z.av,k.av] tok nt (Sp.ru ⟨l,r,imgP l k,thenM (liftM k (imgP l k)) z⟩).av tok nt:=by
 intro box nb;obtain ⟨fk,_,fl⟩:=hk.fit;have v:=hk.vm;have hg:=(validG_types v.vb).1;have a1:=ascending34_c k.nodes l.nodes.length fk.n (by omega) hk.n v.n;have a2:=ascending34_c k.edges l.edges.length fk.e (by omega) hk.e v.e;have hJ:=imgP_vp hk;have fJ:=hJ.emb.fit.1;have sJ:=imgP_sub (y:=l) (q:=k);have l1:=led34_c (imgP l k).nodes k.nodes z.nodes fJ.n fk.n hk.n sJ.1 h1;have l2:=led34_c (imgP l k).edges k.edges z.edges fJ.e fk.e hk.e sJ.2 h2;have e1:ascL k.nodes l.nodes.length=(imgP l k).nodes:=rfl
 have e2:ascL k.edges l.edges.length=(imgP l k).edges:=rfl
 rw [e1] at a1;rw [e2] at a2;have eT:thenM (liftM k (imgP l k)) z=⟨byK ((imgP l k).nodes.map (indexI k.nodes)) z.nodes ((imgP l k).nodes.map (indexI k.nodes)).length,byK ((imgP l k).edges.map (indexI k.edges)) z.edges ((imgP l k).edges.map (indexI k.edges)).length⟩:=rfl
 rw [eT];generalize byK ((imgP l k).nodes.map (indexI k.nodes)) z.nodes ((imgP l k).nodes.map (indexI k.nodes)).length=t1 at *;generalize byK ((imgP l k).edges.map (indexI k.edges)) z.edges ((imgP l k).edges.map (indexI k.edges)).length=t2 at *;have o:=of34_c l r (imgP l k) ⟨t1,t2⟩;generalize imgP l k=q at *;refine sI Tryz.func159 Tryz.ntmps159 fun hbox htok=>?_
 repeat (first|simp|refine sR ?_)
 refine Stop.of_d (a1 _ _) ?_;repeat (first|simp|refine sR ?_)
 refine Stop.of_d (a2 _ _) ?_;repeat (first|simp|refine sR ?_)
 refine Stop.of_d (l1 _ _) ?_;repeat (first|simp|refine sR ?_)
 refine Stop.of_d (l2 _ _) ?_;repeat (first|simp|refine sR ?_)
 refine Stop.of_d (o _ _) ?_;repeat (first|simp|refine sR ?_)
 refine sT (sH hbox htok ?_);simp [packA]
set_option maxRecDepth 100000 in
theorem structural34_c (r:Ru) (hr:r.Fit) (tok:Tks) (nt:Nat):DCall Tryz.prog 58 [r.av] tok nt (I (strR r)) tok nt:=by
 intro box nb;have h1:=valid05_c r.lg hr.lg;have h2:=valid05_c r.rg hr.rg;have h3:=valid07_c r.lg r.k hr.lg hr.k;have h4:=fun h=>extract07_c r.lg r.k hr.lg hr.k h
 have h5:=fun h=>valid53_c (exG r.lg r.k) r.rg r.i h hr.rg
 have h6:=fun h=>injective26_c (exG r.lg r.k) r.rg r.i h hr.rg hr.i
 have hls:=hr.ls;have hlt:=hr.lt;have hrs:=hr.rs;have hrt:=hr.rt;rw [bigN_eq] at hls hlt hrs hrt;refine sI Tryz.func58 Tryz.ntmps58 fun hbox htok=>?_
 repeat (first|simp|refine sR ?_)
 refine Stop.of_d (h1 _ _) ?_;repeat (first|simp|refine sR ?_)
 by_cases e1:validG r.lg=0
 ·simp only [e1];refine sC ?_;repeat (first|simp|refine sR ?_)
  refine Stop.of_d (h2 _ _) ?_;repeat (first|simp|refine sR ?_)
  by_cases e2:validG r.rg=0
  ·simp only [e2];refine sC ?_;repeat (first|simp|refine sR ?_)
   refine Stop.of_d (h3 _ _) ?_;repeat (first|simp|refine sR ?_)
   by_cases e3:validP r.lg r.k=0
   ·simp only [e3];refine sC ?_;repeat (first|simp|refine sR ?_)
    have hp:=VP.of e3;have hx:=hp.emb.fit.2.1;refine Stop.of_d (h4 hp _ _) ?_;repeat (first|simp|refine sR ?_)
    refine Stop.of_d (h5 hx _ _) ?_;repeat (first|simp|refine sR ?_)
    by_cases e4:validM (exG r.lg r.k) r.rg r.i=0
    ·simp only [e4];refine sC ?_;repeat (first|simp|refine sR ?_)
     refine Stop.of_d (h6 hx _ _) ?_;repeat (first|simp|refine sR ?_)
     cases e5:injM (exG r.lg r.k) r.rg r.i
     ·refine sC ?_;repeat (first|simp|refine sR ?_)
      refine sT (sH hbox htok ?_);simp [packA,strR,e1,e2,e3,e4,e5]
     ·refine sC ?_;simp;have w0:IntKind.i64.wrap ((r.lsl.length:Int)+r.lte.length)=(r.lsl.length:Int)+r.lte.length:=wrap_in (by omega) (by omega)
      have w1:IntKind.i64.wrap ((r.lsl.length:Int)+r.lte.length+r.rsl.length)=(r.lsl.length:Int)+r.lte.length+r.rsl.length:=wrap_in (by omega) (by omega)
      have w2:IntKind.i64.wrap ((r.lsl.length:Int)+r.lte.length+r.rsl.length+r.rte.length)=(r.lsl.length:Int)+r.lte.length+r.rsl.length+r.rte.length:=wrap_in (by omega) (by omega)
      by_cases s1:((r.lsl.length:Int)+r.lte.length+r.rsl.length+r.rte.length)=0
      ·have b1:(((r.lsl.length:Int)+r.lte.length+r.rsl.length+r.rte.length)==0)=true:=by rw [beq_iff_eq]; exact s1
       by_cases s2:r.lv=0
       ·have b2:(r.lv==0)=true:=by simp [s2]
        by_cases s3:r.rv=0
        ·have b3:(r.rv==0)=true:=by simp [s3]
         have y1:r.plainL:=⟨by omega,s2⟩
         have y2:r.plainR:=⟨by omega,s3⟩
         cases hin:r.inj
         ·repeat (first|simp [w0,w1,w2,b1,b2,b3,hin]|refine sR ?_)
          refine sC ?_;repeat (first|simp|refine sR ?_)
          refine sT (sH hbox htok ?_);simp [packA,strR,e1,e2,e3,e4,e5,y1,y2,hin]
         ·repeat (first|simp [w0,w1,w2,b1,b2,b3,hin]|refine sR ?_)
          refine sC ?_;repeat (first|simp|refine sR ?_)
          refine sT (sH hbox htok ?_);simp [packA,strR,e1,e2,e3,e4,e5,y1,y2,hin]
        ·have b3:(r.rv==0)=false:=by simp [s3]
         have n2:¬ r.plainR:=fun h=>s3 h.2
         repeat (first|simp [w0,w1,w2,b1,b2,b3]|refine sR ?_)
         refine sC ?_;repeat (first|simp|refine sR ?_)
         refine sT (sH hbox htok ?_);simp [packA,strR,e1,e2,e3,e4,e5,n2]
       ·have b2:(r.lv==0)=false:=by simp [s2]
        have n1:¬ r.plainL:=fun h=>s2 h.2
        repeat (first|simp [w0,w1,w2,b1,b2]|refine sR ?_)
        refine sC ?_;repeat (first|simp|refine sR ?_)
        refine sT (sH hbox htok ?_);simp [packA,strR,e1,e2,e3,e4,e5,n1]
      ·have b1:(((r.lsl.length:Int)+r.lte.length+r.rsl.length+r.rte.length)==0)=false:=by rw [beq_eq_false_iff_ne]; exact s1
       have n1:¬ (r.plainL∧r.plainR∧r.inj=true):=fun h=>by
        have h1:=h.1.1;have h2:=h.2.1.1;omega
       have hS:strR r=8:=by simp only [strR,e1,e2,e3,e4,e5]; simp [n1]
       rw [hS];repeat (first|simp [w0,w1,w2,b1]|refine sR ?_)
       refine sC ?_;repeat (first|simp|refine sR ?_)
       refine sT (sH hbox htok ?_);simp [packA]
    ·have b4:(validM (exG r.lg r.k) r.rg r.i !=0)=true:=by simp [e4]
     simp only [b4];refine sC ?_;repeat (first|simp|refine sR ?_)
     refine sT (sH hbox htok ?_);simp [packA,strR,e1,e2,e3,e4]
   ·have b3:(validP r.lg r.k !=0)=true:=by simp [e3]
    simp only [b3];refine sC ?_;repeat (first|simp|refine sR ?_)
    refine sT (sH hbox htok ?_);simp [packA,strR,e1,e2,e3]
  ·have b2:(validG r.rg !=0)=true:=by simp [e2]
   simp only [b2];refine sC ?_;repeat (first|simp|refine sR ?_)
   refine sT (sH hbox htok ?_);simp [packA,strR,e1,e2]
 ·have b1:(validG r.lg !=0)=true:=by simp [e1]
  simp only [b1];refine sC ?_;repeat (first|simp|refine sR ?_)
  refine sT (sH hbox htok ?_);simp [packA,strR,e1]
def fewR (r:Ru):Bool:=fewG r.lg&&fewG r.rg&&fewM r.k 140&&fewM r.i 140
structure Ru.Big (r:Ru):Prop where
 k:r.k.nodes.length≤bigN∧r.k.edges.length≤bigN
 i:r.i.nodes.length≤bigN∧r.i.edges.length≤bigN
 ls:r.lsl.length≤bigN
 lt:r.lte.length≤bigN
 rs:r.rsl.length≤bigN
 rt:r.rte.length≤bigN
 c:r.c.Big
theorem few34_c (r:Ru) (hb:r.Big) (tok:Tks) (nt:Nat):DCall Tryz.prog 57 [r.av] tok nt (B (fewR r)) tok nt:=by
 intro box nb;obtain ⟨k1,k2⟩:=hb.k;obtain ⟨i1,i2⟩:=hb.i;rw [bigN_eq] at k1 k2 i1 i2;have h1:=few05_c r.lg;have h2:=few05_c r.rg;have h3:=few07_c r.k 140 (by omega) (by omega);have h4:=few06_c r.i 140 (by omega) (by omega);refine sI Tryz.func57 Tryz.ntmps57 fun hbox htok=>?_
 repeat (first|simp|refine sR ?_)
 refine Stop.of_d (h1 _ _) ?_;repeat (first|simp|refine sR ?_)
 cases e1:fewG r.lg
 ·repeat (first|simp|refine sR ?_)
  refine sT (sH hbox htok ?_);simp [packA,fewR,e1]
 ·repeat (first|simp|refine sR ?_)
  refine Stop.of_d (h2 _ _) ?_;repeat (first|simp|refine sR ?_)
  cases e2:fewG r.rg
  ·repeat (first|simp|refine sR ?_)
   refine sT (sH hbox htok ?_);simp [packA,fewR,e1,e2]
  ·repeat (first|simp|refine sR ?_)
   refine Stop.of_d (h3 _ _) ?_;repeat (first|simp|refine sR ?_)
   cases e3:fewM r.k 140
   ·repeat (first|simp|refine sR ?_)
    refine sT (sH hbox htok ?_);simp [packA,fewR,e1,e2,e3]
   ·repeat (first|simp|refine sR ?_)
    refine Stop.of_d (h4 _ _) ?_;repeat (first|simp|refine sR ?_)
    refine sT (sH hbox htok ?_);simp [packA,fewR,e1,e2,e3]
theorem ovr_shs:∀ (n:Nat) (c:Cd),SizeOf.sizeOf c<n→∀ a,c.ovr a=0→c.shs=0
 | 0,c,hn,_,_=>absurd hn (Nat.not_lt_zero _)
 | n+1,c,hn,a,hv=>by
  obtain ⟨h0,_,h2⟩:=Cd.ovr_zero hv;rw [c.shs_eq,if_pos h0];exact errL_all fun x hx=>ovr_shs n x (by have:=Cd.kid_lt hx; omega) _ (h2 x hx)
set_option maxRecDepth 100000 in
theorem small34_c (c:Cd) (hb:c.Big) (h:c.shs=0) (tok:Tks) (nt:Nat):DCall Tryz.prog 87 [c.av] tok nt (.tup [(if smallC c≠0 then cdOf 0 [] else c).av,I (smallC c)]) tok nt:=by
 intro box nb;have h1:=size11_c c hb;have e:sizeR c=if smallC c≠0 then (0,0,smallC c) else (c.meas.1,c.meas.2,0):=by rw [sizeR,if_neg (by simp [h])]
 rw [e] at h1;by_cases e1:smallC c=0
 ·rw [if_neg (by simp [e1])] at h1 ⊢;rw [e1];refine sI Tryz.func87 Tryz.ntmps87 fun hbox htok=>?_
  repeat (first|simp|refine sR ?_)
  refine Stop.of_d (h1 _ _) ?_;repeat (first|simp|refine sR ?_)
  refine sC ?_;repeat (first|simp|refine sR ?_)
  refine sT (sH hbox htok ?_);simp [packA]
 ·rw [if_pos e1] at h1 ⊢;rw [zav];have b1:(smallC c !=0)=true:=by simp [e1]
  refine sI Tryz.func87 Tryz.ntmps87 fun hbox htok=>?_
  repeat (first|simp|refine sR ?_)
  refine Stop.of_d (h1 _ _) ?_;simp;repeat (first|simp [b1]|refine sR ?_)
  refine sC ?_;repeat (first|simp|refine sR ?_)
  refine sT (sH hbox htok ?_);simp [packA]
def backL (l:List Int) (n:Nat):List Int:=(List.range n).map fun (k:Nat)=>indexI l (k:Int)
theorem backL_len (l:List Int) (n:Nat):(backL l n).length=n:=by simp [backL]
theorem backL_getD {l:List Int} {n k:Nat} (h:k<n):(backL l n).getD k 0=indexI l k:=by simp [backL,h]
def BackOK:Prop:=∀ (l:List Int) (n:Nat),l.length≤1000000→n≤1000000→l.Nodup→∀ (tok:Tks) (nt:Nat),DCall Tryz.prog 158 [.d (ints l),I n] tok nt (.d (ints (backL l n))) tok nt
theorem byK_back {q l:List Int} {n:Nat} (h:∀ x∈q,0≤x∧x<n):byK q (backL l n) q.length=q.map (indexI l):=byK_ext (by simp) fun i hi=>by
 have:=h _ (getD_mem (d:=0) hi)
 rw [backL_getD (by omega),mapI_getD hi,show (((q.getD i 0).toNat:Nat):Int)=q.getD i 0 by omega]
set_option maxRecDepth 100000 in
theorem exists34_c (hB:BackOK) (c x:Cd) (hkx:c.kids=[x]) (k5:c.kind=5) (r:Ru) (hs:SpOk r.sp) (hm:Emb r.rg c.g c.m)
  (ih:r.sp.dng c.m c.g=false→¬ r.sp.big c.m c.g→∀ (tok:Tks) (nt:Nat),DCall Tryz.prog 86 [(r.sp.inn c.m c.g).ru.av,x.av] tok nt (.tup [(x.lft (r.sp.inn c.m c.g)).1.av,I (x.lft (r.sp.inn c.m c.g)).2]) tok nt) (tok:Tks) (nt:Nat) :
  DCall Tryz.prog 86 [r.av,c.av] tok nt (.tup [(c.lft r.sp).1.av,I (c.lft r.sp).2]) tok nt:=by
 intro box nb;obtain ⟨fl,fr,fk,fi⟩:=hs.fit;obtain ⟨fm,_,fg⟩:=hm.fit;have vi:=hs.i.vm;have vm:=hm.vm;have hvr:=(validG_types vm.va).1;have hvg:=(validG_types vm.vb).1;have s1:=ascending34_c r.i.nodes r.rg.nodes.length fi.n (by omega) hs.i.n vi.n;have s2:=ascending34_c r.i.edges r.rg.edges.length fi.e (by omega) hs.i.e vi.e;have hi:=imgP_vp hs.i;have hC:=of12_c r.rg c.g (imgP r.rg r.i) c.m fr fg fm hi.emb.fit.1 hm hi;have hL:c.lft r.sp=lftStep 5 c.m c.g r.sp (fun s=>kidsE (fun x=>Cd.lft x s) [x]) (fun s=>kidsE (fun x=>Cd.lft x s) [x]):=by rw [c.lft_eq,k5,hkx]
 have b5:(c.kind !=5)=false:=by simp [k5]
 refine sI Tryz.func86 Tryz.ntmps86 fun hbox htok=>?_
 repeat (first|simp [b5]|refine sR ?_)
 refine sC ?_;repeat (first|simp|refine sR ?_)
 refine Stop.of_d (s1 _ _) ?_;repeat (first|simp|refine sR ?_)
 refine Stop.of_d (s2 _ _) ?_;repeat (first|simp|refine sR ?_)
 refine Stop.of_d (hC _ _) ?_;simp;by_cases hd:r.sp.dng c.m c.g=true
 ·have e:cmpR r.rg c.g (imgP r.rg r.i) c.m=(⟨[],[]⟩,14):=if_pos hd
  rw [e,show c.lft r.sp=(noC,0) by rw [hL,lftStep,if_neg (by simp),if_pos hd]];have hn:=false34_c;repeat (first|simp|refine sR ?_)
  refine sC ?_;repeat (first|simp|refine sR ?_)
  refine Stop.of_d (hn _ _) ?_;repeat (first|simp|refine sR ?_)
  refine sT (sH hbox htok ?_);simp [packA]
 ·have hd':r.sp.dng c.m c.g=false:=by simpa using hd
  have e:cmpR r.rg c.g (imgP r.rg r.i) c.m=(r.sp.z c.m c.g,0):=if_neg hd
  rw [e];have ih:=ih hd';have vz:=Sp.z_vp hs hm hd';have fz:=vz.emb.fit.1;have hgo:=Sp.go_emb hs hm hd';have x1:=extract07_c c.g (r.sp.z c.m c.g) fg fz vz;have x2:=extract07_c r.lg r.k fl fk hs.k;have t0:=then63_c r.i c.m fi (by rw [vm.ln]; exact vi.n) (by rw [vm.le]; exact vi.e);have ft:(thenM r.i c.m).Fit:=(hs.i.comp hm).fit.1
  have vt:VM (exG r.lg r.k) c.g (thenM r.i c.m):=(hs.i.comp hm).vm
  have k1:=hB (r.sp.z c.m c.g).nodes c.g.nodes.length fz.n (by omega) (nodup_of_lt vz.sn);have k2:=hB (r.sp.z c.m c.g).edges c.g.edges.length fz.e (by omega) (nodup_of_lt vz.se);have a1:=through68_c (thenM r.i c.m).nodes (backL (r.sp.z c.m c.g).nodes c.g.nodes.length) ft.n (by rw [backL_len]; exact vt.n);have a2:=through68_c (thenM r.i c.m).edges (backL (r.sp.z c.m c.g).edges c.g.edges.length) ft.e (by rw [backL_len]; exact vt.e);rw [byK_back vt.n] at a1;rw [byK_back vt.e] at a2;have po:=po10_c (exG r.lg r.k) r.lg (r.sp.rest c.m c.g) r.k (r.sp.go c.m c.g) hs.k.emb hgo;have ego:r.sp.go c.m c.g=⟨(thenM r.i c.m).nodes.map (indexI (r.sp.z c.m c.g).nodes),(thenM r.i c.m).edges.map (indexI (r.sp.z c.m c.g).edges)⟩:=rfl
  obtain ⟨P,hP⟩:∃ P,pushR r.lg (r.sp.rest c.m c.g) r.k (r.sp.go c.m c.g)=P:=⟨_,rfl⟩
  rw [hP,ego] at po;have erest:exG c.g (r.sp.z c.m c.g)=r.sp.rest c.m c.g:=rfl
  rw [erest] at x1;generalize hT:thenM r.i c.m=T at *;repeat (first|simp|refine sR ?_)
  refine sC ?_;repeat (first|simp|refine sR ?_)
  refine sC ?_;repeat (first|simp|refine sR ?_)
  refine Stop.of_d (x2 _ _) ?_;repeat (first|simp|refine sR ?_)
  refine Stop.of_d (x1 _ _) ?_;repeat (first|simp|refine sR ?_)
  refine Stop.of_d (t0 _ _) ?_;repeat (first|simp|refine sR ?_)
  refine Stop.of_d (k1 _ _) ?_;repeat (first|simp|refine sR ?_)
  refine Stop.of_d (a1 _ _) ?_;repeat (first|simp|refine sR ?_)
  refine Stop.of_d (k2 _ _) ?_;repeat (first|simp|refine sR ?_)
  refine Stop.of_d (a2 _ _) ?_;repeat (first|simp|refine sR ?_)
  refine Stop.of_d (po _ _) ?_;simp;by_cases hb:r.sp.big c.m c.g
  ·have e:P=(⟨⟨[],[]⟩,⟨[],[]⟩,⟨[],[]⟩⟩,3):=by rw [←hP]; exact if_pos hb
   rw [e,show c.lft r.sp=(cdOf 0 [],3) by rw [hL,lftStep,if_neg (by simp),if_neg (by simp [hd']),if_pos hb],zav];repeat (first|simp|refine sR ?_)
   refine sC ?_;repeat (first|simp|refine sR ?_)
   refine sT (sH hbox htok ?_);simp [packA]
  ·have e:P=(r.sp.po c.m c.g,0):=by rw [←hP]; exact if_neg hb
   rw [e];have ih:=ih hb;obtain ⟨p1,p2,p3⟩:=Sp.po_emb hs hm hd' hb;have v3:=p3.vm;have kp:=kept34_c (r.sp.rest c.m c.g) (r.sp.po c.m c.g).g c.g (r.sp.z c.m c.g) (r.sp.po c.m c.g).r p3 (by rw [v3.ln]; simp [Sp.rest,exG]) (by rw [v3.le]; simp [Sp.rest,exG]);have eN:r.sp.inn c.m c.g=⟨(r.sp.po c.m c.g).g,c.g,imgP (r.sp.po c.m c.g).g (r.sp.po c.m c.g).r,thenM (liftM (r.sp.po c.m c.g).r (imgP (r.sp.po c.m c.g).g (r.sp.po c.m c.g).r)) (r.sp.z c.m c.g)⟩:=rfl
   rw [←eN] at kp;obtain ⟨R,hR⟩:∃ R,x.lft (r.sp.inn c.m c.g)=R:=⟨_,rfl⟩
   rw [hR] at ih;repeat (first|simp|refine sR ?_)
   refine sC ?_;repeat (first|simp|refine sR ?_)
   refine Stop.of_d (kp _ _) ?_;simp;repeat (first|simp [hkx,Cd.cells_eq]|refine sR ?_)
   refine Stop.of_d (ih _ _) ?_;repeat (first|simp|refine sR ?_)
   by_cases h0:R.2=0
   ·rw [show c.lft r.sp=(.mk 5 [R.1] (r.sp.po c.m c.g).l (r.sp.po c.m c.g).g [] 0 [],0) by rw [hL,lftStep,if_neg (by simp),if_neg (by simp [hd']),if_neg hb]; have hk:kidsE (fun x=>Cd.lft x (r.sp.inn c.m c.g)) [x]=([R.1],0):=by { unfold kidsE; rw [hR,if_neg (by simp [h0])]; exact if_neg (by simp [kidsE]) }; rw [hk]; exact if_neg (by simp)];have hav:(Cd.mk 5 [R.1] (r.sp.po c.m c.g).l (r.sp.po c.m c.g).g [] 0 []).av=.agg [I 5,.d (.sl 9 [R.1.cells]),.d (ints (r.sp.po c.m c.g).l.nodes),.d (ints (r.sp.po c.m c.g).l.edges),.d (ints (r.sp.po c.m c.g).g.nodes),.d (AM.edges (r.sp.po c.m c.g).g.edges),.d (.sl 4 []),I 0,.d (.sl 5 [])]:=rfl
    rw [R.1.cells_eq] at hav;rw [hav];simp only [h0];refine sC ?_;repeat (first|simp|refine sR ?_)
    refine sT (sH hbox htok ?_);simp [packA]
   ·rw [show c.lft r.sp=(cdOf 0 [],R.2) by rw [hL,lftStep,if_neg (by simp),if_neg (by simp [hd']),if_neg hb]; have hk:kidsE (fun x=>Cd.lft x (r.sp.inn c.m c.g)) [x]=([],R.2):=by { unfold kidsE; rw [hR]; exact if_pos h0 }; rw [hk]; exact if_pos h0,zav];have b0:(R.2 !=0)=true:=by simp [h0]
    simp only [b0];refine sC ?_;repeat (first|simp|refine sR ?_)
    refine sT (sH hbox htok ?_);simp [packA]
theorem backL_succ (l:List Int) (k:Nat):backL l (k+1)=backL l k++[indexI l k]:=by simp [backL,List.range_succ]
def backS (l:List Int) (k j:Nat):List Int:=backL l k++[indexI (l.take j) k]
theorem backS_len (l:List Int) (k j:Nat):(backS l k j).length=k+1:=by simp [backS,backL]
theorem backS_zero (l:List Int) (k:Nat):backS l k 0=backL l k++[-1]:=by simp [backS,indexI]
theorem backS_all (l:List Int) (k:Nat):backS l k l.length=backL l (k+1):=by simp [backS,backL_succ]
theorem indexI_none {l:List Int} {v:Int} (h:v∉l):indexI l v = -1:=by
 rcases indexI_spec l v with ⟨h1,_⟩|⟨k,_,h3,h4⟩
 ·exact h1
 ·exact absurd (h4 ▸ getD_mem h3) h
theorem take_mem {l:List Int} {j:Nat} (h:j<l.length) {v:Int}:v∈l.take (j+1)↔v∈l.take j∨v=l.getD j 0:=by
 rw [←List.take_append_getElem h,List.mem_append,List.mem_singleton];simp [h]
theorem index_no {l:List Int} {j:Nat} (h:j<l.length) {v:Int} (hv:l.getD j 0≠v) (hn:l.Nodup):indexI (l.take (j+1)) v=indexI (l.take j) v:=by
 by_cases hm:v∈l.take j
 ·obtain ⟨a1,a2,a3⟩:=indexI_in hm;obtain ⟨b1,b2,b3⟩:=indexI_in ((take_mem h).2 (.inl hm));have hnd:(l.take (j+1)).Nodup:=hn.sublist (List.take_sublist _ _)
  have hl:(l.take j).length≤(l.take (j+1)).length:=by simp; omega
  have e:(l.take (j+1)).getD (indexI (l.take j) v).toNat 0=v:=by
   have q:(indexI (l.take j) v).toNat<(l.take j).length:=by omega
   have q1:(indexI (l.take j) v).toNat<j:=by simp at q; omega
   have q2:(l.take (j+1)).getD (indexI (l.take j) v).toNat 0=(l.take j).getD (indexI (l.take j) v).toNat 0:=by
    simp only [List.getD_eq_getElem?_getD,List.getElem?_take];rw [if_pos (by omega),if_pos q1]
   rw [q2]; exact a3
  have:=getD_inj hnd (show (indexI (l.take j) v).toNat<(l.take (j+1)).length by omega) (show (indexI (l.take (j+1)) v).toNat<(l.take (j+1)).length by omega) (e.trans b3.symm)
  omega
 ·rw [indexI_none hm,indexI_none fun hm2=>by
   rcases (take_mem h).1 hm2 with h1|h1
   ·exact hm h1
   ·exact hv h1.symm]
theorem index_yes {l:List Int} {j:Nat} (h:j<l.length) (hn:l.Nodup):indexI (l.take (j+1)) (l.getD j 0)=j:=by
 have hnd:(l.take (j+1)).Nodup:=hn.sublist (List.take_sublist _ _)
 have hj:j<(l.take (j+1)).length:=by simp; omega
 have e:(l.take (j+1)).getD j 0=l.getD j 0:=by
  simp only [List.getD_eq_getElem?_getD,List.getElem?_take];rw [if_pos (by omega)]
 have:=indexI_gd hnd hj
 rwa [e] at this
theorem backS_no {l:List Int} {k j:Nat} (h:j<l.length) (hv:l.getD j 0≠k) (hn:l.Nodup):backS l k (j+1)=backS l k j:=by rw [backS,backS,index_no h hv hn]
theorem backS_yes {l:List Int} {k j:Nat} (h:j<l.length) (hv:l.getD j 0=k) (hn:l.Nodup):backS l k (j+1)=(backS l k j).set k j:=by
 have h2:=index_yes h hn;rw [hv] at h2;have hl:(backL l k).length=k:=by simp [backL]
 rw [backS,backS,h2,List.set_append_right _ _ (by omega),hl];simp
end Go.AM
namespace Go.Proofs.YtebmobphgaiaiaaGreat.back
open Go Go.Proofs Go.RowKit Go.AM
theorem info3:(Tryz.prog.info? 3).map (fun i=>(i.zero,i.size,i.bytes))=some (some (.int .i64 0),1,8):=by kernel_rfl
set_option maxHeartbeats 2000000 in
set_option maxRecDepth 100000 in
theorem any (b off n c m:Nat) (zs:List Int) (w:World) (hz:zs.length=n) (hn:n≤1000000) (hm:m≤1000000) (hd:zs.Nodup) (hb:b<w.heap.size) (hc:∀ j,j<zs.length→w.cell? ⟨b,off+j,none⟩=some (.int .i64 (zs.getD j 0))) :
  Calls Tryz.prog 158 #[.slice (some ⟨b,off,none⟩) n c,.int .i64 m] w fun e w'=>∃ v,e=.returned v∧w'.ownsRow w.heap.size 3 1 v m ((backL zs m).map (Value.int .i64))∧Below w.heap.size w w':=by
 obtain ⟨i0,hi,hz0,hz1,hz2⟩:=info_parts info3
 go_enter Tryz.func158,Tryz.ntmps158
 go_wp2
 go_loopw [5,6] (fun v i wr=>∃ k:Nat,k≤m∧i=.int .i64 k∧wr.ownsRow w.heap.size 3 1 v k ((backL zs k).map (Value.int .i64))∧Below w.heap.size w wr) (fun _ i _=>m - (intOf i).toNat)
 case atStart=>exact ⟨0,Nat.zero_le _,rfl,World.ownsRow_nil _ _ _ _,Below.refl _ _⟩
 case round =>
  obtain ⟨k,hk,rfl,hown,hnx⟩:=hrel
  go_wp2_with (first
   | (at_builtin; refine wpList_append_own _ rfl _ _ 26 rfl w.heap.size 3 i0 (.int .i64 0) 1 8 Tryz.underlying26 hi hz0 hz1 hz2 rfl (by decide) _ _ _ rfl (hown.alloc _) ⟨wr.heap.size,0,none⟩ 1 1 [.int .i64 (-1)] rfl rfl ?c1 ?c2 ?c3 ?c4 ?c5 ?_)
   | go_in)
  case c1 =>
   intro j u hj
   match j,hj with
   | 0,hj=>simp at hj; subst hj; simp [Addr.add]
  case c2=>intro u hu; simp at hu; subst hu; rfl
  case c3=>unfold maxLen; omega
  case c4=>omega
  case c5=>have:=hnx.size; simp; omega
  ·intro v' w1 hown' hgrow hne;have hk':k<m:=by assumption
   obtain ⟨g,cap,rfl,hg1,hg2⟩:=hown'.form (by omega);have hnx1:Below w.heap.size w w1:=(hnx.alloc (by have:=hnx.size; omega) _).grown hgrow (by have:=hnx.size; simp; omega) (fun q hq=>(hown.lt q hq).1)
   rw [show List.map (Value.int .i64) (backL zs k)++[Value.int .i64 (-1)]=(backS zs k 0).map (Value.int .i64) by rw [backS_zero]; simp] at hown';clear hgrow hown hnx hne
   go_wp2
   go_loopw [7] (fun i wr=>∃ j:Nat,j≤n∧i=.int .i64 j∧wr.ownsRow w.heap.size 3 1 (.slice (some ⟨g,0,none⟩) (k+1) cap) (k+1) ((backS zs k j).map (Value.int .i64))∧Below w.heap.size w wr) (fun i _=>n - (intOf i).toNat)
   case atStart=>exact ⟨0,Nat.zero_le _,rfl,hown',hnx1⟩
   case round =>
    clear hown' hnx1;obtain ⟨j,hj,rfl,hown,hnx⟩:=hrel;have hcx:j<n→wr.cell? ⟨b,off+j,none⟩=some (.int .i64 (zs.getD j 0)):=fun h=>(hnx.cell (by exact hb)).trans (hc j (by omega))
    have hst:=hown.stored k (.int .i64 j);have hfz:=hown.frozenAt k;have hck:wr.cell? ⟨g,k,none⟩=some (.int .i64 ((backS zs k j).getD k 0)):=by
     rw [hown.cellAt k (by omega),List.getElem?_map,List.getElem?_eq_getElem (by rw [backS_len]; omega)];simp [show k<(backS zs k j).length by rw [backS_len]; omega]
    go_wp2
    ·have hlt:j<n:=by assumption
     have hjl:j<zs.length:=by omega
     have h:(zs[j]==(k:Int))=true:=by assumption
     have e:zs.getD j 0=(k:Int):=by
      have:=beq_iff_eq.1 h
      simpa [hjl] using this
     refine ⟨⟨j+1,by omega,by simp,?_,hnx.setCell hg1 _⟩,by simp [intOf]; omega⟩;rw [backS_yes hjl e hd,List.map_set];exact hst.1
    ·have hlt:j<n:=by assumption
     have hjl:j<zs.length:=by omega
     have h:(zs[j]==(k:Int))=false:=by assumption
     have e:zs.getD j 0≠(k:Int):=by
      have:=beq_eq_false_iff_ne.1 h
      simpa [hjl] using this
     refine ⟨⟨j+1,by omega,by simp,?_,hnx⟩,by simp [intOf]; omega⟩;rw [backS_no hjl e hd];exact hown
    ·have hlt:¬ j<n:=by assumption
     have hjn:j=zs.length:=by omega
     rw [hjn,backS_all] at hown;exact ⟨⟨k+1,by omega,by simp,hown,hnx⟩,by simp [intOf]; omega⟩
  ·go_ret
   have hk':¬ k<m:=by assumption
   obtain rfl:k=m:=by omega
   exact ⟨_,rfl,hown,hnx⟩
end Go.Proofs.YtebmobphgaiaiaaGreat.back
namespace Go.Proofs.YtebmobphgaiaiaaGreat.back
open Go Go.Proofs Go.RowKit Go.AM
set_option maxHeartbeats 2000000 in
set_option maxRecDepth 100000 in
theorem zero (A:Option Addr) (c m:Nat) (w:World) (hm:m≤1000000) :
  Calls Tryz.prog 158 #[.slice A 0 c,.int .i64 m] w fun e w'=>∃ v,e=.returned v∧w'.ownsRow w.heap.size 3 1 v m ((backL [] m).map (Value.int .i64))∧Below w.heap.size w w':=by
 obtain ⟨i0,hi,hz0,hz1,hz2⟩:=info_parts info3
 go_enter Tryz.func158,Tryz.ntmps158
 go_wp2
 go_loopw [5,6] (fun v i wr=>∃ k:Nat,k≤m∧i=.int .i64 k∧wr.ownsRow w.heap.size 3 1 v k ((backL [] k).map (Value.int .i64))∧Below w.heap.size w wr) (fun _ i _=>m - (intOf i).toNat)
 case atStart=>exact ⟨0,Nat.zero_le _,rfl,World.ownsRow_nil _ _ _ _,Below.refl _ _⟩
 case round =>
  obtain ⟨k,hk,rfl,hown,hnx⟩:=hrel
  go_wp2_with (first
   | (at_builtin; refine wpList_append_own _ rfl _ _ 26 rfl w.heap.size 3 i0 (.int .i64 0) 1 8 Tryz.underlying26 hi hz0 hz1 hz2 rfl (by decide) _ _ _ rfl (hown.alloc _) ⟨wr.heap.size,0,none⟩ 1 1 [.int .i64 (-1)] rfl rfl ?c1 ?c2 ?c3 ?c4 ?c5 ?_)
   | go_in)
  case c1 =>
   intro j u hj
   match j,hj with
   | 0,hj=>simp at hj; subst hj; simp [Addr.add]
  case c2=>intro u hu; simp at hu; subst hu; rfl
  case c3=>unfold maxLen; omega
  case c4=>omega
  case c5=>have:=hnx.size; simp; omega
  ·intro v' w1 hown' hgrow hne;have hk':k<m:=by assumption
   have hnx1:Below w.heap.size w w1:=(hnx.alloc (by have:=hnx.size; omega) _).grown hgrow (by have:=hnx.size; simp; omega) (fun q hq=>(hown.lt q hq).1)
   rw [show List.map (Value.int .i64) (backL [] k)++[Value.int .i64 (-1)]=(backL [] (k+1)).map (Value.int .i64) by rw [backL_succ]; simp [indexI]] at hown';clear hgrow hown hnx hne
   go_wp2
   go_loopw [7] (fun i wr=>i=.int .i64 0∧wr=w1) (fun i _=>0)
   case atStart=>exact ⟨rfl,rfl⟩
   case round =>
    obtain ⟨rfl,rfl⟩:=hrel
    go_wp2
    exact ⟨⟨k+1,by omega,by simp,hown',hnx1⟩,by simp [intOf]; omega⟩
  ·go_ret
   have hk':¬ k<m:=by assumption
   obtain rfl:k=m:=by omega
   exact ⟨_,rfl,hown,hnx⟩
end Go.Proofs.YtebmobphgaiaiaaGreat.back
namespace Go.AM
open Go Go.Proofs Go.RowKit
theorem backOK:BackOK:=by
 intro l n hl hn hd tok nt box nb;refine ⟨Enters.mk Tryz.func158 rfl (by kernel_rfl),fun G w vals hm hr=>?_⟩;obtain ⟨hlen,hrv⟩:=hr
 match vals,hlen with
 | [v,u],_ =>
  have h0:=hrv 0 (by simp) (by simp);have h1:=hrv 1 (by simp) (by simp);simp only [List.getElem_cons_zero,List.getElem_cons_succ] at h0 h1;cases h1 with
  | d h1 =>
  cases h1 with
  | raw h1 =>
  cases h0 with
  | d h0 =>
   obtain ⟨A,cap,rfl,hcap,hmax,hA,hc⟩:=rvd_ints h0;have hll:(backL l n).length=n:=backL_len l n
   by_cases e:l=[]
   ·subst e;refine (YtebmobphgaiaiaaGreat.back.zero A cap n w hn).mono ?_;rintro e w' ⟨v,rfl,ho,hb⟩;rw [←hll] at ho;simp only [hll] at ho;exact ⟨_,_,_,G,rfl,⟨rfl,rfl⟩,rfl,relM_below hm hb,.d (rvd_owns hm (by rw [hll]; exact ho)),le_below hm hb,fun k hk=>⟨hk,rfl⟩⟩
   ·obtain ⟨a,rfl⟩:=hA e;have hp:0<l.length:=List.length_pos_iff.2 e
    have hc':=hc a rfl
    have hs:a.spot=none:=by
     cases hsp:a.spot with
     | none=>rfl
     | some q =>
      exfalso
      have:=hc' 0 hp
      simp only [World.cell?,Addr.add,hsp,Option.isSome_some, ↓reduceIte] at this;split at this <;> simp at this
    obtain ⟨b,off,sp⟩:=a;simp only at hs;subst hs;have hcc:∀ j,j<l.length→w.cell? ⟨b,off+j,none⟩=some (.int .i64 (l.getD j 0)):=fun j hj=>by
     have h1:=hc' j hj;unfold Addr.add at h1;split at h1
     ·rename_i e; subst e; exact h1
     ·exact h1
    have hbw:b<w.heap.size:=lt_of_cell (hcc 0 hp)
    refine (YtebmobphgaiaiaaGreat.back.any b off l.length cap n l w rfl hl hn hd hbw hcc).mono ?_;rintro e w' ⟨v,rfl,hown,hb⟩;exact ⟨v,_,_,G,rfl,⟨rfl,rfl⟩,rfl,relM_below hm hb,.d (rvd_owns hm (by rw [hll]; exact hown)),le_below hm hb,fun k hk=>⟨hk,rfl⟩⟩
def upP (ps:List Int) (i:Nat):List Int:=if _h:0≤ps.getD i 0∧(ps.getD i 0).toNat<i then (i:Int)::upP ps (ps.getD i 0).toNat else [(i:Int)]
termination_by i
decreasing_by exact _h.2
def upI (ps:List Int) (a:Int):List Int:=if a<0 then [] else upP ps a.toNat
theorem upI_neg {ps:List Int} {a:Int} (h:a<0):upI ps a=[]:=if_pos h
theorem upI_up {ps:List Int} {a:Int} (h:0≤a) (hp:ps.getD a.toNat 0<a):upI ps a=a::upI ps (ps.getD a.toNat 0):=by
 rw [upI,if_neg (by omega),upP];by_cases h0:0≤ps.getD a.toNat 0
 ·rw [dif_pos ⟨h0,by omega⟩,upI,if_neg (by omega),Int.toNat_of_nonneg h]
 ·rw [dif_neg (fun h2=>h0 h2.1),upI,if_pos (by omega),Int.toNat_of_nonneg h]
theorem upP_len (ps:List Int):∀ n i,i<n→(upP ps i).length≤i+1
 | 0,i,h=>absurd h (Nat.not_lt_zero _)
 | n+1,i,h=>by
  rw [upP];split
  ·rename_i h1;have:=upP_len ps n _ (show (ps.getD i 0).toNat<n by omega)
   simp only [List.length_cons];omega
  ·simp
theorem upI_len (ps:List Int) (a:Int):(upI ps a).length≤(a+1).toNat:=by
 unfold upI;split
 ·simp
 ·have:=upP_len ps _ _ (Nat.lt_succ_self a.toNat)
  omega
end Go.AM
namespace Go.Proofs.YtebmobphgaiaiaaGreat.line
open Go Go.Proofs Go.RowKit Go.AM Go.Sort
theorem own_le {w:World} {base base':Nat} {e:TypeId} {size:Nat} {v:Value} {n:Nat} {xs:List Value} (h:w.ownsRow base e size v n xs) (hb:base'≤base):w.ownsRow base' e size v n xs :=
 ⟨h.1,h.2.imp id fun ⟨g,cap,cur,a,b,c⟩=>⟨g,cap,cur,a,Nat.le_trans hb b,c⟩⟩
theorem rev {base n:Nat} {v:Value} {l:List Int} {w0 w:World} (hown:w.ownsRow base 3 1 v n (l.map (Value.int .i64))) (hb:Below base w0 w) (hl:l.length≤1000000) :
  Calls Tryz.prog 302 #[v] w fun e w'=>e=.returned (.tuple #[])∧w'.ownsRow base 3 1 v n (l.reverse.map (Value.int .i64))∧Below base w0 w':=by
 rcases hown.2 with ⟨rfl,e0⟩|⟨g,cap,cur,rfl,hg1,hg2,hg3,hg4,hg5,hg6⟩
 ·refine (Tryz.slices_Reverse_int_empty _ _ _).mono ?_;rintro e w3 ⟨rfl,rfl⟩;subst e0;have:l=[]:=List.length_eq_zero_iff.1 (by simpa using hown.1)
  subst this;exact ⟨rfl,hown,hb⟩
 ·obtain ⟨g',cap',hv,hgb,hgl,hncap,hcm,hlen,hH⟩:=Lib.holds_of_ownsRow hown (by simp);cases hv;have hrev:=Tryz.slices_Reverse_int g 0 cap l _ hH (by omega);rw [hlen] at hrev;refine hrev.mono ?_;rintro e w3 ⟨rfl,q,rfl⟩;have hh:=Lib.ownsRow_putRow (q:=q) (ys:=l.reverse) hown (by simpa using hlen) (Nat.le_refl _);rw [List.take_of_length_le (by simp [hlen])] at hh;exact ⟨rfl,hh,Lib.below_putRow hb hg1⟩
set_option maxHeartbeats 2000000 in
set_option maxRecDepth 100000 in
theorem any (b off n c:Nat) (u:Value) (a0:Int) (ps:List Int) (w:World) (hz:ps.length=n) (hn:n≤1000000) (ha:a0<n) (hp:∀ j,j<n→ps.getD j 0<j) (hb:b<w.heap.size) (hc:∀ j,j<n→w.cell? ⟨b,off+j * 4+1,none⟩=some (.int .i64 (ps.getD j 0))) :
  Calls Tryz.prog 277 #[.agg #[.slice (some ⟨b,off,none⟩) n c,u],.int .i64 a0] w fun e w'=>∃ v,e=.returned v∧w'.ownsRow w.heap.size 3 1 v (upI ps a0).length ((upI ps a0).reverse.map (Value.int .i64))∧Below w.heap.size w w':=by
 obtain ⟨i0,hi,hz0,hz1,hz2'⟩:=info_parts YtebmobphgaiaiaaGreat.back.info3
 go_enter Tryz.func277,Tryz.ntmps277
 go_wp2
 have hsz:(w.alloc (Obj.cells #[Value.slice (some { block:=b,off:=off }) n c,u] 25)).heap.size=w.heap.size+1:=by unfold World.alloc; exact Array.size_push _
 have hz2:(w.alloc (Obj.cells #[Value.slice (some { block:=b,off:=off }) n c,u] 25)).cell? ⟨w.heap.size,0,none⟩=some (Value.slice (some { block:=b,off:=off }) n c):=by rw [World.cell?_alloc_at _ _ _ _ rfl]; rfl
 have hcc:∀ j,j<n→(w.alloc (Obj.cells #[Value.slice (some { block:=b,off:=off }) n c,u] 25)).cell? ⟨b,off+j * 4+1,none⟩=some (.int .i64 (ps.getD j 0)):=fun j hj=>((Below.refl _ w).alloc (Nat.le_refl _) _ |>.cell (by exact hb)).trans (hc j hj)
 have hbel:Below w.heap.size w (w.alloc (Obj.cells #[Value.slice (some { block:=b,off:=off }) n c,u] 25)):=(Below.refl _ w).alloc (Nat.le_refl _) _
 generalize w.alloc (Obj.cells #[Value.slice (some { block:=b,off:=off }) n c,u] 25)=w1 at *
 go_loopw [1,5] (fun x v wr=>∃ (a:Int) (l:List Int),x=.int .i64 a∧a<n∧l++upI ps a=upI ps a0∧wr.ownsRow w1.heap.size 3 1 v l.length (l.map (Value.int .i64))∧Below w1.heap.size w1 wr) (fun x _ _=>(intOf x+1).toNat)
 case atStart=>exact ⟨a0,[],rfl,ha,rfl,World.ownsRow_nil _ _ _ _,Below.refl _ _⟩
 case round =>
  obtain ⟨a,l,rfl,hal,hl,hown,hnx⟩:=hrel;have hll:l.length≤n:=by
   have h1:=congrArg List.length hl;have h2:=upI_len ps a0;rw [List.length_append] at h1;omega
  have hr2:=(hnx.cell (p:=⟨w.heap.size,0,none⟩) (by simp; omega)).trans hz2
  go_wp2_with (first
   | (at_builtin; refine wpList_append_own _ rfl _ _ 26 rfl w1.heap.size 3 i0 (.int .i64 0) 1 8 Tryz.underlying26 hi hz0 hz1 hz2' rfl (by decide) _ _ _ rfl (hown.alloc _) ⟨wr.heap.size,0,none⟩ 1 1 [.int .i64 a] rfl rfl ?c1 ?c2 ?c3 ?c4 ?c5 ?_)
   | (go_at_call 302; refine (rev hown hnx (by omega)).mono ?_; rintro e w3 ⟨rfl,hown3,hnx3⟩)
   | go_in)
  case c1 =>
   intro j u hj
   match j,hj with
   | 0,hj=>simp at hj; subst hj; simp [Addr.add]
  case c2=>intro u hu; simp at hu; subst hu; rfl
  case c3=>unfold maxLen; omega
  case c4=>omega
  case c5=>have:=hnx.size; simp; omega
  ·intro v' w2 hown' hgrow hne;have h0:0≤a:=by assumption
   obtain ⟨k,rfl⟩:=Int.eq_ofNat_of_zero_le h0;have hnx1:Below w1.heap.size w1 w2:=(hnx.alloc (by have:=hnx.size; omega) _).grown hgrow (by have:=hnx.size; simp; omega) (fun q hq=>(hown.lt q hq).1)
   have hr3:=(hnx1.cell (p:=⟨w.heap.size,0,none⟩) (by simp; omega)).trans hz2;have hr4:=(hnx1.cell (p:=⟨b,off+k * 4+1,none⟩) (by simp; omega)).trans (hcc k (by omega));have hup:=upI_up (ps:=ps) h0 (by have:=hp k (by omega); simpa using this);rw [hup,Int.toNat_natCast] at hl;clear hgrow hown hnx hne
   go_wp2
   refine ⟨⟨ps.getD k 0,l++[(k:Int)],rfl,by have:=hp k (by omega); omega,by rw [List.append_assoc]; exact hl,by simpa [hsz] using hown',hnx1⟩,?_⟩;have:=hp k (by omega)
   simp at this;simp [intOf];omega
  ·go_ret
   have h0:a<0:=by assumption
   rw [upI_neg h0,List.append_nil] at hl;rw [←hl];exact ⟨_,rfl,own_le hown3 (by omega),hbel.trans (hnx3.mono (by omega))⟩
end Go.Proofs.YtebmobphgaiaiaaGreat.line
namespace Go.AM
open Go Go.Proofs Go.RowKit
abbrev Ty.pars (t:Ty):List Int:=t.nodes.map NT.par
theorem pars_getD (t:Ty) {j:Nat} (h:j<t.nodes.length):t.pars.getD j 0=(t.nd j).par:=by simp [Ty.pars,Ty.nd,h]
theorem rvd_pars {c:Addr→Option Value} {ps:Addr→Prop} {l:List NT} {v:Value} (h:RVd c ps (nts l) v) :
  ∃ A cap,v=.slice A l.length cap∧l.length≤cap∧cap≤maxLen∧(l≠[]→∃ a,A=some a)∧∀ a,A=some a→∀ i (hi:i<l.length),c (a.add (i * 4))=some (.string l[i].name)∧c (a.add (i * 4+1))=some (.int .i64 l[i].par):=by
 unfold nts at h;generalize hes:l.map NT.cells=es at h;cases h with
 | @sl _ _ A cap u hcap hmax hsz hA hc hr =>
  have hl:es.length=l.length:=by rw [←hes]; simp
  refine ⟨A,cap,by rw [hl],by omega,hmax,fun hne=>hA (by intro e; rw [e] at hl; exact hne (List.length_eq_zero_iff.1 hl.symm)),fun a ha i hi=>⟨?_,?_⟩⟩
  ·have g:=(hc a ha i 0 (by omega) (by decide)).2;have r:=hr i 0 (by omega) (by rw [hsz _ (List.getElem_mem _)]; decide);have e1:es[i][0]'(by rw [hsz _ (List.getElem_mem _)]; decide)=D.raw (.string l[i].name):=by
    subst hes;simp
   rw [e1] at r;have e2:u i 0=.string l[i].name:=by
    generalize hu:u i 0=x at r;cases r;rfl
   rw [←e2]; exact g
  ·have g:=(hc a ha i 1 (by omega) (by decide)).2;have r:=hr i 1 (by omega) (by rw [hsz _ (List.getElem_mem _)]; decide);have e1:es[i][1]'(by rw [hsz _ (List.getElem_mem _)]; decide)=D.raw (.int .i64 l[i].par):=by
    subst hes;simp
   rw [e1] at r;have e2:u i 1=.int .i64 l[i].par:=by
    generalize hu:u i 1=x at r;cases r;rfl
   rw [←e2]; exact g
theorem line_c (t:Ty) (ht:t.nodes.length≤1000000) (a:Int) (h0:0≤a) (ha:a<t.nodes.length) (hp:∀ j,j<t.nodes.length→(t.nd j).par<j) (tok:Tks) (nt:Nat):DCall Tryz.prog 277 [t.av,I a] tok nt (.d (ints (upI t.pars a).reverse)) tok nt:=by
 intro box nb;refine ⟨Enters.mk Tryz.func277 rfl (by kernel_rfl),fun G w vals hm hr=>?_⟩;obtain ⟨hlen,hrv⟩:=hr
 match vals,hlen with
 | [v,x],_ =>
  have h0:=hrv 0 (by simp) (by simp);have h1:=hrv 1 (by simp) (by simp);simp only [List.getElem_cons_zero,List.getElem_cons_succ] at h0 h1;cases h1 with
  | d h1 =>
  cases h1 with
  | raw h1 =>
  cases h0 with
  | @agg _ vs hl h2 h3 =>
   match vs,hl with
   | [v1,v2],_ =>
    have h4:=h2 0 (by simp) (by simp);simp only [List.getElem_cons_zero] at h4;cases h4 with
    | d h4 =>
     obtain ⟨A,cap,rfl,hcap,hmax,hA,hc⟩:=rvd_pars h4;have e:t.nodes≠[]:=by intro e; rw [e] at ha; simp at ha; omega
     obtain ⟨a1,rfl⟩:=hA e;have hp0:0<t.nodes.length:=List.length_pos_iff.2 e
     have hc':=hc a1 rfl
     have hs:a1.spot=none:=by
      cases hsp:a1.spot with
      | none=>rfl
      | some q =>
       exfalso
       have:=(hc' 0 hp0).1
       simp only [World.cell?,Addr.add,hsp,Option.isSome_some, ↓reduceIte] at this;split at this <;> simp at this
     obtain ⟨b,off,sp⟩:=a1;simp only at hs;subst hs;have hcc:∀ j,j<t.nodes.length→w.cell? ⟨b,off+j * 4+1,none⟩=some (.int .i64 (t.pars.getD j 0)):=fun j hj=>by
      have h1:=(hc' j hj).2;rw [pars_getD t hj,nd_at hj];unfold Addr.add at h1;split at h1
      ·rename_i e; omega
      ·rw [show off+j * 4+1=off+(j * 4+1) by omega]; exact h1
     have hbw:b<w.heap.size:=lt_of_cell (hcc 0 hp0)
     refine (YtebmobphgaiaiaaGreat.line.any b off t.nodes.length cap v2 a t.pars w (by simp) ht (by omega) (fun j hj=>by rw [pars_getD t hj]; exact hp j hj) hbw hcc).mono ?_;rintro e w' ⟨v,rfl,hown,hb⟩;refine ⟨v,_,_,G,rfl,⟨rfl,rfl⟩,rfl,relM_below hm hb,.d (rvd_owns hm (by rw [List.length_reverse]; exact hown)),le_below hm hb,fun k hk=>⟨hk,rfl⟩⟩
theorem Ty.Fit.hM {t:Ty} (h:t.Fit) (i:Nat):(t.nd i).own.length≤1000:=by
 by_cases hi:i<t.nodes.length
 ·rw [nd_at hi]; exact (h.a _ (List.getElem_mem hi)).1
 ·simp [Ty.nd,List.getElem?_eq_none (Nat.le_of_not_lt hi)];exact Nat.zero_le _
theorem given1_c (t:Ty) (n:Int) (box:Bxs) (nb k:Nat) (tok:Tks) (nt:Nat) (h1:box k=some [[.d (nts t.nodes),.d (ets t.edges)]]) :
  ACalls Tryz.prog 276 [I n,.ptr k 0 0] ⟨box,nb,tok,nt⟩ fun v m=>v=B (!insB t n)∧m=⟨box,nb,tok,nt⟩:=by
 by_cases h0:n<0
 ·rw [show insB t n=false by simp only [insB,decide_eq_false_iff_not]; omega];refine sI Tryz.func276 Tryz.ntmps276 fun hbox htok=>?_
  have k1n:=key_lt hbox h1;repeat (first|simp [lb_out k1n,h1,h0]|refine sR ?_)
  refine sT (sH hbox htok ?_);simp [packA]
 ·by_cases h2:(t.nodes.length:Int)≤n
  ·rw [show insB t n=false by simp only [insB,decide_eq_false_iff_not]; omega];refine sI Tryz.func276 Tryz.ntmps276 fun hbox htok=>?_
   have k1n:=key_lt hbox h1;repeat (first|simp [lb_out k1n,h1,h0,h2]|refine sR ?_)
   refine sT (sH hbox htok ?_);simp [packA]
  ·rw [show insB t n=true by simp only [insB,decide_eq_true_eq]; omega];refine sI Tryz.func276 Tryz.ntmps276 fun hbox htok=>?_
   have k1n:=key_lt hbox h1;repeat (first|simp [lb_out k1n,h1,h0,h2]|refine sR ?_)
   refine sT (sH hbox htok ?_);simp [packA]
def givE (t:Ty) (l:List Int):Int:=if tyE t=0 then (if anyB (fun a=>!insB t a) l=true then 6 else 0) else tyE t
theorem given_c (t:Ty) (ht:t.Fit) (l:List Int) (hl:l.length≤1000000) (tok:Tks) (nt:Nat):DCall Tryz.prog 229 [t.av,.d (ints l)] tok nt (I (givE t l)) tok nt:=by
 intro box nb;have h1:=valid_c4 t ht ht.hM;obtain ⟨N,hN⟩:∃ N,givE t l=N:=⟨_,rfl⟩
 rw [hN];unfold givE at hN;generalize tyE t=E at *;generalize tyN t=Z at *;refine sI Tryz.func229 Tryz.ntmps229 fun hbox htok=>?_
 repeat (first|simp|refine sR ?_)
 refine Stop.of_d (h1 _ _) ?_;repeat (first|simp|refine sR ?_)
 by_cases e1:E=0
 ·rw [if_pos e1] at hN;obtain ⟨p,hpp⟩:∃ p:Int→Bool,(fun a=>!insB t a)=p:=⟨_,rfl⟩
  have h2:=fun y box nb k hbk=>given1_c t y box nb k tok nt hbk
  have hpy:∀ y:Int,(!insB t y)=p y:=fun y=>by rw [←hpp]
  simp only [hpy] at h2;rw [hpp] at hN;refine sC ?_;simp [e1];repeat (first|simp|refine sR ?_)
  refine Stop.of_b (containsFunc_c l 276 [.ptr (nb+2) 0 0] p hl _ _ _ _ (fun c hc=>by rw [List.mem_singleton.1 hc]; simp [lb_at]) (fun y hy box' nb' he=>h2 y box' nb' _ (he _ _ (by simp [lb_at])))) ?_;simp;cases e2:anyB p l
  ·rw [e2,if_neg (by simp)] at hN;repeat (first|simp|refine sR ?_)
   refine sC ?_;repeat (first|simp|refine sR ?_)
   refine sT (sH hbox htok ?_);simp [packA,←hN]
  ·rw [e2,if_pos rfl] at hN;repeat (first|simp|refine sR ?_)
   refine sC ?_;repeat (first|simp|refine sR ?_)
   refine sT (sH hbox htok ?_);simp [packA,←hN]
 ·rw [if_neg e1] at hN;have b1:(E !=0)=true:=by simp [e1]
  refine sC ?_;simp [b1];repeat (first|simp|refine sR ?_)
  refine sT (sH hbox htok ?_);simp [packA,←hN]
def isB (t:Ty) (a b:Int):Bool:=decide (b∈upI t.pars a)
theorem is_c (t:Ty) (ht:t.Fit) (a b:Int) (h0:0≤a) (ha:a<t.nodes.length) (hp:∀ j,j<t.nodes.length→(t.nd j).par<j) (tok:Tks) (nt:Nat):DCall Tryz.prog 230 [t.av,I a,I b] tok nt (B (isB t a b)) tok nt:=by
 intro box nb;have hc:=line_c t (by have:=ht.n; omega) a h0 ha hp;have hlen:=upI_len t.pars a;have htn:=ht.n;obtain ⟨N,hN⟩:∃ N,isB t a b=N:=⟨_,rfl⟩
 rw [hN];unfold isB at hN;have hN2:decide (b∈(upI t.pars a).reverse)=N:=by rw [←hN]; simp
 have hl2:(upI t.pars a).reverse.length≤1000000:=by rw [List.length_reverse]; omega
 generalize (upI t.pars a).reverse=L at *;have hk:=contains_c L b hl2;rw [hN2] at hk;refine sI Tryz.func230 Tryz.ntmps230 fun hbox htok=>?_
 repeat (first|simp|refine sR ?_)
 refine Stop.of_d (hc _ _) ?_;repeat (first|simp|refine sR ?_)
 refine Stop.of_d (hk _ _) ?_;repeat (first|simp|refine sR ?_)
 refine sT (sH hbox htok ?_);simp [packA]
theorem tyE_par {t:Ty} (h:tyE t=0):∀ j,j<t.nodes.length→(t.nd j).par<j:=by
 unfold tyE at h;split at h
 ·cases h
 ·split at h
  ·cases h
  ·split at h
   ·cases h
   ·split at h
    ·rename_i h1;exact absurd h h1
    ·rename_i h1;exact fun j hj=>nodE_par (firstE_allZ _ (Decidable.not_not.1 h1) j hj)
def fitB (t:Ty) (e a b:Int):Bool :=
 if givE t [a,b]=0 then (if 0≤e then (if e<t.edges.length then (if isB t a (t.ed e.toNat).fr=true then isB t b (t.ed e.toNat).to else false) else false) else false) else false
theorem givE_in {t:Ty} {l:List Int} (h:givE t l=0):tyE t=0∧∀ a∈l,0≤a∧a<t.nodes.length:=by
 unfold givE at h;split at h
 ·rename_i h1;split at h
  ·cases h
  ·rename_i h2;refine ⟨h1,fun a ha=>?_⟩;simp only [anyB,List.any_eq_true,not_exists,not_and] at h2;have:=h2 a ha
   simpa [insB] using this
 ·rename_i h1;exact absurd h h1
theorem fits_c4 (t:Ty) (ht:t.Fit) (e a b:Int) (tok:Tks) (nt:Nat):DCall Tryz.prog 166 [t.av,I e,I a,I b] tok nt (B (fitB t e a b)) tok nt:=by
 intro box nb;have h1:=given_c t ht [a,b] (by simp);have hin:=@givE_in t [a,b];obtain ⟨N,hN⟩:∃ N,fitB t e a b=N:=⟨_,rfl⟩
 rw [hN];unfold fitB at hN;generalize givE t [a,b]=E at *;refine sI Tryz.func166 Tryz.ntmps166 fun hbox htok=>?_
 repeat (first|simp|refine sR ?_)
 refine ⟨rfl,?_⟩;refine Stop.data ?_;refine Stop.of_d (h1 _ _) ?_;simp;by_cases e1:E=0
 ·obtain ⟨htE,hin⟩:=hin e1;have ha:=hin a (by simp);have hb:=hin b (by simp);rw [if_pos e1] at hN;by_cases e2:0≤e
  ·have e2':¬ e<0:=by omega
   rw [if_pos e2] at hN;by_cases e3:e<t.edges.length
   ·have e3':¬ (t.edges.length:Int)≤e:=by omega
    rw [if_pos e3] at hN;obtain ⟨k,rfl⟩:=Int.eq_ofNat_of_zero_le e2;have hk:k<t.edges.length:=by omega
    rw [Int.toNat_natCast,ed_at hk] at hN;have c1:=is_c t ht a t.edges[k].fr ha.1 ha.2 (tyE_par htE);have c2:=is_c t ht b t.edges[k].to hb.1 hb.2 (tyE_par htE);repeat (first|simp [e1,e2',e3',hk]|refine sR ?_)
    refine sC ?_;simp [e1,e2',e3',hk];repeat (first|simp [hk]|refine sR ?_)
    refine Stop.of_d (c1 _ _) ?_;simp;cases f1:isB t a t.edges[k].fr
    ·rw [f1,if_neg (by simp)] at hN;repeat (first|simp|refine sR ?_)
     refine sT (sH hbox htok ?_);simp [packA,←hN]
    ·rw [f1,if_pos rfl] at hN;repeat (first|simp [hk]|refine sR ?_)
     refine Stop.of_d (c2 _ _) ?_;repeat (first|simp|refine sR ?_)
     refine sT (sH hbox htok ?_);simp [packA,←hN]
   ·have e3':(t.edges.length:Int)≤e:=by omega
    rw [if_neg e3] at hN;repeat (first|simp [e1,e2',e3']|refine sR ?_|refine sC ?_)
    refine sT (sH hbox htok ?_);simp [packA,←hN]
  ·have e2':e<0:=by omega
   rw [if_neg e2] at hN;repeat (first|simp [e1,e2']|refine sR ?_|refine sC ?_)
   refine sT (sH hbox htok ?_);simp [packA,←hN]
 ·rw [if_neg e1] at hN;have b1:(E !=0)=true:=by simp [e1]
  repeat (first|simp [b1]|refine sR ?_|refine sC ?_)
  refine sT (sH hbox htok ?_);simp [packA,←hN]
theorem below1Neg_c (t:Ty) (a b:Int) (h0:a<0) (hb:0≤b) (tok:Tks) (nt:Nat):DCall Tryz.prog 184 [t.av,I a,I b] tok nt (B false) tok nt:=by
 intro box nb;have h0':¬ 0≤a:=by omega
 have e:(a==b)=false:=by simp; omega
 refine sI Tryz.func184 Tryz.ntmps184 fun hbox htok=>?_
 repeat (first|simp [e,h0']|refine sR ?_)
 refine sT (sH hbox htok ?_);simp [packA]
theorem below1_c (t:Ty) (b:Int) (hb:0≤b) (hp:∀ j,j<t.nodes.length→(t.nd j).par<j):∀ (n:Nat) (a:Int),a<n→a<t.nodes.length→∀ (tok:Tks) (nt:Nat),DCall Tryz.prog 184 [t.av,I a,I b] tok nt (B (isB t a b)) tok nt
  | 0,a,ha,_,tok,nt=>by
    rw [show isB t a b=false by rw [isB,upI_neg (by omega)]; simp];exact below1Neg_c t a b (by omega) hb tok nt
  | n+1,a,ha,hl,tok,nt=>by
    by_cases h0:a<0
    · rw [show isB t a b=false by rw [isB,upI_neg h0]; simp]
      exact below1Neg_c t a b h0 hb tok nt
    · obtain ⟨k,rfl⟩:=Int.eq_ofNat_of_zero_le (show 0≤a by omega)
      have hk:k<t.nodes.length:=by omega
      have hpk:=hp k hk;have hup:=upI_up (ps:=t.pars) (a:=(k:Int)) (by omega) (by rw [Int.toNat_natCast,pars_getD t hk]; exact hpk);rw [Int.toNat_natCast,pars_getD t hk] at hup;have ih:=below1_c t b hb hp n (t.nd k).par (by omega) (by omega);intro box nb;by_cases e:(k:Int)=b
      · have e':((k:Int)==b)=true:=by simp [e]
        rw [show isB t k b=true by rw [isB,hup]; simp [e]];refine sI Tryz.func184 Tryz.ntmps184 fun hbox htok=>?_
        repeat (first|simp [e']|refine sR ?_)
        refine sT (sH hbox htok ?_);simp [packA]
      · have e':((k:Int)==b)=false:=by simp [e]
        have hB:isB t k b=isB t (t.nd k).par b:=by
         rw [isB,hup,isB]; simp only [List.mem_cons,decide_eq_decide]; constructor
         · rintro (h|h)
           · exact absurd h.symm e
           · exact h
         · exact .inr
        rw [hB];rw [nd_at hk] at ih ⊢;refine sI Tryz.func184 Tryz.ntmps184 fun hbox htok=>?_
        repeat (first|simp [e',hk]|refine sR ?_)
        refine Stop.of_d (ih _ _) ?_;repeat (first|simp|refine sR ?_)
        refine sT (sH hbox htok ?_);simp [packA]
theorem given04_c (t:Ty) (ht:t.Fit) (a b:Int) (tok:Tks) (nt:Nat):DCall Tryz.prog 182 [t.av,I a,I b] tok nt (I (givE t [a,b])) tok nt:=by
 intro box nb;have htn:=ht.n;have h1:=valid04_c t ht ht.hM;have i1:=in04_c a 0 ((t.nodes.length:Int) - 1);have i2:=in04_c b 0 ((t.nodes.length:Int) - 1);have hins:∀ n:Int,inZ n 0 ((t.nodes.length:Int) - 1)=insB t n:=fun n=>by simp only [inZ,insB]; congr 1; simp only [eq_iff_iff]; omega
 rw [hins] at i1 i2;have hw0:IntKind.i64.wrap ((t.nodes.length:Int) - 1)=(t.nodes.length:Int) - 1:=by rw [wrap_in (by omega) (by omega)]
 obtain ⟨N,hN⟩:∃ N,givE t [a,b]=N:=⟨_,rfl⟩
 rw [hN];unfold givE at hN;simp only [anyB,List.any_cons,List.any_nil,Bool.or_false] at hN;generalize tyE t=E at *;generalize tyN t=Z at *;refine sI Tryz.func182 Tryz.ntmps182 fun hbox htok=>?_
 repeat (first|simp|refine sR ?_)
 refine Stop.of_d (h1 _ _) ?_;repeat (first|simp|refine sR ?_)
 by_cases e1:E=0
 ·rw [if_pos e1] at hN;cases e2:insB t a
  ·rw [e2] at i1 hN;rw [if_pos (by simp)] at hN;refine sC ?_;simp [e1];repeat (first|simp [hw0]|refine sR ?_)
   refine Stop.of_d (i1 _ _) ?_;repeat (first|simp|refine sR ?_)
   refine sC ?_;repeat (first|simp|refine sR ?_)
   refine sT (sH hbox htok ?_);simp [packA,←hN]
  ·cases e3:insB t b
   ·rw [e2] at i1;rw [e3] at i2;rw [e2,e3,if_pos (by simp)] at hN;refine sC ?_;simp [e1];repeat (first|simp [hw0]|refine sR ?_)
    refine Stop.of_d (i1 _ _) ?_;simp;repeat (first|simp [hw0]|refine sR ?_)
    refine Stop.of_d (i2 _ _) ?_;repeat (first|simp|refine sR ?_)
    refine sC ?_;repeat (first|simp|refine sR ?_)
    refine sT (sH hbox htok ?_);simp [packA,←hN]
   ·rw [e2] at i1;rw [e3] at i2;rw [e2,e3,if_neg (by simp)] at hN;refine sC ?_;simp [e1];repeat (first|simp [hw0]|refine sR ?_)
    refine Stop.of_d (i1 _ _) ?_;simp;repeat (first|simp [hw0]|refine sR ?_)
    refine Stop.of_d (i2 _ _) ?_;repeat (first|simp|refine sR ?_)
    refine sC ?_;repeat (first|simp|refine sR ?_)
    refine sT (sH hbox htok ?_);simp [packA,←hN]
 ·rw [if_neg e1] at hN;have b1:(E !=0)=true:=by simp [e1]
  refine sC ?_;simp [b1];repeat (first|simp|refine sR ?_)
  refine sT (sH hbox htok ?_);simp [packA,←hN]
theorem edgE_in {t:Ty} {i:Nat} (h:edgE t i=0):0≤(t.ed i).fr∧0≤(t.ed i).to:=by
 unfold edgE at h;split at h
 ·cases h
 ·split at h
  ·cases h
  ·unfold edR at h;split at h
   ·cases h
   ·split at h
    ·cases h
    ·rename_i h1 h2;simp only [insB,decide_eq_false_iff_not] at h1 h2;omega
theorem tyE_edge {t:Ty} (h:tyE t=0):∀ j,j<t.edges.length→0≤(t.ed j).fr∧0≤(t.ed j).to:=by
 unfold tyE at h;split at h
 ·cases h
 ·split at h
  ·cases h
  ·split at h
   ·cases h
   ·split at h
    ·rename_i h1;exact absurd h h1
    ·exact fun j hj=>edgE_in (firstE_allZ _ h j hj)
theorem fits04_c (t:Ty) (ht:t.Fit) (e a b:Int) (tok:Tks) (nt:Nat):DCall Tryz.prog 102 [t.av,I e,I a,I b] tok nt (B (fitB t e a b)) tok nt:=by
 intro box nb;have hte:=ht.e;have h1:=given04_c t ht a b;have i1:=in04_c e 0 ((t.edges.length:Int) - 1);have hw0:IntKind.i64.wrap ((t.edges.length:Int) - 1)=(t.edges.length:Int) - 1:=by rw [wrap_in (by omega) (by omega)]
 have hin:=@givE_in t [a,b];obtain ⟨N,hN⟩:∃ N,fitB t e a b=N:=⟨_,rfl⟩
 rw [hN];unfold fitB at hN;generalize givE t [a,b]=E at *;refine sI Tryz.func102 Tryz.ntmps102 fun hbox htok=>?_
 repeat (first|simp|refine sR ?_)
 refine Stop.of_d (h1 _ _) ?_;simp;by_cases e1:E=0
 ·obtain ⟨htE,hin⟩:=hin e1;have ha:=hin a (by simp);have hb:=hin b (by simp);rw [if_pos e1] at hN;by_cases e2:0≤e
  ·rw [if_pos e2] at hN;by_cases e3:e<t.edges.length
   ·have ei:inZ e 0 ((t.edges.length:Int) - 1)=true:=by simp only [inZ,decide_eq_true_eq]; omega
    rw [ei] at i1;rw [if_pos e3] at hN;obtain ⟨k,rfl⟩:=Int.eq_ofNat_of_zero_le e2;have hk:k<t.edges.length:=by omega
    have hfr:=tyE_edge htE k hk;rw [ed_at hk] at hfr;rw [Int.toNat_natCast,ed_at hk] at hN;have c1:=below1_c t t.edges[k].fr hfr.1 (tyE_par htE) t.nodes.length a ha.2 ha.2;have c2:=below1_c t t.edges[k].to hfr.2 (tyE_par htE) t.nodes.length b hb.2 hb.2;repeat (first|simp [e1,hw0]|refine sR ?_)
    refine Stop.of_d (i1 _ _) ?_;repeat (first|simp [hk]|refine sR ?_|refine sC ?_)
    refine Stop.of_d (c1 _ _) ?_;simp;cases f1:isB t a t.edges[k].fr
    ·rw [f1,if_neg (by simp)] at hN;repeat (first|simp|refine sR ?_)
     refine sT (sH hbox htok ?_);simp [packA,←hN]
    ·rw [f1,if_pos rfl] at hN;repeat (first|simp [hk]|refine sR ?_)
     refine Stop.of_d (c2 _ _) ?_;repeat (first|simp|refine sR ?_)
     refine sT (sH hbox htok ?_);simp [packA,←hN]
   ·have ei:inZ e 0 ((t.edges.length:Int) - 1)=false:=by simp only [inZ,decide_eq_false_iff_not]; omega
    rw [ei] at i1;rw [if_neg e3] at hN;repeat (first|simp [e1,hw0]|refine sR ?_)
    refine Stop.of_d (i1 _ _) ?_;repeat (first|simp|refine sR ?_)
    refine sC ?_;repeat (first|simp|refine sR ?_)
    refine sT (sH hbox htok ?_);simp [packA,←hN]
  ·have ei:inZ e 0 ((t.edges.length:Int) - 1)=false:=by simp only [inZ,decide_eq_false_iff_not]; omega
   rw [ei] at i1;rw [if_neg e2] at hN;repeat (first|simp [e1,hw0]|refine sR ?_)
   refine Stop.of_d (i1 _ _) ?_;repeat (first|simp|refine sR ?_)
   refine sC ?_;repeat (first|simp|refine sR ?_)
   refine sT (sH hbox htok ?_);simp [packA,←hN]
 ·rw [if_neg e1] at hN;have b1:(E !=0)=true:=by simp [e1]
  repeat (first|simp [b1]|refine sR ?_|refine sC ?_)
  refine sT (sH hbox htok ?_);simp [packA,←hN]
def stLf (c:Cd) (r:Ru) (nb:Nat) (box:Bxs) (x:Acc):AState :=
 ⟨tl [(7,I x.i),(6,.ptr (nb+6) 0 0),(4,.ptr (nb+4) 0 0),(3,.ptr (nb+3) 0 0),(2,.ptr (nb+2) 0 0)],
  lb nb box [(6,[[I c.kind,.osl 9 (((c.kids.take x.i).map fun k=>(k.lft r.sp).1).map Cd.cells) x.own,nilS,nilS,nilS,nilS,nilS,z0i,nilS]]),(4,[[z0i,nilS,nilS,nilS,nilS,nilS,nilS,z0i,nilS]]),(3,[c.row]),(2,[r.row])],x.tok,x.nt⟩
set_option maxRecDepth 100000 in
theorem left34_c (hB:BackOK):∀ (n:Nat) (c:Cd),SizeOf.sizeOf c<n→c.Fit→∀ r:Ru,SpOk r.sp→c.ovr r.rg=0→∀ (tok:Tks) (nt:Nat),DCall Tryz.prog 86 [r.av,c.av] tok nt (.tup [(c.lft r.sp).1.av,I (c.lft r.sp).2]) tok nt
 | 0,c,hn,_,_,_,_,_,_=>absurd hn (Nat.not_lt_zero _)
 | n+1,c,hn,hf,r,hs,hv,tok,nt=>by
  have ih:=fun x (hx:x∈c.kids)=>left34_c hB n x (by have:=Cd.kid_lt hx; omega) (hf.kid x hx)
  have hkl:=hf.kids;obtain ⟨h0,h1,h2⟩:=Cd.ovr_zero hv;by_cases k5:c.kind=5
  ·obtain ⟨hm,x,hkx⟩:=ovr_ex hv k5;have hi:c.inn r.rg=c.g:=if_pos k5
   rw [hi] at h2;exact exists34_c hB c x hkx k5 r hs hm (fun hd hb=>ih x (by rw [hkx]; simp) _ (Sp.inn_ok hs hm hd hb) (h2 x (by rw [hkx]; simp))) tok nt
  ·intro box nb;have hi:c.inn r.rg=r.rg:=if_neg k5
   rw [hi] at h2;have b5:(c.kind !=5)=true:=by simp [k5]
   have hL:c.lft r.sp=(if (kidsE (fun x=>Cd.lft x r.sp) c.kids).2≠0 then (cdOf 0 [],(kidsE (fun x=>Cd.lft x r.sp) c.kids).2) else (cdOf c.kind (kidsE (fun x=>Cd.lft x r.sp) c.kids).1,0)):=by rw [c.lft_eq]; exact if_pos k5
   have hkl2:=hkl;rw [kidN_eq] at hkl2;refine sI Tryz.func86 Tryz.ntmps86 fun hbox htok=>?_
   repeat (first|simp [b5]|refine sR ?_)
   refine sC ?_;repeat (first|simp|refine sR ?_)
   refine sN ?_;refine AL.loopT (stLf c r nb box) (fun x=>x.i≤c.kids.length∧(∀ y∈c.kids.take x.i,(y.lft r.sp).2=0)∧TK tok nt x.tok x.nt [x.own]) (fun x=>c.kids.length - x.i) ⟨0,.full,tok,nt⟩ ⟨Nat.zero_le _,by simp,(TK.start htok).full⟩ wkA ?_;rintro ⟨i,own,tok',nt'⟩ S ⟨hi,hok,htk⟩ hS;simp only [stLf] at hS hi htk hok;subst hS;have hw:=sW (i:=i) (by omega);obtain ⟨K,hK⟩:∃ K,(c.kids.take i).map (fun k=>(k.lft r.sp).1)=K:=⟨_,rfl⟩
   have hKl:K.length≤i:=by rw [←hK]; simp; omega
   rw [hK];repeat (first|simp|refine sR ?_|refine sC ?_)
   refine ⟨fun hlt=>?_,fun hge=>?_⟩
   ·have hmem:c.kids[i]∈c.kids:=List.getElem_mem hlt
    have ihx:=ih _ hmem r hs (h2 _ hmem);have hstep:(c.kids.take (i+1)).map (fun k=>(k.lft r.sp).1)=K++[(c.kids[i].lft r.sp).1]:=by rw [←hK,←List.take_append_getElem hlt,List.map_append]; rfl
    have hall:(c.kids[i].lft r.sp).2=0→∀ y∈c.kids.take (i+1),(y.lft r.sp).2=0:=fun h y hy=>by
     rw [←List.take_append_getElem hlt] at hy;rcases List.mem_append.1 hy with hy|hy
     ·exact hok y hy
     ·rw [List.mem_singleton.1 hy]; exact h
    have hbad:=fun h=>kidsE_at (f:=fun x=>Cd.lft x r.sp) hlt hok h
    repeat (first|simp [hlt,Cd.cells_eq]|refine sR ?_)
    refine Stop.of_d (ihx _ _) ?_;simp;generalize c.kids[i].lft r.sp=R at *;repeat (first|simp|refine sR ?_)
    by_cases e0:R.2=0
    ·simp only [e0];refine sC ?_;repeat (first|simp|refine sR ?_)
     refine ⟨⟨by omega,htk.live⟩,?_⟩;repeat (first|simp [hw]|refine sR ?_)
     refine sE ?_;exact ⟨⟨i+1,_,_,_⟩,⟨hlt,hall e0,htk.app⟩,by simp only; omega,Weaks.mk htk.app.le rfl (by simp [ToL,lk]) (by simp [BoxL,lk,hstep,Cd.cells_eq])⟩
    ·have b0:(R.2 !=0)=true:=by simp [e0]
     rw [hL,hbad e0,if_pos e0,zav];simp only [b0];refine sC ?_;repeat (first|simp|refine sR ?_)
     refine sT (sG hbox htok htk.old htk.le ?_);simp [packA, ]
   ·refine sX ?_;simp only [AU, ↓reduceIte];have:i=c.kids.length:=by omega
    subst this;rw [List.take_length] at hok;rw [List.take_length] at hK;rw [hL,kidsE_of hok,if_neg (by simp),hK];have hav:(cdOf c.kind K).av=.agg [I c.kind,.d (conds K),.d (ints []),.d (ints []),.d (ints []),.d (AM.edges []),.d (slots []),I 0,.d (tests [])]:=rfl
    rw [hav];repeat (first|simp|refine sR ?_)
    refine sT (sG hbox htok htk.old htk.le ?_);simp [packA,ints,AM.edges,slots,tests]
set_option maxRecDepth 100000 in
theorem left15_c (hB:BackOK) (r:Ru) (c:Cd) (hr:r.Fit) (hf:c.Fit) (tok:Tks) (nt:Nat):DCall Tryz.prog 39 [r.av,c.av] tok nt (.tup [(leftR r c).1.av,I (leftR r c).2]) tok nt:=by
 intro box nb;have h1:=structural34_c r hr;have h2:=validR_c r.rg c hr.rg hf;have h3:=fun hs hv=>left34_c hB _ c (Nat.lt_succ_self _) hf r hs hv
 refine sI Tryz.func39 Tryz.ntmps39 fun hbox htok=>?_
 repeat (first|simp|refine sR ?_)
 refine Stop.of_d (h1 _ _) ?_;repeat (first|simp|refine sR ?_)
 by_cases e1:strR r=0
 ·have hs:=(strR_zero e1).1;rw [show leftR r c=movR r.sp c by rw [leftR,if_neg (by simp [e1])]];simp only [e1];refine sC ?_;repeat (first|simp|refine sR ?_)
  refine Stop.of_d (h2 _ _) ?_;repeat (first|simp|refine sR ?_)
  by_cases e2:validC r.rg c=0
  ·have hv:=(validC_zero e2).2;have e2':validC r.sp.r c=0:=e2
   have hok:=lft_ok _ c (Nat.lt_succ_self _) hf r.sp hs hv;simp only [e2];refine sC ?_;repeat (first|simp|refine sR ?_)
   refine Stop.of_d (h3 hs hv _ _) ?_;simp;obtain ⟨R,hR⟩:∃ R,c.lft r.sp=R:=⟨_,rfl⟩
   rw [hR] at hok ⊢;repeat (first|simp|refine sR ?_)
   by_cases e3:R.2=0
   ·have ho:=hok e3;have h4:=small34_c R.1 ho.fit.big (ovr_shs _ _ (Nat.lt_succ_self _) _ ho.ovr);have hvc:validC r.sp.l R.1=smallC R.1:=by rw [validC,if_neg (by simp [hs.k.va]),if_neg (by simp [ho.ovr])]
    rw [show movR r.sp c=(if smallC R.1≠0 then cdOf 0 [] else R.1,smallC R.1) by
     rw [movR,if_neg (by simp [e2']),hR,if_neg (by simp [e3]),hvc];by_cases e4:smallC R.1=0 <;> simp [e4]]
    generalize (if smallC R.1≠0 then cdOf 0 [] else R.1)=Q at *;simp only [e3];refine sC ?_;repeat (first|simp|refine sR ?_)
    refine Stop.of_d (h4 _ _) ?_;repeat (first|simp|refine sR ?_)
    refine sT (sH hbox htok ?_);simp [packA]
   ·rw [show movR r.sp c=(cdOf 0 [],R.2) by rw [movR,if_neg (by simp [e2']),hR,if_pos e3],zav];have b3:(R.2 !=0)=true:=by simp [e3]
    simp only [b3];refine sC ?_;repeat (first|simp|refine sR ?_)
    refine sT (sH hbox htok ?_);simp [packA]
  ·have e2':¬ validC r.sp.r c=0:=e2
   rw [show movR r.sp c=(cdOf 0 [],validC r.rg c) by rw [movR,if_pos e2']; rfl,zav];have b2:(validC r.rg c !=0)=true:=by simp [e2]
   simp only [b2];refine sC ?_;repeat (first|simp|refine sR ?_)
   refine sT (sH hbox htok ?_);simp [packA]
 ·rw [show leftR r c=(cdOf 0 [],strR r) by rw [leftR,if_pos e1],zav];have b1:(strR r !=0)=true:=by simp [e1]
  simp only [b1];refine sC ?_;repeat (first|simp|refine sR ?_)
  refine sT (sH hbox htok ?_);simp [packA]
def leafB (t:Ty) (k:Int):Bool:=!anyB (fun n=>n.par==k) t.nodes
def allP {α:Type} (p:α→Bool) (l:List α):Bool:=l.all p
theorem all_no {α:Type} {p:α→Bool} {l:List α} {i:Nat} (h:i<l.length) (hp:p l[i]=false):allP p l=false:=by
 unfold allP;rw [←Bool.not_eq_true,List.all_eq_true];intro h2;have:=h2 _ (List.getElem_mem h)
 rw [hp] at this;cases this
theorem all_more {α:Type} {p:α→Bool} {l:List α} {i:Nat} (h:i<l.length) (h1:allP p (l.take i)=true) (hp:p l[i]=true):allP p (l.take (i+1))=true:=by
 unfold allP at *;rw [List.take_succ_eq_append_getElem h,List.all_append,h1];simp [hp]
def lvN (t:Ty) (n:Int):Bool:=if (t.nodes.length:Int)≤n then false else leafB t n
def lvE (t:Ty) (g:Gr) (e:E):Bool:=fitB t e.ty (g.nodes.getD e.fr.toNat 0) (g.nodes.getD e.to.toNat 0)
def lvsB (t:Ty) (g:Gr):Bool:=if allP (lvN t) g.nodes=true then allP (lvE t g) g.edges else false
theorem strR_valid {r:Ru} (h:strR r=0):validG r.lg=0∧validG r.rg=0:=(strR_zero h).2
def belK (t:Ty) (a:Int) (i:Nat):List Int:=((List.range i).filter fun (b:Nat)=>isB t (b:Int) a).map fun (b:Nat)=>(b:Int)
theorem belK_zero (t:Ty) (a:Int):belK t a 0=[]:=rfl
theorem belK_succ (t:Ty) (a:Int) (i:Nat):belK t a (i+1)=if isB t i a=true then belK t a i++[(i:Int)] else belK t a i:=by
 unfold belK;rw [List.range_succ,List.filter_append,List.map_append];by_cases h:isB t i a=true <;> simp [h]
theorem belK_len (t:Ty) (a:Int) (i:Nat):(belK t a i).length≤i:=by
 unfold belK;rw [List.length_map];exact Nat.le_trans (List.length_filter_le _ _) (by simp)
theorem belK_mem {t:Ty} {a x:Int} {i:Nat}:x∈belK t a i↔∃ b:Nat,b<i∧isB t b a=true∧x=b:=by
 simp only [belK,List.mem_map,List.mem_filter,List.mem_range];constructor
 ·rintro ⟨b,⟨h1,h2⟩,rfl⟩; exact ⟨b,h1,h2,rfl⟩
 ·rintro ⟨b,h1,h2,rfl⟩; exact ⟨b,⟨h1,h2⟩,rfl⟩
theorem belK_nodup (t:Ty) (a:Int) (i:Nat):(belK t a i).Nodup:=by
 refine List.Pairwise.map _ (fun x y h=>?_) (List.nodup_range.filter _);omega
theorem upI_child {ps:List Int} {n:Nat} (hp:∀ j,j<n→ps.getD j 0<j):∀ (m:Nat) (b:Int),b<m→b<n→∀ x∈upI ps b,x=b∨∃ j:Nat,j<n∧ps.getD j 0=x
 | 0,b,hm,_,x,hx=>by
  rw [upI_neg (by omega)] at hx;simp at hx
 | m+1,b,hm,hb,x,hx=>by
  by_cases h0:0≤b
  ·have h1:=hp b.toNat (by omega);have h1':ps.getD b.toNat 0<b:=by omega
   rw [upI_up h0 h1'] at hx;rcases List.mem_cons.1 hx with hx|hx
   ·exact .inl hx
   ·rcases upI_child hp m _ (by omega) (by omega) x hx with h|h
    ·exact .inr ⟨b.toNat,by omega,h.symm⟩
    ·exact .inr h
  ·rw [upI_neg (by omega)] at hx;simp at hx
theorem isB_self {t:Ty} {a:Int} (h0:0≤a) (ha:a<t.nodes.length) (hp:∀ j,j<t.nodes.length→(t.nd j).par<j):isB t a a=true:=by
 have h1:=hp a.toNat (by omega);rw [←pars_getD t (by omega)] at h1;unfold isB;rw [upI_up h0 (by omega)];simp
theorem below_leaf {t:Ty} {a:Int} (h0:0≤a) (ha:a<t.nodes.length) (hp:∀ j,j<t.nodes.length→(t.nd j).par<j):(belK t a t.nodes.length).length≤1↔leafB t a=true:=by
 have hp2:∀ j,j<t.nodes.length→t.pars.getD j 0<j:=fun j hj=>by rw [pars_getD t hj]; exact hp j hj
 have hself:=isB_self h0 ha hp;have hm1:a∈belK t a t.nodes.length:=belK_mem.2 ⟨a.toNat,by omega,by rw [Int.toNat_of_nonneg h0]; exact hself,by omega⟩
 constructor
 ·intro hl;cases hb:leafB t a with
  | true=>rfl
  | false =>
   exfalso
   unfold leafB anyB at hb;rw [Bool.not_eq_false'] at hb;obtain ⟨n,hn,hpar⟩:=List.any_eq_true.1 hb;obtain ⟨j,hj,rfl⟩:=List.getElem_of_mem hn;have hpj:t.pars.getD j 0=a:=by
    rw [pars_getD t hj,nd_at hj];simpa using hpar
   have hlt:=hp2 j hj;have hmj:(j:Int)∈belK t a t.nodes.length:=belK_mem.2 ⟨j,hj,by
    unfold isB;rw [upI_up (by omega) (by rw [Int.toNat_natCast]; omega),Int.toNat_natCast,hpj];have:a∈upI t.pars a:=by simpa [isB] using hself
    simp [this],rfl⟩
   have:=nodup_le [a,(j:Int)] _ (by simp; omega) (fun x hx=>by
    simp only [List.mem_cons,List.not_mem_nil,or_false] at hx;rcases hx with rfl|rfl
    ·exact hm1
    ·exact hmj)
   simp only [List.length_cons,List.length_nil] at this;omega
 ·intro hb;have:=nodup_le (belK t a t.nodes.length) [a] (belK_nodup _ _ _) (fun x hx=>by
   obtain ⟨b,hbn,hbs,rfl⟩:=belK_mem.1 hx;have hbs:a∈upI t.pars (b:Int):=by simpa [isB] using hbs
   rcases upI_child hp2 (b+1) b (by omega) (by omega) a hbs with h|⟨j,hj,h⟩
   ·simp [h]
   ·exfalso
    unfold leafB anyB at hb;rw [Bool.not_eq_true',←Bool.not_eq_true,List.any_eq_true] at hb;refine hb ⟨_,List.getElem_mem hj,?_⟩;rw [pars_getD t hj,nd_at hj] at h;simpa using h)
  simpa using this
structure Xt where
 m:Mo
 g:Gr
structure Co where
 name:ByteArray
 kind:Int
 g:Gr
 exts:List Xt
abbrev Xt.cells (x:Xt):List D:=[ints x.m.nodes,ints x.m.edges,ints x.g.nodes,AM.edges x.g.edges]
abbrev xts (l:List Xt):D:=.sl 4 (l.map Xt.cells)
abbrev Xt.av (x:Xt):AV:=.agg [.d (ints x.m.nodes),.d (ints x.m.edges),.d (ints x.g.nodes),.d (AM.edges x.g.edges)]
abbrev Co.row (c:Co):List AV:=[Sb c.name,I c.kind,.d (ints c.g.nodes),.d (AM.edges c.g.edges),.d (xts c.exts)]
abbrev Co.av (c:Co):AV:=.agg c.row
structure Xt.Fit (x:Xt):Prop where
 m:x.m.Fit
 g:x.g.Fit
structure Co.Fit (c:Co):Prop where
 name:c.name.size≤200000000000000
 g:c.g.Fit
 n:c.exts.length≤1000000
 exts:∀ x∈c.exts,x.Fit
def lrgB (g:Gr):Bool:=if 6<g.nodes.length then true else decide (8<g.edges.length)
def xtE (p:Gr) (x:Xt):Int:=if validM p x.g x.m≠0 then validM p x.g x.m else if lrgB x.g=true then 3 else if injM p x.g x.m=true then 0 else 1
def xtAt (c:Co) (i:Nat):Int:=match c.exts[i]? with|some x=>xtE c.g x|none=>0
theorem xtAt_at {c:Co} {i:Nat} (h:i<c.exts.length):xtAt c i=xtE c.g c.exts[i]:=by simp [xtAt,h]
def kdE (c:Co):Int :=
 if c.kind=1 then if c.exts=[] then 0 else 1 else if c.kind=2 then if c.exts=[] then 7 else if 6<c.exts.length then 3 else 0 else 1
def shpE (c:Co):Int :=
 if nameB c.name=false then 2 else if kdE c≠0 then kdE c else if validG c.g≠0 then validG c.g else if lrgB c.g=true then 3 else firstE (xtAt c) c.exts.length
def lvX (t:Ty) (c:Co):Bool:=if lvsB t c.g=true then allP (fun x:Xt=>lvsB t x.g) c.exts else false
def cnE (t:Ty) (c:Co):Int:=if tyE t≠0 then tyE t else if shpE c≠0 then shpE c else if lvX t c=true then 0 else 13
theorem shpE_zero {c:Co} (h:shpE c=0):nameB c.name=true∧kdE c=0∧validG c.g=0∧lrgB c.g=false∧∀ x∈c.exts,validM c.g x.g x.m=0∧lrgB x.g=false∧injM c.g x.g x.m=true:=by
 unfold shpE at h;split at h
 ·cases h
 rename_i h1;split at h
 ·rename_i h2; exact absurd h h2
 rename_i h2;split at h
 ·rename_i h3; exact absurd h h3
 rename_i h3;split at h
 ·cases h
 rename_i h4;refine ⟨by simpa using h1,by simpa using h2,by simpa using h3,by simpa using h4,fun x hx=>?_⟩;obtain ⟨i,hi,rfl⟩:=List.getElem_of_mem hx;have h5:=firstE_allZ _ h i hi;rw [xtAt_at hi] at h5;unfold xtE at h5;split at h5
 ·rename_i h6; exact absurd h5 h6
 rename_i h6;split at h5
 ·cases h5
 rename_i h7;split at h5
 ·rename_i h8; exact ⟨by simpa using h6,by simpa using h7,h8⟩
 ·cases h5
theorem leafK1_c (x:NT) (y:Int) (box:Bxs) (nb k:Nat) (tok:Tks) (nt:Nat) (h1:box k=some [[I y]]) :
  ACalls Tryz.prog 278 [x.av,.ptr k 0 0] ⟨box,nb,tok,nt⟩ fun v m=>v=B (x.par==y)∧m=⟨box,nb,tok,nt⟩:=by
 refine sI Tryz.func278 Tryz.ntmps278 fun hbox htok=>?_
 have k1n:=key_lt hbox h1;repeat (first|simp [lb_out k1n,h1]|refine sR ?_)
 refine sT (sH hbox htok ?_);simp [packA]
theorem leafK_c (t:Ty) (ht:t.nodes.length≤1000000) (k:Int) (tok:Tks) (nt:Nat):DCall Tryz.prog 232 [t.av,I k] tok nt (B (leafB t k)) tok nt:=by
 intro box nb;obtain ⟨p,hpp⟩:∃ p:NT→Bool,(fun n=>n.par==k)=p:=⟨_,rfl⟩
 have h2:=fun y box nb q hbk=>leafK1_c y k box nb q tok nt hbk
 have hpy:∀ y:NT,(y.par==k)=p y:=fun y=>by rw [←hpp]
 simp only [hpy] at h2;unfold leafB;rw [hpp];refine sI Tryz.func232 Tryz.ntmps232 fun hbox htok=>?_
 repeat (first|simp|refine sR ?_)
 refine Stop.of_b (containsFuncN_c t.nodes 278 [.ptr (nb+3) 0 0] p ht _ _ _ _ (fun c hc=>by rw [List.mem_singleton.1 hc]; simp [lb_at]) (fun y hy box' nb' he=>h2 y box' nb' _ (he _ _ (by simp [lb_at])))) ?_;repeat (first|simp|refine sR ?_)
 refine sT (sH hbox htok ?_);simp [packA]
theorem leavesK1_c (t:Ty) (ht:t.Fit) (g:Gr) (e:E) (h0:0≤e.fr∧e.fr<g.nodes.length) (h2:0≤e.to∧e.to<g.nodes.length) (box:Bxs) (nb k1 k2:Nat) (tok:Tks) (nt:Nat) (h1:box k1=some [[.d (nts t.nodes),.d (ets t.edges)]]) (h3:box k2=some [[.d (ints g.nodes),.d (AM.edges g.edges)]]) :
  ACalls Tryz.prog 233 [.agg [I e.ty,I e.fr,I e.to],.ptr k1 0 0,.ptr k2 0 0] ⟨box,nb,tok,nt⟩ fun v m=>v=B (!lvE t g e)∧m=⟨box,nb,tok,nt⟩:=by
 obtain ⟨ty,fr,to'⟩:=e;simp only at h0 h2;obtain ⟨a,rfl⟩:=Int.eq_ofNat_of_zero_le h0.1;obtain ⟨b,rfl⟩:=Int.eq_ofNat_of_zero_le h2.1;have ha:a<g.nodes.length:=by omega
 have hb:b<g.nodes.length:=by omega
 have hc:=fits_c4 t ht ty g.nodes[a] g.nodes[b];have hL:lvE t g ⟨ty,a,b⟩=fitB t ty g.nodes[a] g.nodes[b]:=by simp [lvE,ha,hb]
 rw [hL];generalize fitB t ty g.nodes[a] g.nodes[b]=R at *;refine sI Tryz.func233 Tryz.ntmps233 fun hbox htok=>?_
 have k1n:=key_lt hbox h1;have k2n:=key_lt hbox h3;repeat (first|simp [lb_out k1n,lb_out k2n,h1,h3,ha,hb]|refine sR ?_)
 refine Stop.of_d (hc _ _) ?_;repeat (first|simp|refine sR ?_)
 refine sT (sH hbox htok ?_);simp [packA]
def stKv (t:Ty) (g:Gr) (nb:Nat) (box:Bxs) (tok:Tks) (nt:Nat) (i:Nat):AState :=
 ⟨tl [(10,I i),(9,I g.nodes.length),(8,.d (ints g.nodes)),(3,.ptr (nb+3) 0 0),(2,.ptr (nb+2) 0 0)],lb nb box [(3,[[.d (ints g.nodes),.d (AM.edges g.edges)]]),(2,[[.d (nts t.nodes),.d (ets t.edges)]])],tok,nt⟩
theorem leavesK_c (t:Ty) (ht:t.Fit) (g:Gr) (hg:g.Fit) (hv:∀ e∈g.edges,0≤e.fr∧e.fr<g.nodes.length∧0≤e.to∧e.to<g.nodes.length) (tok:Tks) (nt:Nat):DCall Tryz.prog 167 [t.av,g.av] tok nt (B (lvsB t g)) tok nt:=by
 intro box nb;have hgn:=hg.n;have hge:=hg.e;have htn:=ht.n;obtain ⟨N,hN⟩:∃ N,lvsB t g=N:=⟨_,rfl⟩
 rw [hN];unfold lvsB at hN;refine sI Tryz.func167 Tryz.ntmps167 fun hbox htok=>?_
 repeat (first|simp|refine sR ?_)
 refine sN ?_;refine AL.loopT (stKv t g nb box tok nt) (fun i=>i≤g.nodes.length∧allP (lvN t) (g.nodes.take i)=true) (fun i=>g.nodes.length - i) 0 ⟨Nat.zero_le _,by simp [allP]⟩ wkA ?_;rintro i S' ⟨hi,hok⟩ hS;simp only [stKv] at hS;subst hS;have hw:=sW (i:=i) (by omega);repeat (first|simp|refine sR ?_|refine sC ?_)
 refine ⟨fun hlt=>?_,fun hge=>?_⟩
 ·have hno:=fun h=>all_no (p:=lvN t) hlt h
  have hyes:=fun h=>all_more (p:=lvN t) hlt hok h
  have hl:lvN t g.nodes[i]=if (t.nodes.length:Int)≤g.nodes[i] then false else leafB t g.nodes[i]:=rfl
  have hc:=leafK_c t (by omega) g.nodes[i];by_cases e1:(t.nodes.length:Int)≤g.nodes[i]
  ·rw [if_pos e1] at hl;rw [hno hl,if_neg (by simp)] at hN;repeat (first|simp [hlt,e1]|refine sR ?_)
   refine sC ?_;simp [e1];repeat (first|simp|refine sR ?_)
   refine sT (sH hbox htok ?_);simp [packA,←hN]
  ·rw [if_neg e1] at hl;repeat (first|simp [hlt,e1]|refine sR ?_)
   refine Stop.of_d (hc _ _) ?_;simp;cases e2:leafB t g.nodes[i]
   ·rw [e2] at hl;rw [hno hl,if_neg (by simp)] at hN;repeat (first|simp|refine sR ?_)
    refine sC ?_;repeat (first|simp|refine sR ?_)
    refine sT (sH hbox htok ?_);simp [packA,←hN]
   ·rw [e2] at hl;repeat (first|simp [hw]|refine sR ?_|refine sC ?_)
    refine sE ?_;exact ⟨i+1,⟨hlt,hyes hl⟩,by omega,wkA⟩
 ·refine sX ?_;simp only [AU, ↓reduceIte];have:i=g.nodes.length:=by omega
  subst this;rw [List.take_length] at hok;rw [if_pos hok] at hN;obtain ⟨p,hpp⟩:∃ p:E→Bool,(fun e=>!lvE t g e)=p:=⟨_,rfl⟩
  have h2:=fun y (hy:y∈g.edges) box nb k1 k2 hk1 hk2=>leavesK1_c t ht g y ⟨(hv y hy).1,(hv y hy).2.1⟩ ⟨(hv y hy).2.2.1,(hv y hy).2.2.2⟩ box nb k1 k2 tok nt hk1 hk2
  have hpy:∀ y:E,(!lvE t g y)=p y:=fun y=>by rw [←hpp]
  simp only [hpy] at h2;have hN2:(!anyB p g.edges)=N:=by
   rw [←hN,←hpp,allP,anyB,List.any_eq_not_all_not,Bool.not_not];simp
  repeat (first|simp|refine sR ?_)
  have hcap:∀ c∈[AV.ptr (nb+2) 0 0,AV.ptr (nb+3) 0 0],OkIn (fun k=>(lb nb box [(3,[[.d (ints g.nodes),.d (AM.edges g.edges)]]),(2,[[.d (nts t.nodes),.d (ets t.edges)]])]) k≠none) (fun _=>True) c:=by
   intro c hc;simp only [List.mem_cons,List.not_mem_nil,or_false] at hc;rcases hc with h|h
   ·rw [h]; simp [lb_at]
   ·rw [h]; simp [lb_at]
  refine Stop.of_b (containsFuncE_c g.edges 233 [.ptr (nb+2) 0 0,.ptr (nb+3) 0 0] p hg.e _ _ _ _ hcap (fun y hy box' nb' he=>h2 y hy box' nb' _ _ (he _ _ (by simp [lb_at])) (he _ _ (by simp [lb_at])))) ?_;repeat (first|simp|refine sR ?_)
  refine sT (sH hbox htok ?_);simp [packA,←hN2]
def stKr (t:Ty) (k:Int) (nb:Nat) (box:Bxs) (tok:Tks) (nt:Nat) (i:Nat):AState :=
 ⟨tl [(5,I i),(1,I k),(2,.ptr (nb+2) 0 0)],lb nb box [(2,[[.d (nts t.nodes),.d (ets t.edges)]])],tok,nt⟩
theorem leafS_c (t:Ty) (ht:t.nodes.length≤1000000) (k:Int) (tok:Tks) (nt:Nat):DCall Tryz.prog 101 [t.av,I k] tok nt (B (leafB t k)) tok nt:=by
 intro box nb;obtain ⟨N,hN⟩:∃ N,leafB t k=N:=⟨_,rfl⟩
 rw [hN];have hN2:allP (fun n=>!(n.par==k)) t.nodes=N:=by rw [←hN,allP,leafB,anyB,List.any_eq_not_all_not,Bool.not_not]
 clear hN;refine sI Tryz.func101 Tryz.ntmps101 fun hbox htok=>?_
 repeat (first|simp|refine sR ?_)
 refine sN ?_;refine AL.loopT (stKr t k nb box tok nt) (fun i=>i≤t.nodes.length∧allP (fun n=>!(n.par==k)) (t.nodes.take i)=true) (fun i=>t.nodes.length - i) 0 ⟨Nat.zero_le _,by simp [allP]⟩ wkA ?_;rintro i S' ⟨hi,hok⟩ hS;simp only [stKr] at hS;subst hS;have hw:=sW (i:=i) (by omega);repeat (first|simp|refine sR ?_|refine sC ?_)
 refine ⟨fun hlt=>?_,fun hge=>?_⟩
 ·have hno:=fun h=>all_no (p:=fun n:NT=>!(n.par==k)) hlt h
  have hyes:=fun h=>all_more (p:=fun n:NT=>!(n.par==k)) hlt hok h
  cases e1:t.nodes[i].par==k
  ·repeat (first|simp [hlt,e1]|refine sR ?_)
   refine sC ?_;simp [e1];repeat (first|simp [hw]|refine sR ?_)
   refine sE ?_;exact ⟨i+1,⟨hlt,hyes (by simp only [e1]; rfl)⟩,by omega,wkA⟩
  ·rw [hno (by simp only [e1]; rfl)] at hN2;repeat (first|simp [hlt,e1]|refine sR ?_)
   refine sC ?_;simp [e1];repeat (first|simp|refine sR ?_)
   refine sT (sH hbox htok ?_);simp [packA,←hN2]
 ·refine sX ?_;simp only [AU, ↓reduceIte];have:i=t.nodes.length:=by omega
  subst this;rw [List.take_length] at hok;rw [hok] at hN2;repeat (first|simp|refine sR ?_)
  refine sT (sH hbox htok ?_);simp [packA,←hN2]
def stKg (t:Ty) (g:Gr) (nb:Nat) (box:Bxs) (tok:Tks) (nt:Nat) (i:Nat):AState :=
 ⟨tl [(5,I i),(3,.ptr (nb+3) 0 0),(2,.ptr (nb+2) 0 0)],lb nb box [(3,[[.d (ints g.nodes),.d (AM.edges g.edges)]]),(2,[[.d (nts t.nodes),.d (ets t.edges)]])],tok,nt⟩
def stKh (t:Ty) (g:Gr) (nb:Nat) (box:Bxs) (tok:Tks) (nt:Nat) (i:Nat):AState :=
 ⟨tl [(6,I i),(3,.ptr (nb+3) 0 0),(2,.ptr (nb+2) 0 0)],lb nb box [(3,[[.d (ints g.nodes),.d (AM.edges g.edges)]]),(2,[[.d (nts t.nodes),.d (ets t.edges)]])],tok,nt⟩
theorem leavesS_c (t:Ty) (ht:t.Fit) (g:Gr) (hg:g.Fit) (hv:∀ e∈g.edges,0≤e.fr∧e.fr<g.nodes.length∧0≤e.to∧e.to<g.nodes.length) (tok:Tks) (nt:Nat):DCall Tryz.prog 95 [t.av,g.av] tok nt (B (lvsB t g)) tok nt:=by
 intro box nb;have hgn:=hg.n;have hge:=hg.e;have htn:=ht.n;obtain ⟨N,hN⟩:∃ N,lvsB t g=N:=⟨_,rfl⟩
 rw [hN];unfold lvsB at hN;refine sI Tryz.func95 Tryz.ntmps95 fun hbox htok=>?_
 repeat (first|simp|refine sR ?_)
 refine sN ?_;refine AL.loopT (stKg t g nb box tok nt) (fun i=>i≤g.nodes.length∧allP (lvN t) (g.nodes.take i)=true) (fun i=>g.nodes.length - i) 0 ⟨Nat.zero_le _,by simp [allP]⟩ wkA ?_;rintro i S' ⟨hi,hok⟩ hS;simp only [stKg] at hS;subst hS;have hw:=sW (i:=i) (by omega);repeat (first|simp|refine sR ?_|refine sC ?_)
 refine ⟨fun hlt=>?_,fun hge=>?_⟩
 ·have hno:=fun h=>all_no (p:=lvN t) hlt h
  have hyes:=fun h=>all_more (p:=lvN t) hlt hok h
  have hl:lvN t g.nodes[i]=if (t.nodes.length:Int)≤g.nodes[i] then false else leafB t g.nodes[i]:=rfl
  have hc:=leafS_c t (by omega) g.nodes[i];by_cases e1:(t.nodes.length:Int)≤g.nodes[i]
  ·rw [if_pos e1] at hl;rw [hno hl,if_neg (by simp)] at hN;repeat (first|simp [hlt,e1]|refine sR ?_)
   refine sC ?_;simp [e1];repeat (first|simp|refine sR ?_)
   refine sT (sH hbox htok ?_);simp [packA,←hN]
  ·rw [if_neg e1] at hl;repeat (first|simp [hlt,e1]|refine sR ?_)
   refine Stop.of_d (hc _ _) ?_;simp;cases e2:leafB t g.nodes[i]
   ·rw [e2] at hl;rw [hno hl,if_neg (by simp)] at hN;repeat (first|simp|refine sR ?_)
    refine sC ?_;repeat (first|simp|refine sR ?_)
    refine sT (sH hbox htok ?_);simp [packA,←hN]
   ·rw [e2] at hl;repeat (first|simp [hw]|refine sR ?_|refine sC ?_)
    refine sE ?_;exact ⟨i+1,⟨hlt,hyes hl⟩,by omega,wkA⟩
 ·refine sX ?_;simp only [AU, ↓reduceIte];have:i=g.nodes.length:=by omega
  subst this;rw [List.take_length] at hok;rw [if_pos hok] at hN;repeat (first|simp|refine sR ?_)
  refine sN ?_;refine AL.loopT (stKh t g nb box tok nt) (fun i=>i≤g.edges.length∧allP (lvE t g) (g.edges.take i)=true) (fun i=>g.edges.length - i) 0 ⟨Nat.zero_le _,by simp [allP]⟩ wkA ?_;rintro i S' ⟨hi,hok⟩ hS;simp only [stKh] at hS;subst hS;have hw:=sW (i:=i) (by omega);repeat (first|simp|refine sR ?_|refine sC ?_)
  refine ⟨fun hlt=>?_,fun hge=>?_⟩
  ·have hno:=fun h=>all_no (p:=lvE t g) hlt h
   have hyes:=fun h=>all_more (p:=lvE t g) hlt hok h
   have hve:=hv _ (List.getElem_mem hlt);obtain ⟨a,hef⟩:=Int.eq_ofNat_of_zero_le hve.1;obtain ⟨b,het⟩:=Int.eq_ofNat_of_zero_le hve.2.2.1;have ha:a<g.nodes.length:=by omega
   have hb:b<g.nodes.length:=by omega
   have hc:=fits04_c t ht g.edges[i].ty g.nodes[a] g.nodes[b];have hL:lvE t g g.edges[i]=fitB t g.edges[i].ty g.nodes[a] g.nodes[b]:=by simp [lvE,hef,het,ha,hb]
   rw [hL] at hno hyes;repeat (first|simp [hlt,hef,het,ha,hb]|refine sR ?_)
   refine Stop.of_d (hc _ _) ?_;simp;cases e1:fitB t g.edges[i].ty g.nodes[a] g.nodes[b]
   ·rw [hno e1] at hN;repeat (first|simp|refine sR ?_)
    refine sC ?_;repeat (first|simp|refine sR ?_)
    refine sT (sH hbox htok ?_);simp [packA,←hN]
   ·repeat (first|simp [hw]|refine sR ?_|refine sC ?_)
    refine sE ?_;exact ⟨i+1,⟨hlt,hyes e1⟩,by omega,wkA⟩
  ·refine sX ?_;simp only [AU, ↓reduceIte];have:i=g.edges.length:=by omega
   subst this;rw [List.take_length] at hok;rw [hok] at hN;repeat (first|simp|refine sR ?_)
   refine sT (sH hbox htok ?_);simp [packA,←hN]
def stIX (xs:List Xt) (f:FuncId) (caps:List AV) (nb:Nat) (box:Bxs) (tok:Tks) (nt:Nat) (i:Nat):AState:=⟨tl [(0,.d (xts xs)),(1,.fn (.func f) caps),(7,I xs.length),(8,I i)],lb nb box [],tok,nt⟩
theorem indexFuncX_c (xs:List Xt) (f:FuncId) (caps:List AV) (p:Xt→Bool) (hx:xs.length≤1000000) (box:Bxs) (nb:Nat) (tok:Tks) (nt:Nat) (hc:∀ c∈caps,OkIn (fun k=>box k≠none) (fun _=>True) c)
  (hf:∀ x∈xs,∀ box' nb',Ext box box'→ACalls Tryz.prog f (x.av::caps) ⟨box',nb',tok,nt⟩ fun v m=>v=B (p x)∧m=⟨box',nb',tok,nt⟩) :
  ACalls Tryz.prog 234 [.d (xts xs),.fn (.func f) caps] ⟨box,nb,tok,nt⟩ fun v m=>v=I (if anyB p xs=true then (xs.findIdx p:Nat) else -1)∧m=⟨box,nb,tok,nt⟩:=by
 refine sI Tryz.func234 Tryz.ntmps234 fun hbox htok=>?_
 repeat (first|simp|refine sR ?_)
 refine sN ?_;refine AL.loopT (stIX xs f caps nb box tok nt) (fun i=>i≤xs.length∧∀ x∈xs.take i,p x=false) (fun i=>xs.length - i) 0 ⟨Nat.zero_le _,by simp⟩ (Weaks.mk (Nat.le_refl _) rfl (by simp [ToL]; exact .same (okFn hc hbox [] (by simp) rfl _)) trivial) ?_;rintro i S' ⟨hi,htk⟩ hS;simp only [stIX] at hS;subst hS;have hw:=sW (i:=i) (by omega);repeat (first|simp|refine sR ?_|refine sC ?_)
 refine ⟨fun hlt=>?_,fun hge=>?_⟩
 ·have hfx:=hf xs[i] (List.getElem_mem _);have hpx:p xs[i]=true→anyB p xs=true∧(xs.findIdx p=i):=fun he=>any_takeG hlt htk he
  have hmore:p xs[i]=false→∀ x∈xs.take (i+1),p x=false:=fun he x hx=>by
   rw [List.take_succ_eq_append_getElem hlt] at hx;rcases List.mem_append.1 hx with hx|hx
   ·exact htk x hx
   ·simp at hx; rw [hx]; exact he
  repeat (first|simp [hlt]|refine sR ?_)
  generalize xs[i]=x at *;refine Stop.of_b (hfx _ _ ((Ext.refl box).lb hbox [])) ?_;simp;cases he:p x
  ·refine sC ?_;simp;repeat (first|simp [hw]|refine sR ?_)
   refine sE ?_;refine ⟨i+1,⟨hlt,?_⟩,by omega,Weaks.mk (Nat.le_refl _) rfl (by simp [ToL]; exact .same (okFn hc hbox [] (by simp) rfl _)) trivial⟩;exact hmore he
  ·obtain ⟨h1,h2⟩:=hpx he;refine sC ?_;repeat (first|simp|refine sR ?_)
   refine sT (sH hbox htok ?_);simp [packA,h1,h2]
 ·have hn:anyB p xs=false:=by
   rw [List.take_of_length_le hge] at htk;simpa [anyB] using htk
  refine sX ?_;simp only [AU, ↓reduceIte];repeat (first|simp|refine sR ?_)
  refine sT (sH hbox htok ?_);simp [packA,hn]
theorem containsFuncX_c (xs:List Xt) (f:FuncId) (caps:List AV) (p:Xt→Bool) (hx:xs.length≤1000000) (box:Bxs) (nb:Nat) (tok:Tks) (nt:Nat) (hc:∀ c∈caps,OkIn (fun k=>box k≠none) (fun _=>True) c)
  (hf:∀ x∈xs,∀ box' nb',Ext box box'→ACalls Tryz.prog f (x.av::caps) ⟨box',nb',tok,nt⟩ fun v m=>v=B (p x)∧m=⟨box',nb',tok,nt⟩) :
  ACalls Tryz.prog 168 [.d (xts xs),.fn (.func f) caps] ⟨box,nb,tok,nt⟩ fun v m=>v=B (anyB p xs)∧m=⟨box,nb,tok,nt⟩:=by
 obtain ⟨A,hany⟩:∃ A,anyB p xs=A:=⟨_,rfl⟩
 have hi:=fun b nb' h1 h2=>indexFuncX_c xs f caps p hx b nb' tok nt h1 h2
 rw [hany];simp only [hany] at hi;refine sI Tryz.func168 Tryz.ntmps168 fun hbox htok=>?_
 repeat (first|simp|refine sR ?_)
 refine Stop.of_b (hi (lb nb box []) _ (fun c h=>(hc c h).mono (fun k hk=>by rw [hbox]; exact hk) fun _ h=>h) (fun x hx' box' nb' he=>hf x hx' box' nb' (by rw [hbox] at he; exact he))) ?_;simp;cases A
 ·repeat (first|simp|refine sR ?_)
  refine sT (sH hbox htok ?_);simp [packA]
 ·have h0:(0:Int)≤(xs.findIdx p:Nat):=by omega
  repeat (first|simp|refine sR ?_)
  refine sT (sH hbox htok ?_);simp [packA,h0]
theorem lrgK_c (g:Gr) (hg:g.Fit) (tok:Tks) (nt:Nat):DCall Tryz.prog 195 [g.av] tok nt (B (lrgB g)) tok nt:=by
 intro box nb;have hn:=hg.n;have he:=hg.e;obtain ⟨N,hN⟩:∃ N,lrgB g=N:=⟨_,rfl⟩
 rw [hN];unfold lrgB at hN;by_cases e1:6<g.nodes.length
 ·have e1':(6:Int)<g.nodes.length:=by omega
  rw [if_pos e1] at hN;refine sI Tryz.func195 Tryz.ntmps195 fun hbox htok=>?_
  try (simp [e1,e1'])
  repeat (first|(refine sR ?_; simp [e1,e1'])|(refine sC ?_; simp [e1,e1'])|(refine sX ?_; simp only [AU, ↓reduceIte]))
  refine sT (sH hbox htok ?_);simp [packA,←hN]
 ·have e1':¬ (6:Int)<g.nodes.length:=by omega
  rw [if_neg e1] at hN;by_cases e2:8<g.edges.length
  ·have e2':(8:Int)<g.edges.length:=by omega
   rw [decide_eq_true e2] at hN;refine sI Tryz.func195 Tryz.ntmps195 fun hbox htok=>?_
   try (simp [e1,e1',e2,e2'])
   repeat (first|(refine sR ?_; simp [e1,e1',e2,e2'])|(refine sC ?_; simp [e1,e1',e2,e2'])|(refine sX ?_; simp only [AU, ↓reduceIte]))
   refine sT (sH hbox htok ?_);simp [packA,←hN,e2']
  ·have e2':¬ (8:Int)<g.edges.length:=by omega
   rw [decide_eq_false e2] at hN;refine sI Tryz.func195 Tryz.ntmps195 fun hbox htok=>?_
   try (simp [e1,e1',e2,e2'])
   repeat (first|(refine sR ?_; simp [e1,e1',e2,e2'])|(refine sC ?_; simp [e1,e1',e2,e2'])|(refine sX ?_; simp only [AU, ↓reduceIte]))
   refine sT (sH hbox htok ?_);simp [packA,←hN,e2']
theorem kd_cases (c:Co):(c.kind=1∧c.exts=[]∧kdE c=0)∨(c.kind=1∧c.exts≠[]∧kdE c=1)∨(c.kind=2∧c.exts=[]∧kdE c=7)∨(c.kind=2∧c.exts≠[]∧6<c.exts.length∧kdE c=3)∨(c.kind=2∧c.exts≠[]∧¬ 6<c.exts.length∧kdE c=0)∨(c.kind≠1∧c.kind≠2∧kdE c=1):=by
 unfold kdE;by_cases h1:c.kind=1
 ·by_cases h2:c.exts=[] <;> simp [h1,h2]
 ·by_cases h2:c.kind=2
  ·by_cases h3:c.exts=[]
   ·simp [h2,h3]
   ·by_cases h4:6<c.exts.length <;> simp [h2,h3,h4]
  ·simp [h1,h2]
def stSx (c:Co) (nb:Nat) (box:Bxs) (tok:Tks) (nt:Nat) (i:Nat):AState :=
 ⟨tl [(59,I i),(58,I c.exts.length),(57,.d (xts c.exts)),(1,.ptr (nb+1) 0 0)],lb nb box [(1,[c.row])],tok,nt⟩
theorem shpK_c (c:Co) (hc:c.Fit) (tok:Tks) (nt:Nat):DCall Tryz.prog 124 [c.av] tok nt (I (shpE c)) tok nt:=by
 intro box nb;have h1:=isName_c c.name hc.name;have h2:=graphValid_c c.g hc.g;have h3:=lrgK_c c.g hc.g;have hxn:=hc.n;obtain ⟨N,hN⟩:∃ N,shpE c=N:=⟨_,rfl⟩
 rw [hN];unfold shpE at hN;generalize nameB c.name=B1 at *;generalize validG c.g=E2 at *;generalize lrgB c.g=B3 at *;cases B1
 ·rw [if_pos rfl] at hN;refine sI Tryz.func124 Tryz.ntmps124 fun hbox htok=>?_
  repeat (first|simp|refine sR ?_)
  refine Stop.of_d (h1 _ _) ?_;simp;try (simp)
  repeat (first|(refine sR ?_; simp)|(refine sC ?_; simp)|(refine sX ?_; simp only [AU, ↓reduceIte]))
  refine sT (sH hbox htok ?_);simp [packA,←hN]
 ·rw [if_neg (by simp)] at hN;have xp:=fun (h:c.exts≠[])=>List.length_pos_iff.2 h
  rcases kd_cases c with ⟨k1,x1,kd⟩|⟨k1,x1,kd⟩|⟨k1,x1,kd⟩|⟨k1,x1,x2,kd⟩|⟨k1,x1,x2,kd⟩|⟨k1,k2,kd⟩
  ·rw [if_neg (by rw [kd]; decide)] at hN;refine sI Tryz.func124 Tryz.ntmps124 fun hbox htok=>?_
   repeat (first|simp|refine sR ?_)
   refine Stop.of_d (h1 _ _) ?_;simp;try (simp [k1,x1])
   repeat (first|(refine sR ?_; simp [k1,x1])|(refine sC ?_; simp [k1,x1])|(refine sX ?_; simp only [AU, ↓reduceIte]))
   refine Stop.of_d (h2 _ _) ?_;repeat (first|simp|refine sR ?_)
   by_cases v0:E2=0
   ·rw [if_neg (by simp [v0])] at hN;refine sC ?_;simp [v0];repeat (first|simp|refine sR ?_)
    refine Stop.of_d (h3 _ _) ?_;simp;cases B3
    ·rw [if_neg (by simp)] at hN;repeat (first|simp|refine sR ?_)
     refine sC ?_;repeat (first|simp|refine sR ?_)
     refine sN ?_;refine AL.loopT (stSx c nb box tok nt) (fun i=>i≤c.exts.length∧firstE (xtAt c) i=0) (fun i=>c.exts.length - i) 0 ⟨Nat.zero_le _,rfl⟩ wkA ?_;rintro i S' ⟨hi,hok⟩ hS;simp only [stSx] at hS;subst hS;have hw:=sW (i:=i) (by omega);repeat (first|simp|refine sR ?_|refine sC ?_)
     refine ⟨fun hlt=>?_,fun hge=>?_⟩
     ·have hx:=hc.exts _ (List.getElem_mem hlt);have hR:xtAt c i≠0→firstE (xtAt c) c.exts.length=xtAt c i:=fun h0=>firstE_stop hok h0 _ hlt
      have hnx:xtAt c i=0→firstE (xtAt c) (i+1)=0:=fun h0=>by simp only [firstE,hok,h0, ↓reduceIte]
      have hd:xtAt c i=xtE c.g c.exts[i]:=xtAt_at hlt
      unfold xtE at hd;have c1:=valid51_c c.g c.exts[i].g c.exts[i].m hc.g hx.g;have c2:=lrgK_c c.exts[i].g hx.g;have c3:=injective56_c c.g c.exts[i].g c.exts[i].m hc.g hx.g hx.m;generalize xtAt c i=E at *;repeat (first|simp [hlt]|refine sR ?_)
      refine Stop.of_d (c1 _ _) ?_;repeat (first|simp|refine sR ?_)
      by_cases f1:validM c.g c.exts[i].g c.exts[i].m=0
      ·rw [if_neg (by simp [f1])] at hd;simp only [f1];refine sC ?_;repeat (first|simp|refine sR ?_)
       refine Stop.of_d (c2 _ _) ?_;simp;cases f2:lrgB c.exts[i].g
       ·rw [f2,if_neg (by simp)] at hd;repeat (first|simp|refine sR ?_)
        refine sC ?_;repeat (first|simp|refine sR ?_)
        refine Stop.of_d (c3 _ _) ?_;simp;cases f3:injM c.g c.exts[i].g c.exts[i].m
        ·rw [f3,if_neg (by simp)] at hd;rw [hR (by rw [hd]; decide),hd] at hN;repeat (first|simp|refine sR ?_)
         refine sC ?_;repeat (first|simp|refine sR ?_)
         refine sT (sH hbox htok ?_);simp [packA,←hN]
        ·rw [f3,if_pos rfl] at hd;repeat (first|simp [hw]|refine sR ?_|refine sC ?_)
         refine sE ?_;exact ⟨i+1,⟨hlt,hnx hd⟩,by omega,wkA⟩
       ·rw [f2,if_pos rfl] at hd;rw [hR (by rw [hd]; decide),hd] at hN;repeat (first|simp|refine sR ?_)
        refine sC ?_;repeat (first|simp|refine sR ?_)
        refine sT (sH hbox htok ?_);simp [packA,←hN]
      ·rw [if_pos f1] at hd;have b1:(validM c.g c.exts[i].g c.exts[i].m !=0)=true:=by simp [f1]
       rw [hR (by rw [hd]; exact f1),hd] at hN;simp only [b1];refine sC ?_;repeat (first|simp|refine sR ?_)
       refine sT (sH hbox htok ?_);simp [packA,←hN]
     ·refine sX ?_;simp only [AU, ↓reduceIte];have:i=c.exts.length:=by omega
      subst this;rw [hok] at hN;repeat (first|simp|refine sR ?_)
      refine sT (sH hbox htok ?_);simp [packA,←hN]
    ·rw [if_pos rfl] at hN;repeat (first|simp|refine sR ?_)
     refine sC ?_;repeat (first|simp|refine sR ?_)
     refine sT (sH hbox htok ?_);simp [packA,←hN]
   ·have b0:(E2 !=0)=true:=by simp [v0]
    rw [if_pos v0] at hN;refine sC ?_;simp [v0,b0];repeat (first|simp|refine sR ?_)
    refine sT (sH hbox htok ?_);simp [packA,←hN]
  ·rw [if_pos (by rw [kd]; decide),kd] at hN;have x1':=xp x1
   refine sI Tryz.func124 Tryz.ntmps124 fun hbox htok=>?_
   repeat (first|simp|refine sR ?_)
   refine Stop.of_d (h1 _ _) ?_;simp;try (simp [k1,x1,x1'])
   repeat (first|(refine sR ?_; simp [k1,x1,x1'])|(refine sC ?_; simp [k1,x1,x1'])|(refine sX ?_; simp only [AU, ↓reduceIte]))
   refine sT (sH hbox htok ?_);simp [packA,←hN]
  ·rw [if_pos (by rw [kd]; decide),kd] at hN;refine sI Tryz.func124 Tryz.ntmps124 fun hbox htok=>?_
   repeat (first|simp|refine sR ?_)
   refine Stop.of_d (h1 _ _) ?_;simp;try (simp [k1,x1])
   repeat (first|(refine sR ?_; simp [k1,x1])|(refine sC ?_; simp [k1,x1])|(refine sX ?_; simp only [AU, ↓reduceIte]))
   refine sT (sH hbox htok ?_);simp [packA,←hN]
  ·rw [if_pos (by rw [kd]; decide),kd] at hN;have x2':(6:Int)<c.exts.length:=by omega
   refine sI Tryz.func124 Tryz.ntmps124 fun hbox htok=>?_
   repeat (first|simp|refine sR ?_)
   refine Stop.of_d (h1 _ _) ?_;simp;try (simp [k1,x1,x2,x2'])
   repeat (first|(refine sR ?_; simp [k1,x1,x2,x2'])|(refine sC ?_; simp [k1,x1,x2,x2'])|(refine sX ?_; simp only [AU, ↓reduceIte]))
   refine sT (sH hbox htok ?_);simp [packA,←hN]
  ·rw [if_neg (by rw [kd]; decide)] at hN;have x2':¬ (6:Int)<c.exts.length:=by omega
   refine sI Tryz.func124 Tryz.ntmps124 fun hbox htok=>?_
   repeat (first|simp|refine sR ?_)
   refine Stop.of_d (h1 _ _) ?_;simp;try (simp [k1,x1,x2,x2'])
   repeat (first|(refine sR ?_; simp [k1,x1,x2,x2'])|(refine sC ?_; simp [k1,x1,x2,x2'])|(refine sX ?_; simp only [AU, ↓reduceIte]))
   refine Stop.of_d (h2 _ _) ?_;repeat (first|simp|refine sR ?_)
   by_cases v0:E2=0
   ·rw [if_neg (by simp [v0])] at hN;refine sC ?_;simp [v0];repeat (first|simp|refine sR ?_)
    refine Stop.of_d (h3 _ _) ?_;simp;cases B3
    ·rw [if_neg (by simp)] at hN;repeat (first|simp|refine sR ?_)
     refine sC ?_;repeat (first|simp|refine sR ?_)
     refine sN ?_;refine AL.loopT (stSx c nb box tok nt) (fun i=>i≤c.exts.length∧firstE (xtAt c) i=0) (fun i=>c.exts.length - i) 0 ⟨Nat.zero_le _,rfl⟩ wkA ?_;rintro i S' ⟨hi,hok⟩ hS;simp only [stSx] at hS;subst hS;have hw:=sW (i:=i) (by omega);repeat (first|simp|refine sR ?_|refine sC ?_)
     refine ⟨fun hlt=>?_,fun hge=>?_⟩
     ·have hx:=hc.exts _ (List.getElem_mem hlt);have hR:xtAt c i≠0→firstE (xtAt c) c.exts.length=xtAt c i:=fun h0=>firstE_stop hok h0 _ hlt
      have hnx:xtAt c i=0→firstE (xtAt c) (i+1)=0:=fun h0=>by simp only [firstE,hok,h0, ↓reduceIte]
      have hd:xtAt c i=xtE c.g c.exts[i]:=xtAt_at hlt
      unfold xtE at hd;have c1:=valid51_c c.g c.exts[i].g c.exts[i].m hc.g hx.g;have c2:=lrgK_c c.exts[i].g hx.g;have c3:=injective56_c c.g c.exts[i].g c.exts[i].m hc.g hx.g hx.m;generalize xtAt c i=E at *;repeat (first|simp [hlt]|refine sR ?_)
      refine Stop.of_d (c1 _ _) ?_;repeat (first|simp|refine sR ?_)
      by_cases f1:validM c.g c.exts[i].g c.exts[i].m=0
      ·rw [if_neg (by simp [f1])] at hd;simp only [f1];refine sC ?_;repeat (first|simp|refine sR ?_)
       refine Stop.of_d (c2 _ _) ?_;simp;cases f2:lrgB c.exts[i].g
       ·rw [f2,if_neg (by simp)] at hd;repeat (first|simp|refine sR ?_)
        refine sC ?_;repeat (first|simp|refine sR ?_)
        refine Stop.of_d (c3 _ _) ?_;simp;cases f3:injM c.g c.exts[i].g c.exts[i].m
        ·rw [f3,if_neg (by simp)] at hd;rw [hR (by rw [hd]; decide),hd] at hN;repeat (first|simp|refine sR ?_)
         refine sC ?_;repeat (first|simp|refine sR ?_)
         refine sT (sH hbox htok ?_);simp [packA,←hN]
        ·rw [f3,if_pos rfl] at hd;repeat (first|simp [hw]|refine sR ?_|refine sC ?_)
         refine sE ?_;exact ⟨i+1,⟨hlt,hnx hd⟩,by omega,wkA⟩
       ·rw [f2,if_pos rfl] at hd;rw [hR (by rw [hd]; decide),hd] at hN;repeat (first|simp|refine sR ?_)
        refine sC ?_;repeat (first|simp|refine sR ?_)
        refine sT (sH hbox htok ?_);simp [packA,←hN]
      ·rw [if_pos f1] at hd;have b1:(validM c.g c.exts[i].g c.exts[i].m !=0)=true:=by simp [f1]
       rw [hR (by rw [hd]; exact f1),hd] at hN;simp only [b1];refine sC ?_;repeat (first|simp|refine sR ?_)
       refine sT (sH hbox htok ?_);simp [packA,←hN]
     ·refine sX ?_;simp only [AU, ↓reduceIte];have:i=c.exts.length:=by omega
      subst this;rw [hok] at hN;repeat (first|simp|refine sR ?_)
      refine sT (sH hbox htok ?_);simp [packA,←hN]
    ·rw [if_pos rfl] at hN;repeat (first|simp|refine sR ?_)
     refine sC ?_;repeat (first|simp|refine sR ?_)
     refine sT (sH hbox htok ?_);simp [packA,←hN]
   ·have b0:(E2 !=0)=true:=by simp [v0]
    rw [if_pos v0] at hN;refine sC ?_;simp [v0,b0];repeat (first|simp|refine sR ?_)
    refine sT (sH hbox htok ?_);simp [packA,←hN]
  ·rw [if_pos (by rw [kd]; decide),kd] at hN;have b1:(c.kind==1)=false:=by simp [k1]
   have b2:(c.kind==2)=false:=by simp [k2]
   have b3:(c.kind !=1)=true:=by simp [k1]
   have b4:(c.kind !=2)=true:=by simp [k2]
   refine sI Tryz.func124 Tryz.ntmps124 fun hbox htok=>?_
   repeat (first|simp|refine sR ?_)
   refine Stop.of_d (h1 _ _) ?_;simp;try (simp [k1,k2,b1,b2,b3,b4])
   repeat (first|(refine sR ?_; simp [k1,k2,b1,b2,b3,b4])|(refine sC ?_; simp [k1,k2,b1,b2,b3,b4])|(refine sX ?_; simp only [AU, ↓reduceIte]))
   refine sT (sH hbox htok ?_);simp [packA,←hN]
theorem validK1_c (t:Ty) (ht:t.Fit) (x:Xt) (hx:x.g.Fit) (hv:∀ e∈x.g.edges,0≤e.fr∧e.fr<x.g.nodes.length∧0≤e.to∧e.to<x.g.nodes.length) (box:Bxs) (nb k1:Nat) (tok:Tks) (nt:Nat) (h1:box k1=some [[.d (nts t.nodes),.d (ets t.edges)]]) :
  ACalls Tryz.prog 169 [x.av,.ptr k1 0 0] ⟨box,nb,tok,nt⟩ fun v m=>v=B (!lvsB t x.g)∧m=⟨box,nb,tok,nt⟩:=by
 have hc:=leavesK_c t ht x.g hx hv;generalize lvsB t x.g=R at *;refine sI Tryz.func169 Tryz.ntmps169 fun hbox htok=>?_
 have k1n:=key_lt hbox h1;repeat (first|simp [lb_out k1n,h1]|refine sR ?_)
 refine Stop.of_d (hc _ _) ?_;repeat (first|simp|refine sR ?_)
 refine sT (sH hbox htok ?_);simp [packA]
theorem validK_c (t:Ty) (ht:t.Fit) (c:Co) (hc:c.Fit) (tok:Tks) (nt:Nat):DCall Tryz.prog 90 [t.av,c.av] tok nt (I (cnE t c)) tok nt:=by
 intro box nb;have h1:=valid_c4 t ht ht.hM;have h2:=shpK_c c hc;have hv:=@shpE_zero c;obtain ⟨N,hN⟩:∃ N,cnE t c=N:=⟨_,rfl⟩
 rw [hN];unfold cnE at hN;generalize tyE t=E at *;generalize tyN t=Z at *;generalize shpE c=S at *;refine sI Tryz.func90 Tryz.ntmps90 fun hbox htok=>?_
 repeat (first|simp|refine sR ?_)
 refine Stop.of_d (h1 _ _) ?_;repeat (first|simp|refine sR ?_)
 by_cases e1:E=0
 ·rw [if_neg (by simp [e1])] at hN;refine sC ?_;simp [e1];repeat (first|simp|refine sR ?_)
  refine Stop.of_d (h2 _ _) ?_;repeat (first|simp|refine sR ?_)
  by_cases e2:S=0
  ·rw [if_neg (by simp [e2])] at hN;obtain ⟨_,_,v1,_,v2⟩:=hv e2;have l1:=leavesK_c t ht c.g hc.g (validG_edges v1);have l2:=fun x (hx:x∈c.exts)=>validK1_c t ht x (hc.exts x hx).g (validG_edges (validM_VM (v2 x hx).1).vb)
   unfold lvX at hN;refine sC ?_;simp [e2];repeat (first|simp|refine sR ?_)
   refine Stop.of_d (l1 _ _) ?_;simp;cases e3:lvsB t c.g
   ·rw [e3,if_neg (by simp)] at hN;repeat (first|simp|refine sR ?_)
    refine sC ?_;repeat (first|simp|refine sR ?_)
    refine sT (sH hbox htok ?_);simp [packA,←hN]
   ·rw [e3,if_pos rfl] at hN;obtain ⟨p,hpp⟩:∃ p:Xt→Bool,(fun x:Xt=>!lvsB t x.g)=p:=⟨_,rfl⟩
    have hpy:∀ y:Xt,(!lvsB t y.g)=p y:=fun y=>by rw [←hpp]
    simp only [hpy] at l2;have hN2:(!anyB p c.exts)=allP (fun x:Xt=>lvsB t x.g) c.exts:=by
     rw [←hpp,allP,anyB,List.any_eq_not_all_not,Bool.not_not];simp
    rw [←hN2] at hN;repeat (first|simp|refine sR ?_)
    refine Stop.of_b (containsFuncX_c c.exts 169 [.ptr (nb+2) 0 0] p hc.n _ _ _ _ (fun c hc=>by rw [List.mem_singleton.1 hc]; simp [lb_at]) (fun y hy box' nb' he=>l2 y hy box' nb' _ _ _ (he _ _ (by simp [lb_at])))) ?_;simp;cases e4:anyB p c.exts
    ·rw [e4,Bool.not_false,if_pos rfl] at hN;repeat (first|simp|refine sR ?_)
     refine sC ?_;repeat (first|simp|refine sR ?_)
     refine sT (sH hbox htok ?_);simp [packA,←hN]
    ·rw [e4,Bool.not_true,if_neg (by simp)] at hN;repeat (first|simp|refine sR ?_)
     refine sC ?_;repeat (first|simp|refine sR ?_)
     refine sT (sH hbox htok ?_);simp [packA,←hN]
  ·rw [if_pos e2] at hN;have b2:(S !=0)=true:=by simp [e2]
   refine sC ?_;simp [b2];repeat (first|simp|refine sR ?_)
   refine sT (sH hbox htok ?_);simp [packA,←hN]
 ·rw [if_pos e1] at hN;have b1:(E !=0)=true:=by simp [e1]
  refine sC ?_;simp [b1];repeat (first|simp|refine sR ?_)
  refine sT (sH hbox htok ?_);simp [packA,←hN]
theorem extractBad_c (g:Gr) (p:Mo) (hg:g.Fit) (hp:p.Fit) (h:validP g p≠0) (tok:Tks) (nt:Nat):DCall Tryz.prog 114 [g.av,p.av] tok nt (.tup [(Gr.mk [] []).av,(Mo.mk [] []).av,I (validP g p)]) tok nt:=by
 intro box nb;have h1:=validP_c g p hg hp;have b1:(validP g p !=0)=true:=by simp [h]
 generalize validP g p=E at *;refine sI Tryz.func114 Tryz.ntmps114 fun hbox htok=>?_
 repeat (first|simp|refine sR ?_)
 refine Stop.of_d (h1 _ _) ?_;repeat (first|simp [b1]|refine sR ?_|refine sC ?_)
 refine sT (sH hbox htok ?_);simp [packA,ints,AM.edges]
def stPs (r:Ru) (nb:Nat) (box:Bxs) (tok:Tks) (nt:Nat) (i:Nat):AState :=
 ⟨tl [(62,I i),(61,I 2),(60,.osl 5 [[ints r.lg.nodes,AM.edges r.lg.edges,slots r.lsl,.raw (.int .i64 r.lv),tests r.lte],[ints r.rg.nodes,AM.edges r.rg.edges,slots r.rsl,.raw (.int .i64 r.rv),tests r.rte]] .full),(1,.ptr (nb+1) 0 0)],lb nb box [(1,[r.row])],tok,nt⟩
theorem structuralPc_c (r:Ru) (hr:r.Fit) (tok:Tks) (nt:Nat):DCall Tryz.prog 60 [r.av] tok nt (I (strR r)) tok nt:=by
 intro box nb;have h1:=graphValid_c r.lg hr.lg;have h2:=graphValid_c r.rg hr.rg;have h3:=extractBad_c r.lg r.k hr.lg hr.k;have h4:=fun h=>extractP_c r.lg r.k hr.lg hr.k h
 have h5:=fun h=>valid51_c (exG r.lg r.k) r.rg r.i h hr.rg
 have h6:=fun h=>injective56_c (exG r.lg r.k) r.rg r.i h hr.rg hr.i
 refine sI Tryz.func60 Tryz.ntmps60 fun hbox htok=>?_
 repeat (first|simp|refine sR ?_)
 refine Stop.of_d (h1 _ _) ?_;repeat (first|simp|refine sR ?_)
 by_cases e1:validG r.lg=0
 ·simp only [e1];refine sC ?_;repeat (first|simp|refine sR ?_)
  refine Stop.of_d (h2 _ _) ?_;repeat (first|simp|refine sR ?_)
  by_cases e2:validG r.rg=0
  ·simp only [e2];refine sC ?_;repeat (first|simp|refine sR ?_)
   by_cases e3:validP r.lg r.k=0
   ·have hp:=VP.of e3;have hx:=hp.emb.fit.2.1;refine Stop.of_d (h4 hp _ _) ?_;repeat (first|simp|refine sR ?_)
    refine sC ?_;repeat (first|simp|refine sR ?_)
    refine Stop.of_d (h5 hx _ _) ?_;repeat (first|simp|refine sR ?_)
    by_cases e4:validM (exG r.lg r.k) r.rg r.i=0
    ·simp only [e4];refine sC ?_;repeat (first|simp|refine sR ?_)
     refine Stop.of_d (h6 hx _ _) ?_;repeat (first|simp|refine sR ?_)
     cases e5:injM (exG r.lg r.k) r.rg r.i
     ·refine sC ?_;repeat (first|simp|refine sR ?_)
      refine sT (sH hbox htok ?_);simp [packA,strR,e1,e2,e3,e4,e5]
     ·refine sC ?_;repeat (first|simp|refine sR ?_)
      have hls:=hr.ls;have hlt:=hr.lt;have hrs:=hr.rs;have hrt:=hr.rt;rw [bigN_eq] at hls hlt hrs hrt;have w1:IntKind.i64.wrap ((r.lsl.length:Int)+r.lte.length)=((r.lsl.length+r.lte.length:Nat):Int):=by rw [wrap_in (by omega) (by omega)]; omega
      have w2:IntKind.i64.wrap ((r.rsl.length:Int)+r.rte.length)=((r.rsl.length+r.rte.length:Nat):Int):=by rw [wrap_in (by omega) (by omega)]; omega
      refine ⟨rfl,?_⟩;repeat (first|simp|refine sR ?_)
      refine sN ?_;refine AL.loopT (stPs r nb box tok nt) (fun i=>i≤2∧(1≤i→r.plainL)∧(2≤i→r.plainR)) (fun i=>2 - i) 0 ⟨by omega,by omega,by omega⟩ wkA ?_;rintro i S ⟨hi,hpl,hpr⟩ hS;simp only [stPs] at hS;subst hS;obtain rfl|rfl|rfl:i=0∨i=1∨i=2:=by omega
      ·have hw:IntKind.i64.wrap 1=1:=rfl
       repeat (first|simp|refine sR ?_)
       refine sC ?_
       repeat (first|simp|refine sR ?_)
       by_cases s2:r.lv=0
       ·have b2:(r.lv !=0)=false:=by simp [s2]
        by_cases s1:(0:Int)<(r.lsl.length:Int)+r.lte.length
        ·have hne:¬ r.plainL:=fun h=>by have:=h.1; omega
         try (simp [w1,s1,b2])
         repeat (first|(refine sR ?_; simp [w1,s1,b2])|(refine sC ?_; simp [w1,s1,b2])|(refine sX ?_; simp only [AU, ↓reduceIte]))
         refine sT (sH hbox htok ?_);simp [packA,strR,e1,e2,e3,e4,e5,hne]
        ·have hyes:r.plainL:=⟨by omega,s2⟩
         try (simp [w1,s1,b2,hw])
         repeat (first|(refine sR ?_; simp [w1,s1,b2,hw])|(refine sC ?_; simp [w1,s1,b2,hw])|(refine sX ?_; simp only [AU, ↓reduceIte]))
         refine sE ?_;exact ⟨1,⟨by omega,fun _=>hyes,by omega⟩,by omega,wkA⟩
       ·have hne:¬ r.plainL:=fun h=>s2 h.2
        have b2:(r.lv !=0)=true:=by simp [s2]
        try (simp [b2])
        repeat (first|(refine sR ?_; simp [b2])|(refine sC ?_; simp [b2])|(refine sX ?_; simp only [AU, ↓reduceIte]))
        refine sT (sH hbox htok ?_);simp [packA,strR,e1,e2,e3,e4,e5,hne]
      ·have hw:IntKind.i64.wrap 2=2:=rfl
       have hl:=hpl (by omega);repeat (first|simp|refine sR ?_)
       refine sC ?_
       repeat (first|simp|refine sR ?_)
       by_cases s2:r.rv=0
       ·have b2:(r.rv !=0)=false:=by simp [s2]
        by_cases s1:(0:Int)<(r.rsl.length:Int)+r.rte.length
        ·have hne:¬ r.plainR:=fun h=>by have:=h.1; omega
         try (simp [w2,s1,b2])
         repeat (first|(refine sR ?_; simp [w2,s1,b2])|(refine sC ?_; simp [w2,s1,b2])|(refine sX ?_; simp only [AU, ↓reduceIte]))
         refine sT (sH hbox htok ?_);simp [packA,strR,e1,e2,e3,e4,e5,hne]
        ·have hyes:r.plainR:=⟨by omega,s2⟩
         try (simp [w2,s1,b2,hw])
         repeat (first|(refine sR ?_; simp [w2,s1,b2,hw])|(refine sC ?_; simp [w2,s1,b2,hw])|(refine sX ?_; simp only [AU, ↓reduceIte]))
         refine sE ?_;exact ⟨2,⟨by omega,fun _=>hl,fun _=>hyes⟩,by omega,wkA⟩
       ·have hne:¬ r.plainR:=fun h=>s2 h.2
        have b2:(r.rv !=0)=true:=by simp [s2]
        try (simp [b2])
        repeat (first|(refine sR ?_; simp [b2])|(refine sC ?_; simp [b2])|(refine sX ?_; simp only [AU, ↓reduceIte]))
        refine sT (sH hbox htok ?_);simp [packA,strR,e1,e2,e3,e4,e5,hne]
      ·have hl:=hpl (by omega);have hr2:=hpr (by omega);repeat (first|simp|refine sR ?_|refine sC ?_)
       refine sX ?_;simp only [AU, ↓reduceIte];repeat (first|simp|refine sR ?_)
       cases hin:r.inj
       ·refine sC ?_;repeat (first|simp|refine sR ?_)
        refine sT (sH hbox htok ?_);simp [packA,strR,e1,e2,e3,e4,e5,hl,hr2,hin]
       ·refine sC ?_;repeat (first|simp|refine sR ?_)
        refine sT (sH hbox htok ?_);simp [packA,strR,e1,e2,e3,e4,e5,hl,hr2,hin]
    ·have b4:(validM (exG r.lg r.k) r.rg r.i !=0)=true:=by simp [e4]
     simp only [b4];refine sC ?_;repeat (first|simp|refine sR ?_)
     refine sT (sH hbox htok ?_);simp [packA,strR,e1,e2,e3,e4]
   ·have b3:(validP r.lg r.k !=0)=true:=by simp [e3]
    refine Stop.of_d (h3 e3 _ _) ?_;repeat (first|simp|refine sR ?_)
    simp only [b3];refine sC ?_;repeat (first|simp|refine sR ?_)
    refine sT (sH hbox htok ?_);simp [packA,strR,e1,e2,e3]
  ·have b2:(validG r.rg !=0)=true:=by simp [e2]
   simp only [b2];refine sC ?_;repeat (first|simp|refine sR ?_)
   refine sT (sH hbox htok ?_);simp [packA,strR,e1,e2]
 ·have b1:(validG r.lg !=0)=true:=by simp [e1]
  simp only [b1];refine sC ?_;repeat (first|simp|refine sR ?_)
  refine sT (sH hbox htok ?_);simp [packA,strR,e1]
def hitB (l r into:List Int) (i:Nat):Bool:=if decide ((i:Int)∈into)=true then false else decide (l.getD i 0∈r)
def meetsB (l r into:List Int):Bool:=anyB (hitB l r into) (List.range l.length)
theorem meets_no {l r into:List Int} (h:∀ j,j<l.length→hitB l r into j=false):meetsB l r into=false:=by
 unfold meetsB anyB;rw [List.any_eq_false];intro x hx;rw [h x (List.mem_range.1 hx)];simp
theorem meets_yes {l r into:List Int} {i:Nat} (hi:i<l.length) (h:hitB l r into i=true):meetsB l r into=true:=by
 unfold meetsB anyB;rw [List.any_eq_true];exact ⟨i,List.mem_range.2 hi,h⟩
def keepO (r:Ru) (o:Ov):Bool:=if meetsB o.l.nodes o.r.nodes r.i.nodes=true then true else meetsB o.l.edges o.r.edges r.i.edges
def givP (t:Ty) (r:Ru) (c:Co):Int:=if tyE t≠0 then tyE t else if strR r≠0 then strR r else if lvsB t r.lg=true then (if lvsB t r.rg=true then cnE t c else 13) else 13
def waysR (t:Ty) (r:Ru) (c:Co):List Ov × Int :=
 if givP t r c≠0 then ([],givP t r c) else if c.kind=1 then (if (overlapsR r.rg c.g).2≠0 then ([],(overlapsR r.rg c.g).2) else ((overlapsR r.rg c.g).1.filter (keepO r),0)) else ([],8)
def exP (o:Ov):Cd:=.mk 5 [cdOf 1 []] o.l o.g [] 0 []
def presC (l:List Ov):Cd:=if l=[] then cdOf 1 [] else cdOf 3 (l.map fun o=>cdOf 2 [exP o])
def presR (t:Ty) (r:Ru) (c:Co):Cd × Int:=if (waysR t r c).2≠0 then (cdOf 0 [],(waysR t r c).2) else leftR r (presC (waysR t r c).1)
end Go.AM
