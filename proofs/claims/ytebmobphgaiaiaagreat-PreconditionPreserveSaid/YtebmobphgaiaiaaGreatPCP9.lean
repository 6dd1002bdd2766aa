/-
 Parts of the proof, as merged from many texts: a machine over data, what the functions compute, plain laws.
-/
import Derived.Test.YtebmobphgaiaiaaGreatPCP8
set_option linter.unusedSimpArgs false
set_option linter.unusedVariables false
namespace Go.AM
open Go Go.Proofs
abbrev At.av (a:At):AV:=.agg [Sb a.name,I a.lo,I a.hi,.d (strs a.names)]
abbrev NT.av (n:NT):AV:=.agg [Sb n.name,I n.par,B n.abs,.d (atts n.own)]
abbrev ET.av (e:ET):AV:=.agg [Sb e.name,I e.fr,I e.to,I e.ol,I e.oh,I e.il,I e.ih]
theorem any_takeG {α:Type} {p:α→Bool} {xs:List α} {i:Nat} (h:i<xs.length) (h1:∀ x∈xs.take i,p x=false) (h2:p xs[i]=true):anyB p xs=true∧xs.findIdx p=i:=by
 refine ⟨List.any_eq_true.2 ⟨_,List.getElem_mem h,h2⟩,?_⟩;rw [List.findIdx_eq h];refine ⟨h2,fun j hj=>?_⟩;have:=h1 xs[j] (by
  rw [List.mem_take_iff_getElem];exact ⟨j,by omega,rfl⟩)
 simpa using this
def stIA (xs:List At) (f:FuncId) (caps:List AV) (nb:Nat) (box:Bxs) (tok:Tks) (nt:Nat) (i:Nat):AState:=⟨tl [(0,.d (atts xs)),(1,.fn (.func f) caps),(7,I xs.length),(8,I i)],lb nb box [],tok,nt⟩
theorem indexFuncA_c (xs:List At) (f:FuncId) (caps:List AV) (p:At→Bool) (hx:xs.length≤1000000) (box:Bxs) (nb:Nat) (tok:Tks) (nt:Nat) (hc:∀ c∈caps,OkIn (fun k=>box k≠none) (fun _=>True) c)
  (hf:∀ x∈xs,∀ box' nb',Ext box box'→ACalls Tryz.prog f (x.av::caps) ⟨box',nb',tok,nt⟩ fun v m=>v=B (p x)∧m=⟨box',nb',tok,nt⟩) :
  ACalls Tryz.prog 300 [.d (atts xs),.fn (.func f) caps] ⟨box,nb,tok,nt⟩ fun v m=>v=I (if anyB p xs=true then (xs.findIdx p:Nat) else -1)∧m=⟨box,nb,tok,nt⟩:=by
 refine sI Tryz.func300 Tryz.ntmps300 fun hbox htok=>?_
 repeat (first|simp|refine sR ?_)
 refine sN ?_;refine AL.loopT (stIA xs f caps nb box tok nt) (fun i=>i≤xs.length∧∀ x∈xs.take i,p x=false) (fun i=>xs.length - i) 0 ⟨Nat.zero_le _,by simp⟩ (Weaks.mk (Nat.le_refl _) rfl (by simp [ToL]; exact .same (okFn hc hbox [] (by simp) rfl _)) trivial) ?_;rintro i S' ⟨hi,htk⟩ hS;simp only [stIA] at hS;subst hS;have hw:=sW (i:=i) (by omega);repeat (first|simp|refine sR ?_|refine sC ?_)
 refine ⟨fun hlt=>?_,fun hge=>?_⟩
 ·have hfx:=hf xs[i] (List.getElem_mem _);have hpx:p xs[i]=true→anyB p xs=true∧(xs.findIdx p=i):=fun he=>any_takeG hlt htk he
  have hmore:p xs[i]=false→∀ x∈xs.take (i+1),p x=false:=fun he x hx=>by
   rw [List.take_succ_eq_append_getElem hlt] at hx;rcases List.mem_append.1 hx with hx|hx
   ·exact htk x hx
   ·simp at hx; rw [hx]; exact he
  repeat (first|simp [hlt]|refine sR ?_)
  generalize xs[i]=x at *;refine Stop.of_b (hfx _ _ ((Ext.refl box).lb hbox [])) ?_;simp;cases he:p x
  ·refine sC ?_;simp;repeat (first|simp [hw]|refine sR ?_)
   refine sE ?_;refine ⟨i+1,⟨hlt,?_⟩,by omega,Weaks.mk (Nat.le_refl _) rfl (by simp [ToL]; exact .same (okFn hc hbox [] (by simp) rfl _)) trivial⟩;exact hmore he
  ·obtain ⟨h1,h2⟩:=hpx he;refine sC ?_;repeat (first|simp|refine sR ?_)
   refine sT (sH hbox htok ?_);simp [packA,h1,h2]
 ·have hn:anyB p xs=false:=by
   rw [List.take_of_length_le hge] at htk;simpa [anyB] using htk
  refine sX ?_;simp only [AU, ↓reduceIte];repeat (first|simp|refine sR ?_)
  refine sT (sH hbox htok ?_);simp [packA,hn]
theorem containsFuncA_c (xs:List At) (f:FuncId) (caps:List AV) (p:At→Bool) (hx:xs.length≤1000000) (box:Bxs) (nb:Nat) (tok:Tks) (nt:Nat) (hc:∀ c∈caps,OkIn (fun k=>box k≠none) (fun _=>True) c)
  (hf:∀ x∈xs,∀ box' nb',Ext box box'→ACalls Tryz.prog f (x.av::caps) ⟨box',nb',tok,nt⟩ fun v m=>v=B (p x)∧m=⟨box',nb',tok,nt⟩) :
  ACalls Tryz.prog 272 [.d (atts xs),.fn (.func f) caps] ⟨box,nb,tok,nt⟩ fun v m=>v=B (anyB p xs)∧m=⟨box,nb,tok,nt⟩:=by
 obtain ⟨A,hany⟩:∃ A,anyB p xs=A:=⟨_,rfl⟩
 have hi:=fun b nb' h1 h2=>indexFuncA_c xs f caps p hx b nb' tok nt h1 h2
 rw [hany];simp only [hany] at hi;refine sI Tryz.func272 Tryz.ntmps272 fun hbox htok=>?_
 repeat (first|simp|refine sR ?_)
 refine Stop.of_b (hi (lb nb box []) _ (fun c h=>(hc c h).mono (fun k hk=>by rw [hbox]; exact hk) fun _ h=>h) (fun x hx' box' nb' he=>hf x hx' box' nb' (by rw [hbox] at he; exact he))) ?_;simp;cases A
 ·repeat (first|simp|refine sR ?_)
  refine sT (sH hbox htok ?_);simp [packA]
 ·have h0:(0:Int)≤(xs.findIdx p:Nat):=by omega
  repeat (first|simp|refine sR ?_)
  refine sT (sH hbox htok ?_);simp [packA,h0]
def stIN (xs:List NT) (f:FuncId) (caps:List AV) (nb:Nat) (box:Bxs) (tok:Tks) (nt:Nat) (i:Nat):AState:=⟨tl [(0,.d (nts xs)),(1,.fn (.func f) caps),(7,I xs.length),(8,I i)],lb nb box [],tok,nt⟩
theorem indexFuncN_c (xs:List NT) (f:FuncId) (caps:List AV) (p:NT→Bool) (hx:xs.length≤1000000) (box:Bxs) (nb:Nat) (tok:Tks) (nt:Nat) (hc:∀ c∈caps,OkIn (fun k=>box k≠none) (fun _=>True) c)
  (hf:∀ x∈xs,∀ box' nb',Ext box box'→ACalls Tryz.prog f (x.av::caps) ⟨box',nb',tok,nt⟩ fun v m=>v=B (p x)∧m=⟨box',nb',tok,nt⟩) :
  ACalls Tryz.prog 271 [.d (nts xs),.fn (.func f) caps] ⟨box,nb,tok,nt⟩ fun v m=>v=I (if anyB p xs=true then (xs.findIdx p:Nat) else -1)∧m=⟨box,nb,tok,nt⟩:=by
 refine sI Tryz.func271 Tryz.ntmps271 fun hbox htok=>?_
 repeat (first|simp|refine sR ?_)
 refine sN ?_;refine AL.loopT (stIN xs f caps nb box tok nt) (fun i=>i≤xs.length∧∀ x∈xs.take i,p x=false) (fun i=>xs.length - i) 0 ⟨Nat.zero_le _,by simp⟩ (Weaks.mk (Nat.le_refl _) rfl (by simp [ToL]; exact .same (okFn hc hbox [] (by simp) rfl _)) trivial) ?_;rintro i S' ⟨hi,htk⟩ hS;simp only [stIN] at hS;subst hS;have hw:=sW (i:=i) (by omega);repeat (first|simp|refine sR ?_|refine sC ?_)
 refine ⟨fun hlt=>?_,fun hge=>?_⟩
 ·have hfx:=hf xs[i] (List.getElem_mem _);have hpx:p xs[i]=true→anyB p xs=true∧(xs.findIdx p=i):=fun he=>any_takeG hlt htk he
  have hmore:p xs[i]=false→∀ x∈xs.take (i+1),p x=false:=fun he x hx=>by
   rw [List.take_succ_eq_append_getElem hlt] at hx;rcases List.mem_append.1 hx with hx|hx
   ·exact htk x hx
   ·simp at hx; rw [hx]; exact he
  repeat (first|simp [hlt]|refine sR ?_)
  generalize xs[i]=x at *;refine Stop.of_b (hfx _ _ ((Ext.refl box).lb hbox [])) ?_;simp;cases he:p x
  ·refine sC ?_;simp;repeat (first|simp [hw]|refine sR ?_)
   refine sE ?_;refine ⟨i+1,⟨hlt,?_⟩,by omega,Weaks.mk (Nat.le_refl _) rfl (by simp [ToL]; exact .same (okFn hc hbox [] (by simp) rfl _)) trivial⟩;exact hmore he
  ·obtain ⟨h1,h2⟩:=hpx he;refine sC ?_;repeat (first|simp|refine sR ?_)
   refine sT (sH hbox htok ?_);simp [packA,h1,h2]
 ·have hn:anyB p xs=false:=by
   rw [List.take_of_length_le hge] at htk;simpa [anyB] using htk
  refine sX ?_;simp only [AU, ↓reduceIte];repeat (first|simp|refine sR ?_)
  refine sT (sH hbox htok ?_);simp [packA,hn]
theorem containsFuncN_c (xs:List NT) (f:FuncId) (caps:List AV) (p:NT→Bool) (hx:xs.length≤1000000) (box:Bxs) (nb:Nat) (tok:Tks) (nt:Nat) (hc:∀ c∈caps,OkIn (fun k=>box k≠none) (fun _=>True) c)
  (hf:∀ x∈xs,∀ box' nb',Ext box box'→ACalls Tryz.prog f (x.av::caps) ⟨box',nb',tok,nt⟩ fun v m=>v=B (p x)∧m=⟨box',nb',tok,nt⟩) :
  ACalls Tryz.prog 221 [.d (nts xs),.fn (.func f) caps] ⟨box,nb,tok,nt⟩ fun v m=>v=B (anyB p xs)∧m=⟨box,nb,tok,nt⟩:=by
 obtain ⟨A,hany⟩:∃ A,anyB p xs=A:=⟨_,rfl⟩
 have hi:=fun b nb' h1 h2=>indexFuncN_c xs f caps p hx b nb' tok nt h1 h2
 rw [hany];simp only [hany] at hi;refine sI Tryz.func221 Tryz.ntmps221 fun hbox htok=>?_
 repeat (first|simp|refine sR ?_)
 refine Stop.of_b (hi (lb nb box []) _ (fun c h=>(hc c h).mono (fun k hk=>by rw [hbox]; exact hk) fun _ h=>h) (fun x hx' box' nb' he=>hf x hx' box' nb' (by rw [hbox] at he; exact he))) ?_;simp;cases A
 ·repeat (first|simp|refine sR ?_)
  refine sT (sH hbox htok ?_);simp [packA]
 ·have h0:(0:Int)≤(xs.findIdx p:Nat):=by omega
  repeat (first|simp|refine sR ?_)
  refine sT (sH hbox htok ?_);simp [packA,h0]
def stIE2 (xs:List ET) (f:FuncId) (caps:List AV) (nb:Nat) (box:Bxs) (tok:Tks) (nt:Nat) (i:Nat):AState:=⟨tl [(0,.d (ets xs)),(1,.fn (.func f) caps),(7,I xs.length),(8,I i)],lb nb box [],tok,nt⟩
theorem indexFuncE2_c (xs:List ET) (f:FuncId) (caps:List AV) (p:ET→Bool) (hx:xs.length≤1000000) (box:Bxs) (nb:Nat) (tok:Tks) (nt:Nat) (hc:∀ c∈caps,OkIn (fun k=>box k≠none) (fun _=>True) c)
  (hf:∀ x∈xs,∀ box' nb',Ext box box'→ACalls Tryz.prog f (x.av::caps) ⟨box',nb',tok,nt⟩ fun v m=>v=B (p x)∧m=⟨box',nb',tok,nt⟩) :
  ACalls Tryz.prog 275 [.d (ets xs),.fn (.func f) caps] ⟨box,nb,tok,nt⟩ fun v m=>v=I (if anyB p xs=true then (xs.findIdx p:Nat) else -1)∧m=⟨box,nb,tok,nt⟩:=by
 refine sI Tryz.func275 Tryz.ntmps275 fun hbox htok=>?_
 repeat (first|simp|refine sR ?_)
 refine sN ?_;refine AL.loopT (stIE2 xs f caps nb box tok nt) (fun i=>i≤xs.length∧∀ x∈xs.take i,p x=false) (fun i=>xs.length - i) 0 ⟨Nat.zero_le _,by simp⟩ (Weaks.mk (Nat.le_refl _) rfl (by simp [ToL]; exact .same (okFn hc hbox [] (by simp) rfl _)) trivial) ?_;rintro i S' ⟨hi,htk⟩ hS;simp only [stIE2] at hS;subst hS;have hw:=sW (i:=i) (by omega);repeat (first|simp|refine sR ?_|refine sC ?_)
 refine ⟨fun hlt=>?_,fun hge=>?_⟩
 ·have hfx:=hf xs[i] (List.getElem_mem _);have hpx:p xs[i]=true→anyB p xs=true∧(xs.findIdx p=i):=fun he=>any_takeG hlt htk he
  have hmore:p xs[i]=false→∀ x∈xs.take (i+1),p x=false:=fun he x hx=>by
   rw [List.take_succ_eq_append_getElem hlt] at hx;rcases List.mem_append.1 hx with hx|hx
   ·exact htk x hx
   ·simp at hx; rw [hx]; exact he
  repeat (first|simp [hlt]|refine sR ?_)
  generalize xs[i]=x at *;refine Stop.of_b (hfx _ _ ((Ext.refl box).lb hbox [])) ?_;simp;cases he:p x
  ·refine sC ?_;simp;repeat (first|simp [hw]|refine sR ?_)
   refine sE ?_;refine ⟨i+1,⟨hlt,?_⟩,by omega,Weaks.mk (Nat.le_refl _) rfl (by simp [ToL]; exact .same (okFn hc hbox [] (by simp) rfl _)) trivial⟩;exact hmore he
  ·obtain ⟨h1,h2⟩:=hpx he;refine sC ?_;repeat (first|simp|refine sR ?_)
   refine sT (sH hbox htok ?_);simp [packA,h1,h2]
 ·have hn:anyB p xs=false:=by
   rw [List.take_of_length_le hge] at htk;simpa [anyB] using htk
  refine sX ?_;simp only [AU, ↓reduceIte];repeat (first|simp|refine sR ?_)
  refine sT (sH hbox htok ?_);simp [packA,hn]
theorem containsFuncE2_c (xs:List ET) (f:FuncId) (caps:List AV) (p:ET→Bool) (hx:xs.length≤1000000) (box:Bxs) (nb:Nat) (tok:Tks) (nt:Nat) (hc:∀ c∈caps,OkIn (fun k=>box k≠none) (fun _=>True) c)
  (hf:∀ x∈xs,∀ box' nb',Ext box box'→ACalls Tryz.prog f (x.av::caps) ⟨box',nb',tok,nt⟩ fun v m=>v=B (p x)∧m=⟨box',nb',tok,nt⟩) :
  ACalls Tryz.prog 226 [.d (ets xs),.fn (.func f) caps] ⟨box,nb,tok,nt⟩ fun v m=>v=B (anyB p xs)∧m=⟨box,nb,tok,nt⟩:=by
 obtain ⟨A,hany⟩:∃ A,anyB p xs=A:=⟨_,rfl⟩
 have hi:=fun b nb' h1 h2=>indexFuncE2_c xs f caps p hx b nb' tok nt h1 h2
 rw [hany];simp only [hany] at hi;refine sI Tryz.func226 Tryz.ntmps226 fun hbox htok=>?_
 repeat (first|simp|refine sR ?_)
 refine Stop.of_b (hi (lb nb box []) _ (fun c h=>(hc c h).mono (fun k hk=>by rw [hbox]; exact hk) fun _ h=>h) (fun x hx' box' nb' he=>hf x hx' box' nb' (by rw [hbox] at he; exact he))) ?_;simp;cases A
 ·repeat (first|simp|refine sR ?_)
  refine sT (sH hbox htok ?_);simp [packA]
 ·have h0:(0:Int)≤(xs.findIdx p:Nat):=by omega
  repeat (first|simp|refine sR ?_)
  refine sT (sH hbox htok ?_);simp [packA,h0]
abbrev At.row (a:At):List AV:=[Sb a.name,I a.lo,I a.hi,.d (strs a.names)]
theorem attr1_c (x y:At) (box:Bxs) (nb k:Nat) (tok:Tks) (nt:Nat) (h1:box k=some [x.row]) :
  ACalls Tryz.prog 273 [y.av,.ptr k 0 0] ⟨box,nb,tok,nt⟩ fun v m=>v=B (decide (y.name=x.name))∧m=⟨box,nb,tok,nt⟩:=by
 refine sI Tryz.func273 Tryz.ntmps273 fun hbox htok=>?_
 have k1n:=key_lt hbox h1;rw [←seq_dec];repeat (first|simp [lb_out k1n,h1]|refine sR ?_)
 refine sT (sH hbox htok ?_);simp [packA]
def rngA (x:At):Bool:=if x.names.length=0 then decide (-1000000≤x.lo∧x.lo≤x.hi∧x.hi≤1000000) else decide (x.lo=0∧x.hi=(x.names.length:Int) - 1)
def attE (x:At) (before:List At):Int:=if nameB x.name=false then 2 else if anyB (fun y=>decide (y.name=x.name)) before=true then 5 else if nmsE x.names≠0 then nmsE x.names else if rngA x=true then 0 else 6
structure At.Fit (a:At):Prop where
 n:a.name.size≤1000000000000
 l:NmFit a.names
theorem attribute_c (x:At) (before:List At) (hx:x.Fit) (hb:before.length≤1000000) (tok:Tks) (nt:Nat):DCall Tryz.prog 224 [x.av,.d (atts before)] tok nt (I (attE x before)) tok nt:=by
 intro box nb;have h1:=isName_c x.name (Nat.le_trans hx.n (by decide));have h3:=names_c x.names hx.l;cases e1:nameB x.name
 ·rw [e1] at h1;rw [show attE x before=2 by rw [attE,if_pos e1]];refine sI Tryz.func224 Tryz.ntmps224 fun hbox htok=>?_
  repeat (first|simp|refine sR ?_)
  refine Stop.of_d (h1 _ _) ?_;repeat (first|simp|refine sR ?_)
  refine sC ?_;repeat (first|simp|refine sR ?_)
  refine sT (sH hbox htok ?_);simp [packA]
 ·rw [e1] at h1;have hA:attE x before=if anyB (fun y=>decide (y.name=x.name)) before=true then 5 else if nmsE x.names≠0 then nmsE x.names else if rngA x=true then 0 else 6:=by rw [attE,if_neg (by simp [e1])]
  obtain ⟨N,hN⟩:∃ N,attE x before=N:=⟨_,rfl⟩
  rw [hN] at hA ⊢;obtain ⟨p,hp⟩:∃ p:At→Bool,(fun y=>decide (y.name=x.name))=p:=⟨_,rfl⟩
  have h2:=fun y box nb k h=>attr1_c x y box nb k tok nt h
  have hpp:∀ y:At,decide (y.name=x.name)=p y:=fun y=>by rw [←hp]
  simp only [hpp] at h2;rw [hp] at hA;have hcap:∀ c∈[AV.ptr (nb+2) 0 0],OkIn (fun k=>(lb nb box [(2,[x.row])]) k≠none) (fun _=>True) c:=by
   intro c hc;rw [List.mem_singleton.1 hc];simp [lb_at]
  refine sI Tryz.func224 Tryz.ntmps224 fun hbox htok=>?_
  repeat (first|simp|refine sR ?_)
  refine Stop.of_d (h1 _ _) ?_;repeat (first|simp|refine sR ?_)
  refine sC ?_;repeat (first|simp|refine sR ?_)
  refine Stop.of_b (containsFuncA_c before 273 [.ptr (nb+2) 0 0] p hb _ _ _ _ hcap (fun y hy box' nb' he=>h2 y box' nb' _ (he _ _ (by simp [lb_at])))) ?_;repeat (first|simp|refine sR ?_)
  cases e2:anyB p before
  ·rw [e2,if_neg (by simp)] at hA;refine sC ?_;repeat (first|simp|refine sR ?_)
   refine Stop.of_d (h3 _ _) ?_;repeat (first|simp|refine sR ?_)
   by_cases e3:nmsE x.names=0
   ·rw [if_neg (by simp [e3])] at hA;simp only [e3];refine sC ?_;simp;by_cases c1 : -1000000≤x.lo
    ·by_cases c2:x.lo≤x.hi
     ·by_cases c3:x.hi≤1000000
      ·repeat (first|simp [c1,c2,c3]|refine sR ?_)
       by_cases z:x.names.length=0
       ·have z2:¬ 0<x.names.length:=by omega
        have hr:rngA x=true:=by rw [rngA,if_pos z]; simp only [decide_eq_true_eq,decide_eq_false_iff_not]; omega
        rw [hr] at hA;refine sC ?_;simp [z2];repeat (first|simp|refine sR ?_)
        refine sC ?_;repeat (first|simp|refine sR ?_)
        refine sT (sH hbox htok ?_);simp [packA,hA]
       ·have z2:0<x.names.length:=by omega
        have hr:rngA x=decide (x.lo=0∧x.hi=(x.names.length:Int) - 1):=if_neg z
        rw [hr] at hA;have hln:=hx.l.n;have w:IntKind.i64.wrap ((x.names.length:Int) - 1)=(x.names.length:Int) - 1:=wrap_in (by omega) (by omega)
        by_cases l0:x.lo=0
        ·have b0:(x.lo==0)=true:=by simp [l0]
         by_cases h0:x.hi=(x.names.length:Int) - 1
         ·have b1:(x.hi==(x.names.length:Int) - 1)=true:=by simp [h0]
          refine sC ?_;simp [z2];repeat (first|simp [w,b0,b1]|refine sR ?_)
          refine sC ?_;repeat (first|simp|refine sR ?_)
          refine sT (sH hbox htok ?_);simp [packA,hA,l0,h0]
         ·have b1:(x.hi==(x.names.length:Int) - 1)=false:=by simp [h0]
          refine sC ?_;simp [z2];repeat (first|simp [w,b0,b1]|refine sR ?_)
          refine sC ?_;repeat (first|simp|refine sR ?_)
          refine sT (sH hbox htok ?_);simp [packA,hA,l0,h0]
        ·have b0:(x.lo==0)=false:=by simp [l0]
         refine sC ?_;simp [z2];repeat (first|simp [w,b0]|refine sR ?_)
         refine sC ?_;repeat (first|simp|refine sR ?_)
         refine sT (sH hbox htok ?_);simp [packA,hA,l0]
      ·repeat (first|simp [c1,c2,c3]|refine sR ?_)
       by_cases z:x.names.length=0
       ·have z2:¬ 0<x.names.length:=by omega
        have hr:rngA x=false:=by rw [rngA,if_pos z]; simp only [decide_eq_true_eq,decide_eq_false_iff_not]; omega
        rw [hr] at hA;refine sC ?_;simp [z2];repeat (first|simp|refine sR ?_)
        refine sC ?_;repeat (first|simp|refine sR ?_)
        refine sT (sH hbox htok ?_);simp [packA,hA]
       ·have z2:0<x.names.length:=by omega
        have hr:rngA x=decide (x.lo=0∧x.hi=(x.names.length:Int) - 1):=if_neg z
        rw [hr] at hA;have hln:=hx.l.n;have w:IntKind.i64.wrap ((x.names.length:Int) - 1)=(x.names.length:Int) - 1:=wrap_in (by omega) (by omega)
        by_cases l0:x.lo=0
        ·have b0:(x.lo==0)=true:=by simp [l0]
         by_cases h0:x.hi=(x.names.length:Int) - 1
         ·have b1:(x.hi==(x.names.length:Int) - 1)=true:=by simp [h0]
          refine sC ?_;simp [z2];repeat (first|simp [w,b0,b1]|refine sR ?_)
          refine sC ?_;repeat (first|simp|refine sR ?_)
          refine sT (sH hbox htok ?_);simp [packA,hA,l0,h0]
         ·have b1:(x.hi==(x.names.length:Int) - 1)=false:=by simp [h0]
          refine sC ?_;simp [z2];repeat (first|simp [w,b0,b1]|refine sR ?_)
          refine sC ?_;repeat (first|simp|refine sR ?_)
          refine sT (sH hbox htok ?_);simp [packA,hA,l0,h0]
        ·have b0:(x.lo==0)=false:=by simp [l0]
         refine sC ?_;simp [z2];repeat (first|simp [w,b0]|refine sR ?_)
         refine sC ?_;repeat (first|simp|refine sR ?_)
         refine sT (sH hbox htok ?_);simp [packA,hA,l0]
     ·repeat (first|simp [c1,c2]|refine sR ?_)
      by_cases z:x.names.length=0
      ·have z2:¬ 0<x.names.length:=by omega
       have hr:rngA x=false:=by rw [rngA,if_pos z]; simp only [decide_eq_true_eq,decide_eq_false_iff_not]; omega
       rw [hr] at hA;refine sC ?_;simp [z2];repeat (first|simp|refine sR ?_)
       refine sC ?_;repeat (first|simp|refine sR ?_)
       refine sT (sH hbox htok ?_);simp [packA,hA]
      ·have z2:0<x.names.length:=by omega
       have hr:rngA x=decide (x.lo=0∧x.hi=(x.names.length:Int) - 1):=if_neg z
       rw [hr] at hA;have hln:=hx.l.n;have w:IntKind.i64.wrap ((x.names.length:Int) - 1)=(x.names.length:Int) - 1:=wrap_in (by omega) (by omega)
       by_cases l0:x.lo=0
       ·have b0:(x.lo==0)=true:=by simp [l0]
        by_cases h0:x.hi=(x.names.length:Int) - 1
        ·have b1:(x.hi==(x.names.length:Int) - 1)=true:=by simp [h0]
         refine sC ?_;simp [z2];repeat (first|simp [w,b0,b1]|refine sR ?_)
         refine sC ?_;repeat (first|simp|refine sR ?_)
         refine sT (sH hbox htok ?_);simp [packA,hA,l0,h0]
        ·have b1:(x.hi==(x.names.length:Int) - 1)=false:=by simp [h0]
         refine sC ?_;simp [z2];repeat (first|simp [w,b0,b1]|refine sR ?_)
         refine sC ?_;repeat (first|simp|refine sR ?_)
         refine sT (sH hbox htok ?_);simp [packA,hA,l0,h0]
       ·have b0:(x.lo==0)=false:=by simp [l0]
        refine sC ?_;simp [z2];repeat (first|simp [w,b0]|refine sR ?_)
        refine sC ?_;repeat (first|simp|refine sR ?_)
        refine sT (sH hbox htok ?_);simp [packA,hA,l0]
    ·repeat (first|simp [c1]|refine sR ?_)
     by_cases z:x.names.length=0
     ·have z2:¬ 0<x.names.length:=by omega
      have hr:rngA x=false:=by rw [rngA,if_pos z]; simp only [decide_eq_true_eq,decide_eq_false_iff_not]; omega
      rw [hr] at hA;refine sC ?_;simp [z2];repeat (first|simp|refine sR ?_)
      refine sC ?_;repeat (first|simp|refine sR ?_)
      refine sT (sH hbox htok ?_);simp [packA,hA]
     ·have z2:0<x.names.length:=by omega
      have hr:rngA x=decide (x.lo=0∧x.hi=(x.names.length:Int) - 1):=if_neg z
      rw [hr] at hA;have hln:=hx.l.n;have w:IntKind.i64.wrap ((x.names.length:Int) - 1)=(x.names.length:Int) - 1:=wrap_in (by omega) (by omega)
      by_cases l0:x.lo=0
      ·have b0:(x.lo==0)=true:=by simp [l0]
       by_cases h0:x.hi=(x.names.length:Int) - 1
       ·have b1:(x.hi==(x.names.length:Int) - 1)=true:=by simp [h0]
        refine sC ?_;simp [z2];repeat (first|simp [w,b0,b1]|refine sR ?_)
        refine sC ?_;repeat (first|simp|refine sR ?_)
        refine sT (sH hbox htok ?_);simp [packA,hA,l0,h0]
       ·have b1:(x.hi==(x.names.length:Int) - 1)=false:=by simp [h0]
        refine sC ?_;simp [z2];repeat (first|simp [w,b0,b1]|refine sR ?_)
        refine sC ?_;repeat (first|simp|refine sR ?_)
        refine sT (sH hbox htok ?_);simp [packA,hA,l0,h0]
      ·have b0:(x.lo==0)=false:=by simp [l0]
       refine sC ?_;simp [z2];repeat (first|simp [w,b0]|refine sR ?_)
       refine sC ?_;repeat (first|simp|refine sR ?_)
       refine sT (sH hbox htok ?_);simp [packA,hA,l0]
   ·rw [if_pos e3] at hA;have b3:(nmsE x.names !=0)=true:=by simp [e3]
    simp only [b3];refine sC ?_;repeat (first|simp|refine sR ?_)
    refine sT (sH hbox htok ?_);simp [packA,hA]
  ·rw [e2,if_pos rfl] at hA;refine sC ?_;repeat (first|simp|refine sR ?_)
   refine sT (sH hbox htok ?_);simp [packA,hA]
def inZ (n lo hi:Int):Bool:=decide (lo≤n∧n≤hi)
theorem in04_c (n lo hi:Int) (tok:Tks) (nt:Nat):DCall Tryz.prog 183 [I n,I lo,I hi] tok nt (B (inZ n lo hi)) tok nt:=by
 intro box nb;by_cases h1:lo≤n
 ·by_cases h2:n≤hi
  ·refine sI Tryz.func183 Tryz.ntmps183 fun hbox htok=>?_
   repeat (first|simp [h1,h2]|refine sR ?_)
   refine sT (sH hbox htok ?_);simp [packA,inZ,h1,h2]
  ·refine sI Tryz.func183 Tryz.ntmps183 fun hbox htok=>?_
   repeat (first|simp [h1,h2]|refine sR ?_)
   refine sT (sH hbox htok ?_);simp [packA,inZ,h1,h2]
 ·refine sI Tryz.func183 Tryz.ntmps183 fun hbox htok=>?_
  repeat (first|simp [h1]|refine sR ?_)
  refine sT (sH hbox htok ?_);simp [packA,inZ,h1]
def attS (x:At):Int:=if nmsE x.names≠0 then nmsE x.names else if rngA x=true then 0 else 6
theorem attribute04_c (x:At) (hx:x.Fit) (tok:Tks) (nt:Nat):DCall Tryz.prog 238 [x.av] tok nt (I (attS x)) tok nt:=by
 intro box nb;have h3:=names04_c x.names hx.l;have i1:=in04_c x.lo (-1000000) 1000000;have i2:=in04_c x.hi x.lo 1000000;obtain ⟨N,hN⟩:∃ N,attS x=N:=⟨_,rfl⟩
 rw [hN];unfold attS at hN;by_cases z:x.names.length=0
 ·have z0:nmsE x.names=0:=by
   have:x.names=[]:=List.length_eq_zero_iff.1 z
   rw [this]; rfl
  rw [if_neg (by simp [z0])] at hN;have hr:rngA x=decide (-1000000≤x.lo∧x.lo≤x.hi∧x.hi≤1000000):=by rw [rngA,if_pos z]
  have zl:x.names=[]:=List.length_eq_zero_iff.1 z
  cases e1:inZ x.lo (-1000000) 1000000
  ·have r1:rngA x=false:=by
    rw [hr];simp only [inZ,decide_eq_false_iff_not] at e1 ⊢;omega
   rw [r1] at hN;rw [e1] at i1;refine sI Tryz.func238 Tryz.ntmps238 fun hbox htok=>?_
   repeat (first|simp [z,zl]|refine sR ?_|refine sC ?_)
   refine Stop.of_d (i1 _ _) ?_;repeat (first|simp|refine sR ?_)
   refine sC ?_;repeat (first|simp|refine sR ?_)
   refine sT (sH hbox htok ?_);simp [packA,←hN]
  ·cases e2:inZ x.hi x.lo 1000000
   ·have r1:rngA x=false:=by
     rw [hr];simp only [inZ,decide_eq_false_iff_not,decide_eq_true_eq] at e1 e2 ⊢;omega
    rw [r1] at hN;rw [e1] at i1;rw [e2] at i2;refine sI Tryz.func238 Tryz.ntmps238 fun hbox htok=>?_
    repeat (first|simp [z,zl]|refine sR ?_|refine sC ?_)
    refine Stop.of_d (i1 _ _) ?_;repeat (first|simp|refine sR ?_)
    refine Stop.of_d (i2 _ _) ?_;repeat (first|simp|refine sR ?_)
    refine sC ?_;repeat (first|simp|refine sR ?_)
    refine sT (sH hbox htok ?_);simp [packA,←hN]
   ·have r1:rngA x=true:=by
     rw [hr];simp only [inZ,decide_eq_true_eq] at e1 e2 ⊢;omega
    rw [r1] at hN;rw [e1] at i1;rw [e2] at i2;refine sI Tryz.func238 Tryz.ntmps238 fun hbox htok=>?_
    repeat (first|simp [z,zl]|refine sR ?_|refine sC ?_)
    refine Stop.of_d (i1 _ _) ?_;repeat (first|simp|refine sR ?_)
    refine Stop.of_d (i2 _ _) ?_;repeat (first|simp|refine sR ?_)
    refine sC ?_;repeat (first|simp|refine sR ?_)
    refine sT (sH hbox htok ?_);simp [packA,←hN]
 ·have zl:¬ x.names=[]:=fun h=>z (by rw [h]; rfl)
  have hr:rngA x=decide (x.lo=0∧x.hi=(x.names.length:Int) - 1):=if_neg z
  rw [hr] at hN;have hln:=hx.l.n;have w:IntKind.i64.wrap ((x.names.length:Int) - 1)=(x.names.length:Int) - 1:=wrap_in (by omega) (by omega)
  refine sI Tryz.func238 Tryz.ntmps238 fun hbox htok=>?_
  repeat (first|simp [z,zl]|refine sR ?_|refine sC ?_)
  refine Stop.of_d (h3 _ _) ?_;repeat (first|simp|refine sR ?_)
  by_cases e3:nmsE x.names=0
  ·rw [if_neg (by simp [e3])] at hN;simp only [e3];refine sC ?_;simp;by_cases l0:x.lo=0
   ·have b0:(x.lo !=0)=false:=by simp [l0]
    by_cases h0:x.hi=(x.names.length:Int) - 1
    ·have b1:(x.hi !=(x.names.length:Int) - 1)=false:=by simp [h0]
     repeat (first|simp [w,b0,b1]|refine sR ?_)
     refine sC ?_;repeat (first|simp|refine sR ?_)
     refine sT (sH hbox htok ?_);simp [packA,←hN,l0,h0]
    ·have b1:(x.hi !=(x.names.length:Int) - 1)=true:=by simp [h0]
     repeat (first|simp [w,b0,b1]|refine sR ?_)
     refine sC ?_;repeat (first|simp|refine sR ?_)
     refine sT (sH hbox htok ?_);simp [packA,←hN,l0,h0]
   ·have b0:(x.lo !=0)=true:=by simp [l0]
    repeat (first|simp [w,b0]|refine sR ?_)
    refine sC ?_;repeat (first|simp|refine sR ?_)
    refine sT (sH hbox htok ?_);simp [packA,←hN,l0]
  ·rw [if_pos e3] at hN;have b3:(nmsE x.names !=0)=true:=by simp [e3]
   simp only [b3];refine sC ?_;repeat (first|simp|refine sR ?_)
   refine sT (sH hbox htok ?_);simp [packA,←hN]
instance:Inhabited NT:=⟨⟨eB,0,false,[]⟩⟩
def Ty.nd (t:Ty) (i:Nat):NT:=t.nodes.getD i default
def atsL (t:Ty) (i:Nat):List At:=if h:0≤(t.nd i).par∧(t.nd i).par.toNat<i then atsL t (t.nd i).par.toNat++(t.nd i).own else (t.nd i).own
termination_by i
decreasing_by exact h.2
theorem atsL_up {t:Ty} {i:Nat} (h:0≤(t.nd i).par) (h2:(t.nd i).par.toNat<i):atsL t i=atsL t (t.nd i).par.toNat++(t.nd i).own:=by rw [atsL,dif_pos ⟨h,h2⟩]
theorem atsL_top {t:Ty} {i:Nat} (h:¬ 0≤(t.nd i).par):atsL t i=(t.nd i).own:=by rw [atsL,dif_neg fun h2=>h h2.1]
theorem atsL_len {t:Ty} {M:Nat} (hM:∀ i,(t.nd i).own.length≤M):∀ n i,i<n→(atsL t i).length≤(i+1) * M
 | 0,i,hi=>absurd hi (Nat.not_lt_zero _)
 | n+1,i,hi=>by
  have hm:=hM i;by_cases h:0≤(t.nd i).par∧(t.nd i).par.toNat<i
  ·have ih:=atsL_len hM n (t.nd i).par.toNat (by omega);rw [atsL_up h.1 h.2,List.length_append];have:((t.nd i).par.toNat+1) * M≤i * M:=Nat.mul_le_mul_right _ (by omega)
   rw [Nat.add_mul,Nat.one_mul];omega
  ·rw [atsL,dif_neg h];have:M≤(i+1) * M:=Nat.le_mul_of_pos_left _ (by omega)
   omega
structure Ty.Fit (t:Ty):Prop where
 n:t.nodes.length≤1000
 e:t.edges.length≤1000
 nn:∀ x∈t.nodes,x.name.size≤1000000000000
 en:∀ x∈t.edges,x.name.size≤1000000000000
 a:∀ x∈t.nodes,x.own.length≤1000∧∀ y∈x.own,y.Fit
theorem nd_at {t:Ty} {i:Nat} (h:i<t.nodes.length):t.nd i=t.nodes[i]:=by simp [Ty.nd,h]
theorem attrs_c (t:Ty) (ht:t.Fit) (hM:∀ i,(t.nd i).own.length≤1000):∀ (n i:Nat),i<n→i<t.nodes.length→(∀ j,j≤i→(t.nd j).par<j)→∀ (tok:Tks) (nt:Nat),∃ tok' nt' o,((∀ q,tok q=true→q<nt)→TK tok nt tok' nt' [o]) ∧
  DCall Tryz.prog 223 [t.av,I i] tok nt (.osl 4 ((atsL t i).map At.cells) o) tok' nt'
 | 0,i,hi,_,_,_,_=>absurd hi (Nat.not_lt_zero _)
 | n+1,i,hi,hlt,hp,tok,nt=>by
  have hnd:=nd_at hlt;by_cases h0:0≤(t.nd i).par
  ·have hpi:=hp i (Nat.le_refl _);obtain ⟨tok1,nt1,o1,hk,hc⟩:=attrs_c t ht hM n (t.nd i).par.toNat (by omega) (by omega) (fun j hj=>hp j (by omega)) tok nt;have hL:=atsL_up h0 (by omega);have hl1:=atsL_len hM (i+1) (t.nd i).par.toNat (by omega);have hl2:=hM i;have hb:((t.nd i).par.toNat+1) * 1000≤1000 * 1000:=Nat.mul_le_mul_right _ (by have:=ht.n; omega)
   refine ⟨_,_,.tok nt1,fun h=>(hk h).app,?_⟩;rw [hL];rw [Int.toNat_of_nonneg h0] at hc;generalize atsL t (t.nd i).par.toNat=Q at *;rw [hnd] at h0 hc hl2 ⊢;intro box nb;have hc:=hc;refine sI Tryz.func223 Tryz.ntmps223 fun hbox htok=>?_
   have hkk:=hk htok;repeat (first|simp [hlt]|refine sR ?_)
   refine sC ?_;simp [h0];repeat (first|simp|refine sR ?_)
   refine Stop.of_d (hc) ?_;simp;repeat (first|simp [hlt]|refine sR ?_)
   refine ⟨⟨by omega,hkk.live⟩,?_⟩;refine sN ?_;refine AL.ret ?_;try simp only [AU]
   refine ⟨by simp,Fin.own (by simp [resAs,resA]; rfl) hbox rfl hkk.app.le ?_⟩;simp [packA]
  ·have hL:=atsL_top h0;have hl2:=hM i;refine ⟨_,_,.tok nt,fun h=>(TK.start h).full.app,?_⟩;rw [hL];rw [hnd] at h0 hl2 ⊢;intro box nb;refine sI Tryz.func223 Tryz.ntmps223 fun hbox htok=>?_
   have hkk:=(TK.start htok).full;repeat (first|simp [hlt]|refine sR ?_)
   refine sC ?_;simp [h0];repeat (first|simp [hlt]|refine sR ?_)
   refine ⟨by omega,?_⟩;refine sN ?_;refine AL.ret ?_;try simp only [AU]
   refine ⟨by simp,Fin.own (by simp [resAs,resA]; rfl) hbox rfl (by simp) ?_⟩;simp [packA]
theorem attrsNeg_c (t:Ty) (a:Int) (h:a<0) (tok:Tks) (nt:Nat):DCall Tryz.prog 237 [t.av,I a] tok nt (.osl 0 [] .full) tok nt:=by
 intro box nb;refine sI Tryz.func237 Tryz.ntmps237 fun hbox htok=>?_
 repeat (first|simp [h]|refine sR ?_|refine sC ?_)
 refine sT (sH hbox htok ?_);simp [packA]
theorem attrs04_c (t:Ty) (ht:t.Fit) (hM:∀ i,(t.nd i).own.length≤1000):∀ (n i:Nat),i<n→i<t.nodes.length→(∀ j,j≤i→(t.nd j).par<j)→∀ (tok:Tks) (nt:Nat),∃ tok' nt' o,((∀ q,tok q=true→q<nt)→TK tok nt tok' nt' [o]) ∧
  DCall Tryz.prog 237 [t.av,I i] tok nt (.osl 4 ((atsL t i).map At.cells) o) tok' nt'
 | 0,i,hi,_,_,_,_=>absurd hi (Nat.not_lt_zero _)
 | n+1,i,hi,hlt,hp,tok,nt=>by
  have hnd:=nd_at hlt;have hi0:¬ (i:Int)<0:=by omega
  by_cases h0:0≤(t.nd i).par
  ·have hpi:=hp i (Nat.le_refl _);obtain ⟨tok1,nt1,o1,hk,hc⟩:=attrs04_c t ht hM n (t.nd i).par.toNat (by omega) (by omega) (fun j hj=>hp j (by omega)) tok nt;have hL:=atsL_up h0 (by omega);have hl1:=atsL_len hM (i+1) (t.nd i).par.toNat (by omega);have hl2:=hM i;have hb:((t.nd i).par.toNat+1) * 1000≤1000 * 1000:=Nat.mul_le_mul_right _ (by have:=ht.n; omega)
   refine ⟨_,_,.tok (nt1+1),fun h=>(hk h).tail.full.app.app,?_⟩;rw [hL];rw [Int.toNat_of_nonneg h0] at hc;generalize atsL t (t.nd i).par.toNat=Q at *;rw [hnd] at h0 hc hl2 ⊢;intro box nb;refine sI Tryz.func237 Tryz.ntmps237 fun hbox htok=>?_
   have hkk:=hk htok;repeat (first|simp [hi0]|refine sR ?_)
   refine sC ?_;simp [hi0];repeat (first|simp [hlt]|refine sR ?_)
   refine Stop.of_d (hc) ?_;simp;repeat (first|simp [hlt]|refine sR ?_)
   first|refine ⟨by omega,⟨by omega,upd_same _ _ _⟩,?_⟩|refine ⟨⟨by omega,upd_same _ _ _⟩,?_⟩|refine ⟨by omega,upd_same _ _ _,?_⟩|trace_state
   refine sN ?_;refine AL.ret ?_;try simp only [AU]
   refine ⟨by simp,Fin.own (by simp [resAs,resA]; rfl) hbox rfl hkk.tail.full.app.app.le ?_⟩;simp [packA]
  ·have hL:=atsL_top h0;have hl2:=hM i;have hc:=attrsNeg_c t (t.nd i).par (by omega) tok nt;refine ⟨_,_,.tok (nt+1),fun h=>(TK.start h).full.app.app,?_⟩;rw [hL];rw [hnd] at h0 hc hl2 ⊢;intro box nb;refine sI Tryz.func237 Tryz.ntmps237 fun hbox htok=>?_
   have hkk:=(TK.start htok).full;repeat (first|simp [hi0]|refine sR ?_)
   refine sC ?_;simp [hi0];repeat (first|simp [hlt]|refine sR ?_)
   refine Stop.of_d (hc) ?_;simp;repeat (first|simp [hlt]|refine sR ?_)
   first|refine ⟨by omega,⟨by omega,upd_same _ _ _⟩,?_⟩|refine ⟨⟨by omega,upd_same _ _ _⟩,?_⟩|refine ⟨by omega,upd_same _ _ _,?_⟩|trace_state
   refine sN ?_;refine AL.ret ?_;try simp only [AU]
   refine ⟨by simp,Fin.own (by simp [resAs,resA]; rfl) hbox rfl hkk.app.app.le ?_⟩;simp [packA]
def bndB (lo hi:Int):Bool:=decide (0≤lo∧lo≤40)&&(hi == -1||decide (lo≤hi∧hi≤40))
theorem bounded_c (lo hi:Int) (tok:Tks) (nt:Nat):DCall Tryz.prog 228 [I lo,I hi] tok nt (B (bndB lo hi)) tok nt:=by
 intro box nb;by_cases h1:0≤lo
 ·by_cases h2:lo≤40
  ·cases h3:(hi == -1)
   ·by_cases h4:lo≤hi
    ·by_cases h5:hi≤40
     ·refine sI Tryz.func228 Tryz.ntmps228 fun hbox htok=>?_
      repeat (first|simp [h1,h2,h3,h4,h5]|refine sR ?_)
      refine sT (sH hbox htok ?_);simp [packA,bndB,h1,h2,h3,h4,h5]
     ·refine sI Tryz.func228 Tryz.ntmps228 fun hbox htok=>?_
      repeat (first|simp [h1,h2,h3,h4,h5]|refine sR ?_)
      refine sT (sH hbox htok ?_);simp [packA,bndB,h1,h2,h3,h4,h5]
    ·refine sI Tryz.func228 Tryz.ntmps228 fun hbox htok=>?_
     repeat (first|simp [h1,h2,h3,h4]|refine sR ?_)
     refine sT (sH hbox htok ?_);simp [packA,bndB,h1,h2,h3,h4]
   ·refine sI Tryz.func228 Tryz.ntmps228 fun hbox htok=>?_
    repeat (first|simp [h1,h2,h3]|refine sR ?_)
    refine sT (sH hbox htok ?_);simp [packA,bndB,h1,h2,h3]
  ·refine sI Tryz.func228 Tryz.ntmps228 fun hbox htok=>?_
   repeat (first|simp [h1,h2]|refine sR ?_)
   refine sT (sH hbox htok ?_);simp [packA,bndB,h1,h2]
 ·refine sI Tryz.func228 Tryz.ntmps228 fun hbox htok=>?_
  repeat (first|simp [h1]|refine sR ?_)
  refine sT (sH hbox htok ?_);simp [packA,bndB,h1]
abbrev NT.row (n:NT):List AV:=[Sb n.name,I n.par,B n.abs,.d (atts n.own)]
abbrev ET.row (e:ET):List AV:=[Sb e.name,I e.fr,I e.to,I e.ol,I e.oh,I e.il,I e.ih]
theorem node1_c (x y:NT) (box:Bxs) (nb k:Nat) (tok:Tks) (nt:Nat) (h1:box k=some [x.row]) :
  ACalls Tryz.prog 222 [y.av,.ptr k 0 0] ⟨box,nb,tok,nt⟩ fun v m=>v=B (decide (y.name=x.name))∧m=⟨box,nb,tok,nt⟩:=by
 refine sI Tryz.func222 Tryz.ntmps222 fun hbox htok=>?_
 have k1n:=key_lt hbox h1;rw [←seq_dec];repeat (first|simp [lb_out k1n,h1]|refine sR ?_)
 refine sT (sH hbox htok ?_);simp [packA]
theorem edge2_c (x y:ET) (box:Bxs) (nb k:Nat) (tok:Tks) (nt:Nat) (h1:box k=some [x.row]) :
  ACalls Tryz.prog 227 [y.av,.ptr k 0 0] ⟨box,nb,tok,nt⟩ fun v m=>v=B (decide (y.name=x.name))∧m=⟨box,nb,tok,nt⟩:=by
 refine sI Tryz.func227 Tryz.ntmps227 fun hbox htok=>?_
 have k1n:=key_lt hbox h1;rw [←seq_dec];repeat (first|simp [lb_out k1n,h1]|refine sR ?_)
 refine sT (sH hbox htok ?_);simp [packA]
theorem bound04_c (lo hi:Int) (tok:Tks) (nt:Nat):DCall Tryz.prog 239 [I lo,I hi] tok nt (B (bndB lo hi)) tok nt:=by
 intro box nb;have i1:=in04_c lo 0 40;have i2:=in04_c hi lo 40;cases e1:inZ lo 0 40
 ·rw [e1] at i1;have hb:bndB lo hi=false:=by
   have:decide (0≤lo∧lo≤40)=false:=e1
   simp [bndB,this]
  rw [hb];refine sI Tryz.func239 Tryz.ntmps239 fun hbox htok=>?_
  repeat (first|simp|refine sR ?_)
  refine Stop.of_d (i1 _ _) ?_;repeat (first|simp|refine sR ?_)
  refine sT (sH hbox htok ?_);simp [packA]
 ·rw [e1] at i1;have h1:decide (0≤lo∧lo≤40)=true:=e1
  cases h3:(hi == -1)
  ·have hb:bndB lo hi=inZ hi lo 40:=by
    simp only [bndB,h1,h3,inZ,Bool.true_and,Bool.false_or]
   rw [hb];refine sI Tryz.func239 Tryz.ntmps239 fun hbox htok=>?_
   repeat (first|simp|refine sR ?_)
   refine Stop.of_d (i1 _ _) ?_;simp;repeat (first|simp [h3]|refine sR ?_)
   refine Stop.of_d (i2 _ _) ?_;repeat (first|simp|refine sR ?_)
   refine sT (sH hbox htok ?_);simp [packA]
  ·have hb:bndB lo hi=true:=by simp only [bndB,h1,h3,Bool.true_and,Bool.true_or]
   rw [hb];refine sI Tryz.func239 Tryz.ntmps239 fun hbox htok=>?_
   repeat (first|simp|refine sR ?_)
   refine Stop.of_d (i1 _ _) ?_;simp;repeat (first|simp [h3]|refine sR ?_)
   refine sT (sH hbox htok ?_);simp [packA]
def insB (t:Ty) (n:Int):Bool:=decide (0≤n∧n<t.nodes.length)
theorem edge1_c (t:Ty) (n:Int) (box:Bxs) (nb k:Nat) (tok:Tks) (nt:Nat) (h1:box k=some [[.d (nts t.nodes),.d (ets t.edges)]]) :
  ACalls Tryz.prog 225 [I n,.ptr k 0 0] ⟨box,nb,tok,nt⟩ fun v m=>v=B (insB t n)∧m=⟨box,nb,tok,nt⟩:=by
 by_cases h0:0≤n
 ·refine sI Tryz.func225 Tryz.ntmps225 fun hbox htok=>?_
  have k1n:=key_lt hbox h1;repeat (first|simp [lb_out k1n,h1,h0]|refine sR ?_)
  refine sT (sH hbox htok ?_);simp [packA,insB,h0]
 ·refine sI Tryz.func225 Tryz.ntmps225 fun hbox htok=>?_
  have k1n:=key_lt hbox h1;repeat (first|simp [lb_out k1n,h1,h0]|refine sR ?_)
  refine sT (sH hbox htok ?_);simp [packA,insB,h0]
def atAt (L:List At) (k:Nat):Int:=attE (L.getD k ⟨eB,0,0,[]⟩) (L.take k)
def ownAt (L:List At) (M k:Nat):Int:=if k+M<L.length then 0 else atAt L k
def ownE (L:List At) (M:Nat):Int:=firstE (ownAt L M) L.length
theorem ownAt_zero (L:List At) (M:Nat):∀ k,k+M≤L.length→firstE (ownAt L M) k=0
 | 0,_=>rfl
 | k+1,h=>by
  simp only [firstE,ownAt_zero L M k (by omega), ↓reduceIte,ownAt];rw [if_pos (by omega)]
theorem atsL_own {t:Ty} {i:Nat}:(t.nd i).own.length≤(atsL t i).length:=by
 rw [atsL];split
 ·rw [List.length_append]; omega
 ·exact Nat.le_refl _
theorem atsL_fit {t:Ty} (ht:t.Fit):∀ n i,i<n→∀ x∈atsL t i,x.Fit
 | 0,i,hi=>absurd hi (Nat.not_lt_zero _)
 | n+1,i,hi=>by
  have hown:∀ x∈(t.nd i).own,x.Fit:=by
   by_cases h:i<t.nodes.length
   ·rw [nd_at h]; exact (ht.a _ (List.getElem_mem h)).2
   ·intro x hx;simp only [Ty.nd,List.getD_eq_getElem?_getD,List.getElem?_eq_none (Nat.le_of_not_lt h),Option.getD_none] at hx;cases hx
  rw [atsL];split
  ·rename_i h;intro x hx;rcases List.mem_append.1 hx with hx|hx
   ·exact atsL_fit ht n _ (by omega) x hx
   ·exact hown x hx
  ·exact hown
theorem at_getD {L:List At} {k:Nat} (h:k<L.length):atAt L k=attE L[k] (L.take k):=by simp [atAt,h]
theorem atts_take (L:List At) (k:Nat):atts (L.take k)=.sl 4 (List.take k (L.map At.cells)):=by rw [atts,List.map_take]
theorem atts_at {L:List At} {k:Nat} (h:k<L.length):(L.map At.cells)[k]?=some L[k].cells:=by simp [h]
def nodE (t:Ty) (i:Nat):Int :=
 if nameB (t.nd i).name=false then 2 else if anyB (fun y=>decide (y.name=(t.nd i).name)) (t.nodes.take i)=true then 5
 else if (t.nd i).par < -1∨(i:Int)≤(t.nd i).par then 6 else if 4<(t.nd i).own.length then 3
 else if 8<(atsL t i).length then 3 else ownE (atsL t i) (t.nd i).own.length
def stNo (L:List At) (nb:Nat) (box:Bxs) (tok:Tks) (nt:Nat) (k:Nat):AState:=⟨tl [(7,I k),(6,.d (atts L))],lb nb box [],tok,nt⟩
theorem node_c (t:Ty) (ht:t.Fit) (hM:∀ i,(t.nd i).own.length≤1000) (i:Nat) (hi:i<t.nodes.length) (hp:∀ j,j<i→(t.nd j).par<j) (tok:Tks) (nt:Nat):DCall Tryz.prog 161 [t.av,I i] tok nt (I (nodE t i)) tok nt:=by
 intro box nb;have hnd:=nd_at hi;have hmem:=List.getElem_mem hi;have h1:=isName_c (t.nd i).name (by rw [hnd]; exact Nat.le_trans (ht.nn _ hmem) (by decide));obtain ⟨N,hN⟩:∃ N,nodE t i=N:=⟨_,rfl⟩
 rw [hN];unfold nodE at hN;rw [hnd] at h1 hN;cases e1:nameB t.nodes[i].name
 ·rw [e1] at h1 hN;rw [if_pos rfl] at hN;refine sI Tryz.func161 Tryz.ntmps161 fun hbox htok=>?_
  repeat (first|simp [hi]|refine sR ?_)
  refine Stop.of_d (h1 _ _) ?_;repeat (first|simp|refine sR ?_)
  refine sC ?_;repeat (first|simp|refine sR ?_)
  refine sT (sH hbox htok ?_);simp [packA,←hN]
 ·rw [e1] at h1 hN;rw [if_neg (by simp)] at hN;obtain ⟨p,hpp⟩:∃ p:NT→Bool,(fun y=>decide (y.name=t.nodes[i].name))=p:=⟨_,rfl⟩
  have h2:=fun y box nb k (hbk:box k=some [(t.nodes[i]'hi).row])=>node1_c (t.nodes[i]'hi) y box nb k tok nt hbk
  have hpy:∀ y:NT,decide (y.name=t.nodes[i].name)=p y:=fun y=>by rw [←hpp]
  simp only [hpy] at h2;rw [hpp] at hN;refine sI Tryz.func161 Tryz.ntmps161 fun hbox htok=>?_
  repeat (first|simp [hi]|refine sR ?_)
  refine Stop.of_d (h1 _ _) ?_;repeat (first|simp [hi]|refine sR ?_|refine sC ?_)
  refine ⟨by omega,?_⟩;have hcf:=fun (b:Bxs) nb' h3 h4=>containsFuncN_c (t.nodes.take i) 222 [.ptr (nb+5) 0 0] p (by simp; have:=ht.n; omega) b nb' tok nt h3 h4
  rw [show nts (t.nodes.take i)=.sl 4 (List.take i (t.nodes.map NT.cells)) by rw [nts,List.map_take]] at hcf;refine Stop.of_b (hcf _ _ (fun c hc=>by rw [List.mem_singleton.1 hc]; simp [lb_at]) (fun y hy box' nb' he=>h2 y box' nb' _ (he _ _ (by simp [lb_at])))) ?_;simp;cases e2:anyB p (t.nodes.take i)
  ·rw [e2,if_neg (by simp)] at hN;refine sC ?_;simp;by_cases e3:t.nodes[i].par < -1
   ·rw [if_pos (.inl e3)] at hN;repeat (first|simp [e3]|refine sR ?_)
    refine sC ?_;repeat (first|simp|refine sR ?_)
    refine sT (sH hbox htok ?_);simp [packA,←hN]
   ·by_cases e4:(i:Int)≤t.nodes[i].par
    ·rw [if_pos (.inr e4)] at hN;repeat (first|simp [e3,e4]|refine sR ?_)
     refine sC ?_;repeat (first|simp|refine sR ?_)
     refine sT (sH hbox htok ?_);simp [packA,←hN]
    ·rw [if_neg (by omega)] at hN;repeat (first|simp [e3,e4]|refine sR ?_)
     refine sC ?_;repeat (first|simp|refine sR ?_)
     by_cases e5:4<t.nodes[i].own.length
     ·have e5':(4:Int)<t.nodes[i].own.length:=by omega
      rw [if_pos e5] at hN;refine sC ?_;simp [e5,e5'];repeat (first|simp|refine sR ?_)
      refine sT (sH hbox htok ?_);simp [packA,←hN]
     ·have e5':¬ (4:Int)<t.nodes[i].own.length:=by omega
      rw [if_neg e5] at hN;obtain ⟨tok1,nt1,o1,hk,hc⟩:=attrs_c t ht hM (i+1) i (Nat.lt_succ_self _) hi (fun j hj=>by
       by_cases e:j=i
       ·subst e; rw [hnd]; omega
       ·exact hp j (by omega)) tok nt
      have hal:=atsL_len hM (i+1) i (Nat.lt_succ_self _);have haf:=atsL_fit ht (i+1) i (Nat.lt_succ_self _);have hml:=atsL_own (t:=t) (i:=i);rw [hnd] at hml;have htn:=ht.n;have hal2:(atsL t i).length≤1000000:=Nat.le_trans hal (by have:(i+1) * 1000≤1000 * 1000:=Nat.mul_le_mul_right _ (by omega); omega)
      clear hal;generalize atsL t i=L at *;refine sC ?_;simp [e5,e5'];repeat (first|simp|refine sR ?_)
      refine Stop.of_d (hc) ?_;simp;have hkk:=hk htok;repeat (first|simp|refine sR ?_)
      by_cases e6:8<L.length
      ·have e6':(8:Int)<L.length:=by omega
       rw [if_pos e6] at hN;refine sC ?_;simp [e6,e6'];repeat (first|simp|refine sR ?_)
       refine sT (sG hbox htok hkk.old hkk.le ?_);simp [packA,←hN]
      ·have e6':¬ (8:Int)<L.length:=by omega
       rw [if_neg e6] at hN;have hw0:IntKind.i64.wrap ((L.length:Int) - (t.nodes[i].own.length:Nat))=((L.length - t.nodes[i].own.length:Nat):Int):=by rw [wrap_in (by omega) (by omega)]; omega
       have hz:=ownAt_zero L t.nodes[i].own.length (L.length - t.nodes[i].own.length) (by omega);unfold ownE at hN;obtain ⟨f,hf⟩:∃ f,ownAt L t.nodes[i].own.length=f:=⟨_,rfl⟩
       have hfk:∀ k,(hk:k<L.length)→L.length - t.nodes[i].own.length≤k→f k=attE L[k] (L.take k):=fun k hk hge=>by
        rw [←hf,ownAt,if_neg (by omega),at_getD hk]
       rw [hf] at hN hz;refine sC ?_;simp [e6,e6'];repeat (first|simp [hi,lb_at,hw0]|refine sR ?_)
       have hal3:L.length - t.nodes[i].own.length≤L.length:=Nat.sub_le _ _
       generalize L.length - t.nodes[i].own.length=a at *;refine sN ?_;refine AL.loopT (stNo L nb box tok1 nt1) (fun k=>a≤k∧k≤L.length∧firstE f k=0) (fun k=>L.length - k) a ⟨Nat.le_refl _,by omega,hz⟩ (Weaks.mk (by have:=hkk.le; omega) rfl (by simp [ToL,lk,To.data]) trivial) ?_;rintro k S' ⟨hak,hkl,hok⟩ hS;simp only [stNo] at hS;subst hS;have hw:=sW (i:=k) (by omega);repeat (first|simp|refine sR ?_|refine sC ?_)
       refine ⟨fun hlt=>?_,fun hge=>?_⟩
       ·have hA:=hfk k hlt hak;have hc2:=attribute_c L[k] (L.take k) (haf _ (List.getElem_mem hlt)) (by simp; omega);rw [atts_take,←hA] at hc2;have hR:f k≠0→firstE f L.length=f k:=fun h0=>firstE_stop hok h0 L.length hlt
        have hnx:f k=0→firstE f (k+1)=0:=fun h0=>by simp only [firstE,hok,h0, ↓reduceIte]
        generalize f k=E at *;repeat (first|simp [hlt,atts_at hlt]|refine sR ?_)
        try refine ⟨by omega,?_⟩
        refine Stop.of_d (hc2 _ _) ?_;repeat (first|simp|refine sR ?_)
        by_cases e7:E=0
        ·refine sC ?_;simp [e7];repeat (first|simp [hw]|refine sR ?_)
         refine sE ?_;exact ⟨k+1,⟨by omega,hlt,hnx e7⟩,by omega,Weaks.mk (by have:=hkk.le; omega) rfl (by simp [ToL,lk]) trivial⟩
        ·have b7:(E !=0)=true:=by simp [e7]
         refine sC ?_;simp [e7,b7];repeat (first|simp|refine sR ?_)
         refine sT (sG hbox htok hkk.old hkk.le ?_);simp [packA,←hN,hR e7]
       ·refine sX ?_;simp only [AU, ↓reduceIte];repeat (first|simp|refine sR ?_)
        have:k=L.length:=by omega
        subst this;refine sT (sG hbox htok hkk.old hkk.le ?_);simp [packA,←hN,hok]
  ·rw [e2,if_pos rfl] at hN;refine sC ?_;repeat (first|simp|refine sR ?_)
   refine sT (sH hbox htok ?_);simp [packA,←hN]
def anyN (l:List NT) (s:ByteArray):Bool:=anyB (fun y=>decide (y.name=s)) l
theorem anyN_iff {l:List NT} {s:ByteArray}:anyN l s=true↔∃ x∈l,x.name=s:=by simp [anyN,anyB]
theorem anyN_more {l:List NT} {i:Nat} {s:ByteArray} (hi:i<l.length) (h:anyN (l.take i) s=false) (hne:l[i].name≠s):anyN (l.take (i+1)) s=false:=by
 rw [←Bool.not_eq_true,anyN_iff] at h ⊢;rintro ⟨x,hx,he⟩;rw [List.take_succ_eq_append_getElem hi,List.mem_append,List.mem_singleton] at hx;rcases hx with hx|hx
 ·exact h ⟨x,hx,he⟩
 ·exact hne (by rw [←hx]; exact he)
theorem anyN_hit {l:List NT} {k i:Nat} {s:ByteArray} (hk:k<l.length) (hki:k<i) (he:l[k].name=s):anyN (l.take i) s=true :=
 anyN_iff.2 ⟨l[k],by rw [List.mem_take_iff_getElem]; exact ⟨k,by omega,rfl⟩,he⟩
def anyAt (l:List At) (s:ByteArray):Bool:=anyB (fun y=>decide (y.name=s)) l
theorem anyAt_iff {l:List At} {s:ByteArray}:anyAt l s=true↔∃ x∈l,x.name=s:=by simp [anyAt,anyB]
theorem anyAt_more {l:List At} {i:Nat} {s:ByteArray} (hi:i<l.length) (h:anyAt (l.take i) s=false) (hne:l[i].name≠s):anyAt (l.take (i+1)) s=false:=by
 rw [←Bool.not_eq_true,anyAt_iff] at h ⊢;rintro ⟨x,hx,he⟩;rw [List.take_succ_eq_append_getElem hi,List.mem_append,List.mem_singleton] at hx;rcases hx with hx|hx
 ·exact h ⟨x,hx,he⟩
 ·exact hne (by rw [←hx]; exact he)
theorem anyAt_hit {l:List At} {k i:Nat} {s:ByteArray} (hk:k<l.length) (hki:k<i) (he:l[k].name=s):anyAt (l.take i) s=true :=
 anyAt_iff.2 ⟨l[k],by rw [List.mem_take_iff_getElem]; exact ⟨k,by omega,rfl⟩,he⟩
theorem attE_attS (x:At) (b:List At):attE x b=if nameB x.name=false then 2 else if anyAt b x.name=true then 5 else attS x:=rfl
def stNr1 (t:Ty) (i:Nat) (n:NT) (nb:Nat) (box:Bxs) (tok:Tks) (nt:Nat) (k:Nat):AState:=⟨tl [(6,I k),(5,.ptr (nb+5) 0 0),(2,.ptr (nb+2) 0 0),(1,I i)],lb nb box [(5,[n.row]),(2,[[.d (nts t.nodes),.d (ets t.edges)]])],tok,nt⟩
def stNr2 (L:List At) (nb:Nat) (box:Bxs) (tok:Tks) (nt:Nat) (k:Nat):AState:=⟨tl [(8,I k),(7,.d (atts L))],lb nb box [],tok,nt⟩
def stNr3 (L:List At) (k:Nat) (nb:Nat) (box:Bxs) (tok:Tks) (nt:Nat) (j:Nat):AState:=⟨tl [(9,I j),(8,I k),(7,.d (atts L))],lb nb box [],tok,nt⟩
theorem node04_c (t:Ty) (ht:t.Fit) (hM:∀ i,(t.nd i).own.length≤1000) (i:Nat) (hi:i<t.nodes.length) (hp:∀ j,j<i→(t.nd j).par<j) (tok:Tks) (nt:Nat):DCall Tryz.prog 176 [t.av,I i] tok nt (I (nodE t i)) tok nt:=by
 intro box nb;have hnd:=nd_at hi;have hmem:=List.getElem_mem hi;have htn:=ht.n;have h1:=isName01_c (t.nd i).name (by rw [hnd]; exact Nat.le_trans (ht.nn _ hmem) (by decide));obtain ⟨N,hN⟩:∃ N,nodE t i=N:=⟨_,rfl⟩
 rw [hN];unfold nodE at hN
 change (if nameB (t.nd i).name=false then (2:Int) else if anyN (t.nodes.take i) (t.nd i).name=true then 5 else _)=N at hN
 rw [hnd] at h1 hN;have hin:=in04_c t.nodes[i].par (-1) ((i:Int) - 1);have hwi:IntKind.i64.wrap ((i:Int) - 1)=(i:Int) - 1:=by rw [wrap_in (by omega) (by omega)]
 cases e1:nameB t.nodes[i].name
 ·rw [e1] at h1 hN;rw [if_pos rfl] at hN;refine sI Tryz.func176 Tryz.ntmps176 fun hbox htok=>?_
  repeat (first|simp [hi]|refine sR ?_)
  refine Stop.of_d (h1 _ _) ?_;repeat (first|simp|refine sR ?_)
  refine sC ?_;repeat (first|simp|refine sR ?_)
  refine sT (sH hbox htok ?_);simp [packA,←hN]
 ·rw [e1] at h1 hN;rw [if_neg (by simp)] at hN;refine sI Tryz.func176 Tryz.ntmps176 fun hbox htok=>?_
  repeat (first|simp [hi]|refine sR ?_)
  refine Stop.of_d (h1 _ _) ?_;repeat (first|simp|refine sR ?_)
  refine sC ?_;repeat (first|simp|refine sR ?_)
  refine sN ?_;refine AL.loopT (stNr1 t i t.nodes[i] nb box tok nt) (fun k=>k≤i∧anyN (t.nodes.take k) t.nodes[i].name=false) (fun k=>i - k) 0 ⟨Nat.zero_le _,rfl⟩ wkA ?_;rintro k S' ⟨hk,hm⟩ hS;simp only [stNr1] at hS;subst hS;have hwk:=sW (i:=k) (by omega);repeat (first|simp|refine sR ?_|refine sC ?_)
  refine ⟨fun hlk=>?_,fun hge=>?_⟩
  ·have hkl:k<t.nodes.length:=by omega
   by_cases e2:t.nodes[k].name=t.nodes[i].name
   ·have b2:(t.nodes[k].name.toList==t.nodes[i].name.toList)=true:=by rw [seq_dec]; simp [e2]
    rw [if_pos (anyN_hit hkl hlk e2)] at hN;repeat (first|simp [hi,hkl,b2]|refine sR ?_)
    refine sC ?_;simp [b2];repeat (first|simp|refine sR ?_)
    refine sT (sH hbox htok ?_);simp [packA,←hN]
   ·have b2:(t.nodes[k].name.toList==t.nodes[i].name.toList)=false:=by rw [seq_dec]; simp [e2]
    repeat (first|simp [hi,hkl,b2]|refine sR ?_)
    refine sC ?_;simp [b2];repeat (first|simp [hwk]|refine sR ?_)
    refine sE ?_;exact ⟨k+1,⟨hlk,anyN_more hkl hm e2⟩,by omega,wkA⟩
  ·refine sX ?_;simp only [AU, ↓reduceIte];have:k=i:=by omega
   subst this;rw [hm,if_neg (by simp)] at hN;by_cases e3:t.nodes[k].par < -1∨(k:Int)≤t.nodes[k].par
   ·rw [if_pos e3] at hN;have b3:inZ t.nodes[k].par (-1) ((k:Int) - 1)=false:=by simp only [inZ,decide_eq_false_iff_not]; omega
    rw [b3] at hin;repeat (first|simp [hi,hwi]|refine sR ?_)
    refine Stop.of_d (hin _ _) ?_;repeat (first|simp|refine sR ?_)
    refine sC ?_;repeat (first|simp|refine sR ?_)
    refine sT (sH hbox htok ?_);simp [packA,←hN]
   ·rw [if_neg e3] at hN;have b3:inZ t.nodes[k].par (-1) ((k:Int) - 1)=true:=by simp only [inZ,decide_eq_true_eq]; omega
    rw [b3] at hin;obtain ⟨tok1,nt1,o1,hk,hc⟩:=attrs04_c t ht hM (k+1) k (Nat.lt_succ_self _) hi (fun j hj=>by
     by_cases e:j=k
     ·subst e; rw [hnd]; omega
     ·exact hp j (by omega)) tok nt
    have hal:=atsL_len hM (k+1) k (Nat.lt_succ_self _);have haf:=atsL_fit ht (k+1) k (Nat.lt_succ_self _);have hml:=atsL_own (t:=t) (i:=k);rw [hnd] at hml;have hal2:(atsL t k).length≤1000000:=Nat.le_trans hal (by have:(k+1) * 1000≤1000 * 1000:=Nat.mul_le_mul_right _ (by omega); omega)
    clear hal;generalize atsL t k=L at *;have hw0:IntKind.i64.wrap ((L.length:Int) - (t.nodes[k].own.length:Nat))=((L.length - t.nodes[k].own.length:Nat):Int):=by rw [wrap_in (by omega) (by omega)]; omega
    have hz:=ownAt_zero L t.nodes[k].own.length (L.length - t.nodes[k].own.length) (by omega);unfold ownE at hN;obtain ⟨f,hf⟩:∃ f,ownAt L t.nodes[k].own.length=f:=⟨_,rfl⟩
    have hfk:∀ j,(hk:j<L.length)→L.length - t.nodes[k].own.length≤j→f j=attE L[j] (L.take j):=fun j hk hge=>by
     rw [←hf,ownAt,if_neg (by omega),at_getD hk]
    rw [hf] at hN hz;repeat (first|simp [hi,hwi]|refine sR ?_)
    refine Stop.of_d (hin _ _) ?_;repeat (first|simp [hi]|refine sR ?_|refine sC ?_)
    refine Stop.of_d (hc) ?_;simp;have hkk:=hk htok;by_cases e5:4<t.nodes[k].own.length
    ·have e5':(4:Int)<t.nodes[k].own.length:=by omega
     rw [if_pos e5] at hN;repeat (first|simp [hi,e5,e5']|refine sR ?_)
     refine sC ?_;simp [e5,e5'];repeat (first|simp|refine sR ?_)
     refine sT (sG hbox htok hkk.old hkk.le ?_);simp [packA,←hN]
    ·have e5':¬ (4:Int)<t.nodes[k].own.length:=by omega
     rw [if_neg e5] at hN;by_cases e6:8<L.length
     ·have e6':(8:Int)<L.length:=by omega
      rw [if_pos e6] at hN;repeat (first|simp [hi,e5,e5',e6,e6']|refine sR ?_)
      refine sC ?_;simp [e6,e6'];repeat (first|simp|refine sR ?_)
      refine sT (sG hbox htok hkk.old hkk.le ?_);simp [packA,←hN]
     ·have e6':¬ (8:Int)<L.length:=by omega
      rw [if_neg e6] at hN;repeat (first|simp [hi,e5,e5',e6,e6']|refine sR ?_)
      refine sC ?_;simp [e6,e6'];repeat (first|simp [hi,hw0]|refine sR ?_)
      have hal3:L.length - t.nodes[k].own.length≤L.length:=Nat.sub_le _ _
      generalize L.length - t.nodes[k].own.length=a at *;refine sN ?_;refine AL.loopT (stNr2 L nb box tok1 nt1) (fun k=>a≤k∧k≤L.length∧firstE f k=0) (fun k=>L.length - k) a ⟨Nat.le_refl _,by omega,hz⟩ (Weaks.mk (by have:=hkk.le; omega) rfl (by simp [ToL,lk,To.data]) trivial) ?_;rintro k S' ⟨hak,hkl,hok⟩ hS;simp only [stNr2] at hS;subst hS;have hw:=sW (i:=k) (by omega);repeat (first|simp|refine sR ?_|refine sC ?_)
      refine ⟨fun hlt=>?_,fun hge=>?_⟩
      ·have hA:=hfk k hlt hak;have hR:f k≠0→firstE f L.length=f k:=fun h0=>firstE_stop hok h0 L.length hlt
       have hnx:f k=0→firstE f (k+1)=0:=fun h0=>by simp only [firstE,hok,h0, ↓reduceIte]
       generalize f k=E at *;rw [attE_attS] at hA;have hfx:=haf _ (List.getElem_mem hlt);have hn:=isName01_c L[k].name (Nat.le_trans hfx.n (by decide));have hc2:=attribute04_c L[k] hfx;repeat (first|simp [hlt,atts_at hlt]|refine sR ?_)
       refine Stop.of_d (hn _ _) ?_;simp;cases f1:nameB L[k].name
       ·rw [f1,if_pos rfl] at hA;repeat (first|simp|refine sR ?_)
        refine sC ?_;repeat (first|simp|refine sR ?_)
        refine sT (sG hbox htok hkk.old hkk.le ?_);simp [packA,←hN,hR (by omega),hA]
       ·rw [f1,if_neg (by simp)] at hA;repeat (first|simp|refine sR ?_)
        refine sC ?_;repeat (first|simp|refine sR ?_)
        refine sN ?_;refine AL.loopT (stNr3 L k nb box tok1 nt1) (fun j=>j≤k∧anyAt (L.take j) L[k].name=false) (fun j=>k - j) 0 ⟨Nat.zero_le _,rfl⟩ (Weaks.mk (by have:=hkk.le; omega) rfl (by simp [ToL,lk]) trivial) ?_;rintro j S' ⟨hj,hm2⟩ hS;simp only [stNr3] at hS;subst hS;have hwj:=sW (i:=j) (by omega);repeat (first|simp|refine sR ?_|refine sC ?_)
        refine ⟨fun hlj=>?_,fun hgj=>?_⟩
        ·have hjl:j<L.length:=by omega
         by_cases f2:L[j].name=L[k].name
         ·have b2:(L[j].name.toList==L[k].name.toList)=true:=by rw [seq_dec]; simp [f2]
          rw [if_pos (anyAt_hit hjl hlj f2)] at hA;repeat (first|simp [hlt,hjl,b2]|refine sR ?_)
          refine sC ?_;simp [b2];repeat (first|simp|refine sR ?_)
          refine sT (sG hbox htok hkk.old hkk.le ?_);simp [packA,←hN,hR (by omega),hA]
         ·have b2:(L[j].name.toList==L[k].name.toList)=false:=by rw [seq_dec]; simp [f2]
          repeat (first|simp [hlt,hjl,b2]|refine sR ?_)
          refine sC ?_;simp [b2];repeat (first|simp [hwj]|refine sR ?_)
          refine sE ?_;exact ⟨j+1,⟨hlj,anyAt_more hjl hm2 f2⟩,by omega,Weaks.mk (by have:=hkk.le; omega) rfl (by simp [ToL,lk]) trivial⟩
        ·refine sX ?_;simp only [AU, ↓reduceIte];have:j=k:=by omega
         subst this;rw [hm2,if_neg (by simp)] at hA;rw [←hA] at hc2;repeat (first|simp [hlt,atts_at hlt]|refine sR ?_)
         refine Stop.of_d (hc2 _ _) ?_;repeat (first|simp|refine sR ?_)
         by_cases e7:E=0
         ·refine sC ?_;simp [e7];repeat (first|simp [hw]|refine sR ?_)
          refine sE ?_;exact ⟨j+1,⟨by omega,hlt,hnx e7⟩,by omega,Weaks.mk (by have:=hkk.le; omega) rfl (by simp [ToL,lk]) trivial⟩
         ·have b7:(E !=0)=true:=by simp [e7]
          refine sC ?_;simp [e7,b7];repeat (first|simp|refine sR ?_)
          refine sT (sG hbox htok hkk.old hkk.le ?_);simp [packA,←hN,hR e7]
      ·refine sX ?_;simp only [AU, ↓reduceIte];repeat (first|simp|refine sR ?_)
       have:k=L.length:=by omega
       subst this;refine sT (sG hbox htok hkk.old hkk.le ?_);simp [packA,←hN,hok]
instance:Inhabited ET:=⟨⟨eB,0,0,0,0,0,0⟩⟩
def Ty.ed (t:Ty) (i:Nat):ET:=t.edges.getD i default
theorem ed_at {t:Ty} {i:Nat} (h:i<t.edges.length):t.ed i=t.edges[i]:=by simp [Ty.ed,h]
def anyE (l:List ET) (s:ByteArray):Bool:=anyB (fun y=>decide (y.name=s)) l
theorem anyE_iff {l:List ET} {s:ByteArray}:anyE l s=true↔∃ x∈l,x.name=s:=by simp [anyE,anyB]
theorem anyE_more {l:List ET} {i:Nat} {s:ByteArray} (hi:i<l.length) (h:anyE (l.take i) s=false) (hne:l[i].name≠s):anyE (l.take (i+1)) s=false:=by
 rw [←Bool.not_eq_true,anyE_iff] at h ⊢;rintro ⟨x,hx,he⟩;rw [List.take_succ_eq_append_getElem hi,List.mem_append,List.mem_singleton] at hx;rcases hx with hx|hx
 ·exact h ⟨x,hx,he⟩
 ·exact hne (by rw [←hx]; exact he)
theorem anyE_hit {l:List ET} {k i:Nat} {s:ByteArray} (hk:k<l.length) (hki:k<i) (he:l[k].name=s):anyE (l.take i) s=true :=
 anyE_iff.2 ⟨l[k],by rw [List.mem_take_iff_getElem]; exact ⟨k,by omega,rfl⟩,he⟩
def edR (t:Ty) (x:ET):Int:=if insB t x.fr=false then 6 else if insB t x.to=false then 6 else if bndB x.ol x.oh=false then 6 else if bndB x.il x.ih=false then 6 else 0
def edgE (t:Ty) (i:Nat):Int :=
 if nameB (t.ed i).name=false then 2 else if anyE (t.edges.take i) (t.ed i).name=true then 5 else edR t (t.ed i)
set_option maxRecDepth 100000 in
theorem edge_c (t:Ty) (ht:t.Fit) (i:Nat) (hi:i<t.edges.length) (tok:Tks) (nt:Nat):DCall Tryz.prog 162 [t.av,I i] tok nt (I (edgE t i)) tok nt:=by
 intro box nb;have hnd:=ed_at hi;have hmem:=List.getElem_mem hi;have hte:=ht.e;have h1:=isName_c (t.ed i).name (by rw [hnd]; exact Nat.le_trans (ht.en _ hmem) (by decide));obtain ⟨N,hN⟩:∃ N,edgE t i=N:=⟨_,rfl⟩
 rw [hN];unfold edgE at hN;rw [hnd] at h1 hN;cases e1:nameB t.edges[i].name
 ·rw [e1] at h1 hN;rw [if_pos rfl] at hN;refine sI Tryz.func162 Tryz.ntmps162 fun hbox htok=>?_
  repeat (first|simp [hi]|refine sR ?_)
  refine Stop.of_d (h1 _ _) ?_;repeat (first|simp|refine sR ?_)
  refine sC ?_;repeat (first|simp|refine sR ?_)
  refine sT (sH hbox htok ?_);simp [packA,←hN]
 ·rw [e1] at h1 hN;rw [if_neg (by simp)] at hN;unfold anyE at hN;obtain ⟨p,hpp⟩:∃ p:ET→Bool,(fun y=>decide (y.name=t.edges[i].name))=p:=⟨_,rfl⟩
  have h2:=fun y box nb k (hbk:box k=some [(t.edges[i]'hi).row])=>edge2_c (t.edges[i]'hi) y box nb k tok nt hbk
  have hpy:∀ y:ET,decide (y.name=t.edges[i].name)=p y:=fun y=>by rw [←hpp]
  simp only [hpy] at h2;rw [hpp] at hN;refine sI Tryz.func162 Tryz.ntmps162 fun hbox htok=>?_
  repeat (first|simp [hi]|refine sR ?_)
  refine Stop.of_d (h1 _ _) ?_;repeat (first|simp [hi]|refine sR ?_|refine sC ?_)
  try refine ⟨by omega,?_⟩
  have hcf:=fun (b:Bxs) nb' h3 h4=>containsFuncE2_c (t.edges.take i) 227 [.ptr (nb+5) 0 0] p (by simp; have:=ht.e; omega) b nb' tok nt h3 h4
  rw [show ets (t.edges.take i)=.sl 7 (List.take i (t.edges.map ET.cells)) by rw [ets,List.map_take]] at hcf;refine Stop.of_b (hcf _ _ (fun c hc=>by rw [List.mem_singleton.1 hc]; simp [lb_at]) (fun y hy box' nb' he=>h2 y box' nb' _ (he _ _ (by simp [lb_at])))) ?_;simp;cases e2:anyB p (t.edges.take i)
  ·rw [e2,if_neg (by simp)] at hN;unfold edR at hN;have b1:=bounded_c t.edges[i].ol t.edges[i].oh;have b2:=bounded_c t.edges[i].il t.edges[i].ih;refine sC ?_;repeat (first|simp|refine sR ?_)
   refine Stop.of_b (edge1_c t t.edges[i].fr _ _ (nb+2) _ _ (by simp [lb_at])) ?_;simp;cases g1:insB t t.edges[i].fr
   ·rw [g1,if_pos rfl] at hN;repeat (first|simp|refine sR ?_)
    refine sC ?_;repeat (first|simp|refine sR ?_)
    refine sC ?_;repeat (first|simp|refine sR ?_)
    refine sT (sH hbox htok ?_);simp [packA,←hN]
   ·rw [g1,if_neg (by simp)] at hN;repeat (first|simp|refine sR ?_)
    refine Stop.of_b (edge1_c t t.edges[i].to _ _ (nb+2) _ _ (by simp [lb_at])) ?_;simp;cases g2:insB t t.edges[i].to
    ·rw [g2,if_pos rfl] at hN;repeat (first|simp|refine sR ?_)
     refine sC ?_;repeat (first|simp|refine sR ?_)
     refine sC ?_;repeat (first|simp|refine sR ?_)
     refine sT (sH hbox htok ?_);simp [packA,←hN]
    ·rw [g2,if_neg (by simp)] at hN;repeat (first|simp|refine sR ?_)
     refine sC ?_;repeat (first|simp|refine sR ?_)
     refine Stop.of_d (b1 _ _) ?_;simp;cases g3:bndB t.edges[i].ol t.edges[i].oh
     ·rw [g3,if_pos rfl] at hN;repeat (first|simp|refine sR ?_)
      refine sC ?_;repeat (first|simp|refine sR ?_)
      refine sT (sH hbox htok ?_);simp [packA,←hN]
     ·rw [g3,if_neg (by simp)] at hN;repeat (first|simp|refine sR ?_)
      refine Stop.of_d (b2 _ _) ?_;simp;cases g4:bndB t.edges[i].il t.edges[i].ih
      ·rw [g4,if_pos rfl] at hN;repeat (first|simp|refine sR ?_)
       refine sC ?_;repeat (first|simp|refine sR ?_)
       refine sT (sH hbox htok ?_);simp [packA,←hN]
      ·rw [g4,if_neg (by simp)] at hN;repeat (first|simp|refine sR ?_)
       refine sC ?_;repeat (first|simp|refine sR ?_)
       refine sT (sH hbox htok ?_);simp [packA,←hN]
  ·rw [e2,if_pos rfl] at hN;refine sC ?_;repeat (first|simp|refine sR ?_)
   refine sT (sH hbox htok ?_);simp [packA,←hN]
def stEr (t:Ty) (i:Nat) (x:ET) (nb:Nat) (box:Bxs) (tok:Tks) (nt:Nat) (k:Nat):AState:=⟨tl [(6,I k),(5,.ptr (nb+5) 0 0),(2,.ptr (nb+2) 0 0),(1,I i)],lb nb box [(5,[x.row]),(2,[[.d (nts t.nodes),.d (ets t.edges)]])],tok,nt⟩
theorem edge04_c (t:Ty) (ht:t.Fit) (i:Nat) (hi:i<t.edges.length) (tok:Tks) (nt:Nat):DCall Tryz.prog 177 [t.av,I i] tok nt (I (edgE t i)) tok nt:=by
 intro box nb;have hnd:=ed_at hi;have hmem:=List.getElem_mem hi;have hte:=ht.e;have htn:=ht.n;have h1:=isName01_c (t.ed i).name (by rw [hnd]; exact Nat.le_trans (ht.en _ hmem) (by decide));obtain ⟨N,hN⟩:∃ N,edgE t i=N:=⟨_,rfl⟩
 rw [hN];unfold edgE at hN;rw [hnd] at h1 hN;have i1:=in04_c t.edges[i].fr 0 ((t.nodes.length:Int) - 1);have i2:=in04_c t.edges[i].to 0 ((t.nodes.length:Int) - 1);have b1:=bound04_c t.edges[i].ol t.edges[i].oh;have b2:=bound04_c t.edges[i].il t.edges[i].ih;have hins:∀ n:Int,inZ n 0 ((t.nodes.length:Int) - 1)=insB t n:=fun n=>by simp only [inZ,insB]; congr 1; simp only [eq_iff_iff]; omega
 rw [hins] at i1 i2;have hw0:IntKind.i64.wrap ((t.nodes.length:Int) - 1)=(t.nodes.length:Int) - 1:=by rw [wrap_in (by omega) (by omega)]
 cases e1:nameB t.edges[i].name
 ·rw [e1] at h1 hN;rw [if_pos rfl] at hN;refine sI Tryz.func177 Tryz.ntmps177 fun hbox htok=>?_
  repeat (first|simp [hi]|refine sR ?_)
  refine Stop.of_d (h1 _ _) ?_;repeat (first|simp|refine sR ?_)
  refine sC ?_;repeat (first|simp|refine sR ?_)
  refine sT (sH hbox htok ?_);simp [packA,←hN]
 ·rw [e1] at h1 hN;rw [if_neg (by simp)] at hN;refine sI Tryz.func177 Tryz.ntmps177 fun hbox htok=>?_
  repeat (first|simp [hi]|refine sR ?_)
  refine Stop.of_d (h1 _ _) ?_;repeat (first|simp|refine sR ?_)
  refine sC ?_;repeat (first|simp|refine sR ?_)
  refine sN ?_;refine AL.loopT (stEr t i t.edges[i] nb box tok nt) (fun k=>k≤i∧anyE (t.edges.take k) t.edges[i].name=false) (fun k=>i - k) 0 ⟨Nat.zero_le _,rfl⟩ wkA ?_;rintro k S' ⟨hk,hm⟩ hS;simp only [stEr] at hS;subst hS;have hwk:=sW (i:=k) (by omega);repeat (first|simp|refine sR ?_|refine sC ?_)
  refine ⟨fun hlk=>?_,fun hge=>?_⟩
  ·have hkl:k<t.edges.length:=by omega
   by_cases e2:t.edges[k].name=t.edges[i].name
   ·have b2:(t.edges[k].name.toList==t.edges[i].name.toList)=true:=by rw [seq_dec]; simp [e2]
    rw [if_pos (anyE_hit hkl hlk e2)] at hN;repeat (first|simp [hi,hkl,b2]|refine sR ?_)
    refine sC ?_;simp [b2];repeat (first|simp|refine sR ?_)
    refine sT (sH hbox htok ?_);simp [packA,←hN]
   ·have b2:(t.edges[k].name.toList==t.edges[i].name.toList)=false:=by rw [seq_dec]; simp [e2]
    repeat (first|simp [hi,hkl,b2]|refine sR ?_)
    refine sC ?_;simp [b2];repeat (first|simp [hwk]|refine sR ?_)
    refine sE ?_;exact ⟨k+1,⟨hlk,anyE_more hkl hm e2⟩,by omega,wkA⟩
  ·refine sX ?_;simp only [AU, ↓reduceIte];have:k=i:=by omega
   subst this;rw [hm,if_neg (by simp)] at hN;unfold edR at hN;repeat (first|simp [hi,hw0]|refine sR ?_)
   refine Stop.of_d (i1 _ _) ?_;simp;cases g1:insB t t.edges[k].fr
   ·rw [g1,if_pos rfl] at hN;repeat (first|simp|refine sR ?_)
    refine sC ?_;repeat (first|simp|refine sR ?_)
    refine sT (sH hbox htok ?_);simp [packA,←hN]
   ·rw [g1,if_neg (by simp)] at hN;repeat (first|simp|refine sR ?_)
    refine Stop.of_d (i2 _ _) ?_;simp;cases g2:insB t t.edges[k].to
    ·rw [g2,if_pos rfl] at hN;repeat (first|simp|refine sR ?_)
     refine sC ?_;repeat (first|simp|refine sR ?_)
     refine sT (sH hbox htok ?_);simp [packA,←hN]
    ·rw [g2,if_neg (by simp)] at hN;repeat (first|simp|refine sR ?_)
     refine Stop.of_d (b1 _ _) ?_;simp;cases g3:bndB t.edges[k].ol t.edges[k].oh
     ·rw [g3,if_pos rfl] at hN;repeat (first|simp|refine sR ?_)
      refine sC ?_;repeat (first|simp|refine sR ?_)
      refine sT (sH hbox htok ?_);simp [packA,←hN]
     ·rw [g3,if_neg (by simp)] at hN;repeat (first|simp|refine sR ?_)
      refine Stop.of_d (b2 _ _) ?_;simp;cases g4:bndB t.edges[k].il t.edges[k].ih
      ·rw [g4,if_pos rfl] at hN;repeat (first|simp|refine sR ?_)
       refine sC ?_;repeat (first|simp|refine sR ?_)
       refine sT (sH hbox htok ?_);simp [packA,←hN]
      ·rw [g4,if_neg (by simp)] at hN;repeat (first|simp|refine sR ?_)
       refine sC ?_;repeat (first|simp|refine sR ?_)
       refine sT (sH hbox htok ?_);simp [packA,←hN]
def firstN (f:Nat→Int) (g:Nat→ByteArray):Nat→ByteArray
 | 0=>eB
 | n+1=>if firstE f n=0 then (if f n=0 then eB else g n) else firstN f g n
theorem firstN_stop {f:Nat→Int} {g:Nat→ByteArray} {i:Nat} (h0:firstE f i=0) (h:f i≠0):∀ n,i<n→firstN f g n=g i
 | 0,hi=>absurd hi (Nat.not_lt_zero _)
 | n+1,hi=>by
  simp only [firstN];by_cases e:i=n
  ·subst e;rw [if_pos h0,if_neg h]
  ·have:=firstE_stop h0 h n (by omega)
   rw [if_neg (by rw [this]; exact h),firstN_stop h0 h n (by omega)]
theorem firstN_none {f:Nat→Int} {g:Nat→ByteArray}:∀ n,firstE f n=0→firstN f g n=eB
 | 0,_=>rfl
 | n+1,h=>by
  simp only [firstE] at h;split at h
  ·rename_i h1;rw [firstN,if_pos h1,if_pos h]
  ·rename_i h1;exact absurd h h1
def tyE (t:Ty):Int :=
 if t.nodes.length=0 then 7 else if 12<t.nodes.length then 3 else if 20<t.edges.length then 3
 else if firstE (nodE t) t.nodes.length≠0 then firstE (nodE t) t.nodes.length else firstE (edgE t) t.edges.length
def tyN (t:Ty):ByteArray :=
 if t.nodes.length=0 then eB else if 12<t.nodes.length then eB else if 20<t.edges.length then eB
 else if firstE (nodE t) t.nodes.length≠0 then firstN (nodE t) (fun i=>(t.nd i).name) t.nodes.length else firstN (edgE t) (fun i=>(t.ed i).name) t.edges.length
theorem nodE_par {t:Ty} {i:Nat} (h:nodE t i=0):(t.nd i).par<i:=by
 unfold nodE at h;split at h
 ·cases h
 ·split at h
  ·cases h
  ·split at h
   ·cases h
   ·omega
theorem firstE_allZ {f:Nat→Int}:∀ n,firstE f n=0→∀ i,i<n→f i=0
 | 0,_,i,hi=>absurd hi (Nat.not_lt_zero _)
 | n+1,h,i,hi=>by
  simp only [firstE] at h;split at h
  ·rename_i h1;by_cases e:i=n
   ·subst e; exact h
   ·exact firstE_allZ n h1 i (by omega)
  ·rename_i h1;exact absurd h h1
def stV4n (t:Ty) (nb:Nat) (box:Bxs) (tok:Tks) (nt:Nat) (i:Nat):AState:=⟨tl [(4,I i),(1,.ptr (nb+1) 0 0)],lb nb box [(1,[[.d (nts t.nodes),.d (ets t.edges)]])],tok,nt⟩
def stV4e (t:Ty) (nb:Nat) (box:Bxs) (tok:Tks) (nt:Nat) (i:Nat):AState:=⟨tl [(6,I i),(1,.ptr (nb+1) 0 0)],lb nb box [(1,[[.d (nts t.nodes),.d (ets t.edges)]])],tok,nt⟩
theorem valid04_c (t:Ty) (ht:t.Fit) (hM:∀ i,(t.nd i).own.length≤1000) (tok:Tks) (nt:Nat):DCall Tryz.prog 94 [t.av] tok nt (.tup [Sb (tyN t),I (tyE t)]) tok nt:=by
 intro box nb;have htn:=ht.n;have hte:=ht.e;obtain ⟨N,hN⟩:∃ N,tyE t=N:=⟨_,rfl⟩
 obtain ⟨Z,hZ⟩:∃ Z,tyN t=Z:=⟨_,rfl⟩
 rw [hN,hZ];unfold tyE at hN;unfold tyN at hZ;by_cases e1:t.nodes.length=0
 ·have e1':t.nodes=[]:=List.length_eq_zero_iff.1 e1
  rw [if_pos e1] at hN hZ;refine sI Tryz.func94 Tryz.ntmps94 fun hbox htok=>?_
  repeat (first|simp [e1']|refine sR ?_|refine sC ?_)
  refine sT (sH hbox htok ?_);simp [packA,←hN,←hZ]
 ·have e1':¬ t.nodes=[]:=fun h=>e1 (by rw [h]; rfl)
  rw [if_neg e1] at hN hZ;by_cases e2:12<t.nodes.length
  ·have e2':(12:Int)<t.nodes.length:=by omega
   rw [if_pos e2] at hN hZ;refine sI Tryz.func94 Tryz.ntmps94 fun hbox htok=>?_
   repeat (first|simp [e1',e2,e2']|refine sR ?_)
   refine sC ?_;simp [e1',e2,e2'];repeat (first|simp [e2,e2']|refine sR ?_|refine sC ?_)
   refine sT (sH hbox htok ?_);simp [packA,←hN,←hZ]
  ·have e2':¬ (12:Int)<t.nodes.length:=by omega
   rw [if_neg e2] at hN hZ;by_cases e3:20<t.edges.length
   ·have e3':(20:Int)<t.edges.length:=by omega
    rw [if_pos e3] at hN hZ;refine sI Tryz.func94 Tryz.ntmps94 fun hbox htok=>?_
    repeat (first|simp [e1',e2,e2',e3,e3']|refine sR ?_)
    refine sC ?_;simp [e1',e2,e2'];repeat (first|simp [e2,e2',e3,e3']|refine sR ?_|refine sC ?_)
    refine sT (sH hbox htok ?_);simp [packA,←hN,←hZ]
   ·have e3':¬ (20:Int)<t.edges.length:=by omega
    rw [if_neg e3] at hN hZ;refine sI Tryz.func94 Tryz.ntmps94 fun hbox htok=>?_
    repeat (first|simp [e1',e2,e2',e3,e3']|refine sR ?_)
    refine sC ?_;simp [e1',e2,e2'];repeat (first|simp [e2,e2',e3,e3']|refine sR ?_|refine sC ?_)
    refine sN ?_;refine AL.loopT (stV4n t nb box tok nt) (fun i=>i≤t.nodes.length∧firstE (nodE t) i=0) (fun i=>t.nodes.length - i) 0 ⟨Nat.zero_le _,rfl⟩ wkA ?_;rintro i S' ⟨hi,hok⟩ hS;simp only [stV4n] at hS;subst hS;have hw:=sW (i:=i) (by omega);repeat (first|simp|refine sR ?_|refine sC ?_)
    refine ⟨fun hlt=>?_,fun hge=>?_⟩
    ·have hc:=node04_c t ht hM i hlt (fun j hj=>nodE_par (firstE_allZ i hok j hj));have hR:nodE t i≠0→firstE (nodE t) t.nodes.length=nodE t i:=fun h0=>firstE_stop hok h0 _ hlt
     have hR2:nodE t i≠0→firstN (nodE t) (fun i=>(t.nd i).name) t.nodes.length=t.nodes[i].name:=fun h0=>by rw [firstN_stop hok h0 _ hlt,nd_at hlt]
     have hnx:nodE t i=0→firstE (nodE t) (i+1)=0:=fun h0=>by simp only [firstE,hok,h0, ↓reduceIte]
     generalize nodE t i=E at *;repeat (first|simp [hlt]|refine sR ?_)
     refine Stop.of_d (hc _ _) ?_;repeat (first|simp|refine sR ?_)
     by_cases e7:E=0
     ·refine sC ?_;simp [e7];repeat (first|simp [hw]|refine sR ?_)
      refine sE ?_;exact ⟨i+1,⟨hlt,hnx e7⟩,by omega,wkA⟩
     ·have b7:(E !=0)=true:=by simp [e7]
      rw [hR e7,if_pos e7] at hN hZ;rw [hR2 e7] at hZ;refine sC ?_;simp [e7,b7];repeat (first|simp [hlt]|refine sR ?_)
      refine sT (sH hbox htok ?_);simp [packA,←hN,←hZ]
    ·refine sX ?_;simp only [AU, ↓reduceIte];have:i=t.nodes.length:=by omega
     subst this;rw [if_neg (by rw [hok]; simp)] at hN hZ;repeat (first|simp|refine sR ?_)
     refine sN ?_;refine AL.loopT (stV4e t nb box tok nt) (fun i=>i≤t.edges.length∧firstE (edgE t) i=0) (fun i=>t.edges.length - i) 0 ⟨Nat.zero_le _,rfl⟩ wkA ?_;rintro i S' ⟨hi,hok2⟩ hS;simp only [stV4e] at hS;subst hS;have hw:=sW (i:=i) (by omega);repeat (first|simp|refine sR ?_|refine sC ?_)
     refine ⟨fun hlt=>?_,fun hge=>?_⟩
     ·have hc:=edge04_c t ht i hlt;have hR:edgE t i≠0→firstE (edgE t) t.edges.length=edgE t i:=fun h0=>firstE_stop hok2 h0 _ hlt
      have hR2:edgE t i≠0→firstN (edgE t) (fun i=>(t.ed i).name) t.edges.length=t.edges[i].name:=fun h0=>by rw [firstN_stop hok2 h0 _ hlt,ed_at hlt]
      have hnx:edgE t i=0→firstE (edgE t) (i+1)=0:=fun h0=>by simp only [firstE,hok2,h0, ↓reduceIte]
      generalize edgE t i=E at *;repeat (first|simp [hlt]|refine sR ?_)
      refine Stop.of_d (hc _ _) ?_;repeat (first|simp|refine sR ?_)
      by_cases e7:E=0
      ·refine sC ?_;simp [e7];repeat (first|simp [hw]|refine sR ?_)
       refine sE ?_;exact ⟨i+1,⟨hlt,hnx e7⟩,by omega,wkA⟩
      ·have b7:(E !=0)=true:=by simp [e7]
       rw [hR e7] at hN;rw [hR2 e7] at hZ;refine sC ?_;simp [e7,b7];repeat (first|simp [hlt]|refine sR ?_)
       refine sT (sH hbox htok ?_);simp [packA,←hN,←hZ]
     ·refine sX ?_;simp only [AU, ↓reduceIte];have:i=t.edges.length:=by omega
      subst this;rw [hok2] at hN;rw [firstN_none _ hok2] at hZ;repeat (first|simp|refine sR ?_)
      refine sT (sH hbox htok ?_);simp [packA,←hN,←hZ]
def stVn (t:Ty) (nb:Nat) (box:Bxs) (tok:Tks) (nt:Nat) (i:Nat):AState:=⟨tl [(29,I i),(28,I t.nodes.length),(27,.d (nts t.nodes)),(1,.ptr (nb+1) 0 0)],lb nb box [(1,[[.d (nts t.nodes),.d (ets t.edges)]])],tok,nt⟩
def stVe (t:Ty) (nb:Nat) (box:Bxs) (tok:Tks) (nt:Nat) (i:Nat):AState:=⟨tl [(46,I i),(45,I t.edges.length),(44,.d (ets t.edges)),(1,.ptr (nb+1) 0 0)],lb nb box [(1,[[.d (nts t.nodes),.d (ets t.edges)]])],tok,nt⟩
theorem valid_c4 (t:Ty) (ht:t.Fit) (hM:∀ i,(t.nd i).own.length≤1000) (tok:Tks) (nt:Nat):DCall Tryz.prog 88 [t.av] tok nt (.tup [Sb (tyN t),I (tyE t)]) tok nt:=by
 intro box nb;have htn:=ht.n;have hte:=ht.e;obtain ⟨N,hN⟩:∃ N,tyE t=N:=⟨_,rfl⟩
 obtain ⟨Z,hZ⟩:∃ Z,tyN t=Z:=⟨_,rfl⟩
 rw [hN,hZ];unfold tyE at hN;unfold tyN at hZ;by_cases e1:t.nodes.length=0
 ·have e1':t.nodes=[]:=List.length_eq_zero_iff.1 e1
  rw [if_pos e1] at hN hZ;refine sI Tryz.func88 Tryz.ntmps88 fun hbox htok=>?_
  repeat (first|simp [e1']|refine sR ?_|refine sC ?_)
  refine sT (sH hbox htok ?_);simp [packA,←hN,←hZ]
 ·have e1':¬ t.nodes=[]:=fun h=>e1 (by rw [h]; rfl)
  rw [if_neg e1] at hN hZ;by_cases e2:12<t.nodes.length
  ·have e2':(12:Int)<t.nodes.length:=by omega
   rw [if_pos e2] at hN hZ;refine sI Tryz.func88 Tryz.ntmps88 fun hbox htok=>?_
   repeat (first|simp [e1',e2,e2']|refine sR ?_)
   refine sC ?_;simp [e1',e2,e2'];repeat (first|simp [e2,e2']|refine sR ?_|refine sC ?_)
   refine sT (sH hbox htok ?_);simp [packA,←hN,←hZ]
  ·have e2':¬ (12:Int)<t.nodes.length:=by omega
   rw [if_neg e2] at hN hZ;by_cases e3:20<t.edges.length
   ·have e3':(20:Int)<t.edges.length:=by omega
    rw [if_pos e3] at hN hZ;refine sI Tryz.func88 Tryz.ntmps88 fun hbox htok=>?_
    repeat (first|simp [e1',e2,e2',e3,e3']|refine sR ?_)
    refine sC ?_;simp [e1',e2,e2'];repeat (first|simp [e2,e2',e3,e3']|refine sR ?_|refine sC ?_)
    refine sT (sH hbox htok ?_);simp [packA,←hN,←hZ]
   ·have e3':¬ (20:Int)<t.edges.length:=by omega
    rw [if_neg e3] at hN hZ;refine sI Tryz.func88 Tryz.ntmps88 fun hbox htok=>?_
    repeat (first|simp [e1',e2,e2',e3,e3']|refine sR ?_)
    refine sC ?_;simp [e1',e2,e2'];repeat (first|simp [e2,e2',e3,e3']|refine sR ?_|refine sC ?_)
    refine sN ?_;refine AL.loopT (stVn t nb box tok nt) (fun i=>i≤t.nodes.length∧firstE (nodE t) i=0) (fun i=>t.nodes.length - i) 0 ⟨Nat.zero_le _,rfl⟩ wkA ?_;rintro i S' ⟨hi,hok⟩ hS;simp only [stVn] at hS;subst hS;have hw:=sW (i:=i) (by omega);repeat (first|simp|refine sR ?_|refine sC ?_)
    refine ⟨fun hlt=>?_,fun hge=>?_⟩
    ·have hc:=node_c t ht hM i hlt (fun j hj=>nodE_par (firstE_allZ i hok j hj));have hR:nodE t i≠0→firstE (nodE t) t.nodes.length=nodE t i:=fun h0=>firstE_stop hok h0 _ hlt
     have hR2:nodE t i≠0→firstN (nodE t) (fun i=>(t.nd i).name) t.nodes.length=t.nodes[i].name:=fun h0=>by rw [firstN_stop hok h0 _ hlt,nd_at hlt]
     have hnx:nodE t i=0→firstE (nodE t) (i+1)=0:=fun h0=>by simp only [firstE,hok,h0, ↓reduceIte]
     generalize nodE t i=E at *;repeat (first|simp [hlt]|refine sR ?_)
     refine Stop.of_d (hc _ _) ?_;repeat (first|simp|refine sR ?_)
     by_cases e7:E=0
     ·refine sC ?_;simp [e7];repeat (first|simp [hw]|refine sR ?_)
      refine sE ?_;exact ⟨i+1,⟨hlt,hnx e7⟩,by omega,wkA⟩
     ·have b7:(E !=0)=true:=by simp [e7]
      rw [hR e7,if_pos e7] at hN hZ;rw [hR2 e7] at hZ;refine sC ?_;simp [e7,b7];repeat (first|simp [hlt]|refine sR ?_)
      refine sT (sH hbox htok ?_);simp [packA,←hN,←hZ]
    ·refine sX ?_;simp only [AU, ↓reduceIte];have:i=t.nodes.length:=by omega
     subst this;rw [if_neg (by rw [hok]; simp)] at hN hZ;repeat (first|simp|refine sR ?_)
     refine sN ?_;refine AL.loopT (stVe t nb box tok nt) (fun i=>i≤t.edges.length∧firstE (edgE t) i=0) (fun i=>t.edges.length - i) 0 ⟨Nat.zero_le _,rfl⟩ wkA ?_;rintro i S' ⟨hi,hok2⟩ hS;simp only [stVe] at hS;subst hS;have hw:=sW (i:=i) (by omega);repeat (first|simp|refine sR ?_|refine sC ?_)
     refine ⟨fun hlt=>?_,fun hge=>?_⟩
     ·have hc:=edge_c t ht i hlt;have hR:edgE t i≠0→firstE (edgE t) t.edges.length=edgE t i:=fun h0=>firstE_stop hok2 h0 _ hlt
      have hR2:edgE t i≠0→firstN (edgE t) (fun i=>(t.ed i).name) t.edges.length=t.edges[i].name:=fun h0=>by rw [firstN_stop hok2 h0 _ hlt,ed_at hlt]
      have hnx:edgE t i=0→firstE (edgE t) (i+1)=0:=fun h0=>by simp only [firstE,hok2,h0, ↓reduceIte]
      generalize edgE t i=E at *;repeat (first|simp [hlt]|refine sR ?_)
      refine Stop.of_d (hc _ _) ?_;repeat (first|simp|refine sR ?_)
      by_cases e7:E=0
      ·refine sC ?_;simp [e7];repeat (first|simp [hw]|refine sR ?_)
       refine sE ?_;exact ⟨i+1,⟨hlt,hnx e7⟩,by omega,wkA⟩
      ·have b7:(E !=0)=true:=by simp [e7]
       rw [hR e7] at hN;rw [hR2 e7] at hZ;refine sC ?_;simp [e7,b7];repeat (first|simp [hlt]|refine sR ?_)
       refine sT (sH hbox htok ?_);simp [packA,←hN,←hZ]
     ·refine sX ?_;simp only [AU, ↓reduceIte];have:i=t.edges.length:=by omega
      subst this;rw [hok2] at hN;rw [firstN_none _ hok2] at hZ;repeat (first|simp|refine sR ?_)
      refine sT (sH hbox htok ?_);simp [packA,←hN,←hZ]
structure Ru where
 name:ByteArray
 lg:Gr
 lsl:List Sl
 lv:Int
 lte:List Te
 rg:Gr
 rsl:List Sl
 rv:Int
 rte:List Te
 k:Mo
 i:Mo
 inj:Bool
 c:Cd
abbrev Ru.row (r:Ru):List AV:=[.d (.raw (.string r.name)),.d (ints r.lg.nodes),.d (AM.edges r.lg.edges),.d (slots r.lsl),I r.lv,.d (tests r.lte),.d (ints r.rg.nodes),.d (AM.edges r.rg.edges),.d (slots r.rsl),I r.rv,.d (tests r.rte),
 .d (ints r.k.nodes),.d (ints r.k.edges),.d (ints r.i.nodes),.d (ints r.i.edges),B r.inj,I r.c.kind,.d (conds r.c.kids),.d (ints r.c.m.nodes),.d (ints r.c.m.edges),.d (ints r.c.g.nodes),.d (AM.edges r.c.g.edges),.d (slots r.c.sl),I r.c.vars,.d (tests r.c.te)]
abbrev Ru.av (r:Ru):AV:=.agg r.row
structure Ru.Fit (r:Ru):Prop where
 lg:r.lg.Fit
 rg:r.rg.Fit
 k:r.k.Fit
 i:r.i.Fit
 ls:r.lsl.length≤bigN
 lt:r.lte.length≤bigN
 rs:r.rsl.length≤bigN
 rt:r.rte.length≤bigN
abbrev spAv (s:Sp):AV:=.agg [.d (ints s.l.nodes),.d (AM.edges s.l.edges),.d (ints s.r.nodes),.d (AM.edges s.r.edges),.d (ints s.k.nodes),.d (ints s.k.edges),.d (ints s.i.nodes),.d (ints s.i.edges)]
def Ru.sp (r:Ru):Sp:=⟨r.lg,r.rg,r.k,r.i⟩
def Ru.plainL (r:Ru):Prop:=r.lsl.length+r.lte.length=0∧r.lv=0
def Ru.plainR (r:Ru):Prop:=r.rsl.length+r.rte.length=0∧r.rv=0
instance (r:Ru):Decidable r.plainL:=inferInstanceAs (Decidable (_∧_))
instance (r:Ru):Decidable r.plainR:=inferInstanceAs (Decidable (_∧_))
def strR (r:Ru):Int :=
 if validG r.lg≠0 then validG r.lg else if validG r.rg≠0 then validG r.rg else if validP r.lg r.k≠0 then validP r.lg r.k
 else if validM (exG r.lg r.k) r.rg r.i≠0 then validM (exG r.lg r.k) r.rg r.i else if injM (exG r.lg r.k) r.rg r.i=false then 11
 else if r.plainL∧r.plainR∧r.inj=true then 0 else 8
theorem strR_zero {r:Ru} (h:strR r=0):SpOk r.sp∧validG r.lg=0∧validG r.rg=0:=by
 unfold strR at h;split at h
 ·contradiction
 ·split at h
  ·contradiction
  ·split at h
   ·contradiction
   ·split at h
    ·contradiction
    ·split at h
     ·cases h
     ·rename_i h1 h2 h3 h4 h5;exact ⟨⟨VP.of (Decidable.not_not.1 h3),Emb.of (show injM (exG r.lg r.k) r.rg r.i=true by simpa using h5)⟩,Decidable.not_not.1 h1,Decidable.not_not.1 h2⟩
theorem mem_indexI {l m:List Int} (h:∀ x∈l,x∈m):∀ i (hi:i<l.length),0≤indexI m l[i]∧indexI m l[i]<m.length:=fun i hi=>by
 have:=indexI_in (h _ (List.getElem_mem hi))
 exact ⟨this.1,this.2.1⟩
def mapK (f:Int→Int) (l:List Int) (i:Nat):List Int:=(l.take i).map f
theorem mapK_zero (f:Int→Int) (l:List Int):mapK f l 0=[]:=rfl
theorem mapK_succ (f:Int→Int) (l:List Int) {i:Nat} (h:i<l.length):mapK f l (i+1)=mapK f l i++[f l[i]]:=by
 unfold mapK;rw [←List.take_append_getElem h,List.map_append]; rfl
theorem mapK_all (f:Int→Int) (l:List Int):mapK f l l.length=l.map f:=by simp [mapK]
theorem mapK_len (f:Int→Int) (l:List Int) (i:Nat):(mapK f l i).length≤i:=by simp [mapK]; omega
def goneK (images keep:List Int) (i:Nat):List Int:=((List.range i).filter fun (i:Nat)=>decide ((i:Int)∉keep)).map fun (i:Nat)=>images.getD i 0
theorem goneK_zero (images keep:List Int):goneK images keep 0=[]:=rfl
theorem goneK_succ (images keep:List Int) (i:Nat):goneK images keep (i+1)=if (i:Int)∈keep then goneK images keep i else goneK images keep i++[images.getD i 0]:=by
 unfold goneK;rw [List.range_succ,List.filter_append,List.map_append];by_cases h:(i:Int)∈keep
 ·simp [h]
 ·simp [h]
theorem goneK_len (images keep:List Int) (i:Nat):(goneK images keep i).length≤i:=by
 unfold goneK;rw [List.length_map];have:=List.length_filter_le (fun (i:Nat)=>decide ((i:Int)∉keep)) (List.range i)
 simpa using this
def stGo12 (images keep:List Int) (nb:Nat) (box:Bxs) (x:Acc):AState:=⟨tl [(0,.d (ints images)),(1,.d (ints keep)),(5,.osl 1 (rI (goneK images keep x.i)) x.own),(6,I x.i)],lb nb box [],x.tok,x.nt⟩
theorem gone12_c (images keep:List Int) (h1:images.length≤1000000) (h2:keep.length≤1000000) (tok:Tks) (nt:Nat):DCall Tryz.prog 136 [.d (ints images),.d (ints keep)] tok nt (.d (ints (goneI images keep))) tok nt:=by
 intro box nb;have hh:=fun v=>has12_c keep v h2
 refine sI Tryz.func136 Tryz.ntmps136 fun hbox htok=>?_
 repeat (first|simp|refine sR ?_)
 refine sN ?_;refine AL.loopT (stGo12 images keep nb box) (fun x=>x.i≤images.length∧TK tok nt x.tok x.nt [x.own]) (fun x=>images.length - x.i) ⟨0,.full,tok,nt⟩ ⟨Nat.zero_le _,(TK.start htok).full⟩ (Weaks.mk (Nat.le_refl _) rfl (by simp [ToL,lk,goneK_zero]) trivial) ?_;rintro ⟨i,own,tok',nt'⟩ S ⟨hi,htk⟩ hS;simp only [stGo12] at hS hi htk;subst hS;have hw:=sW (i:=i) (by omega);have hsc:=goneK_succ images keep i;have hlen:=goneK_len images keep i;repeat (first|simp|refine sR ?_|refine sC ?_)
 refine ⟨fun hlt=>?_,fun hge=>?_⟩
 ·have hg:images.getD i 0=images[i]:=by simp [hlt]
  rw [hg] at hsc;repeat (first|simp|refine sR ?_)
  refine Stop.of_d (hh _ _ _) ?_;simp;by_cases hm:(i:Int)∈keep
  ·rw [if_pos hm] at hsc;simp only [hm];repeat (first|simp [hw]|refine sR ?_|refine sC ?_)
   refine sE ?_;exact ⟨⟨i+1,own,tok',nt'⟩,⟨hlt,htk⟩,by simp only; omega,Weaks.mk htk.le rfl (by simp [ToL,lk,hsc]) trivial⟩
  ·rw [if_neg hm] at hsc;simp only [hm];repeat (first|simp [hlt]|refine sR ?_|refine sC ?_)
   refine ⟨⟨by omega,htk.live⟩,?_⟩;repeat (first|simp [hw]|refine sR ?_)
   refine sE ?_;exact ⟨⟨i+1,_,_,_⟩,⟨hlt,htk.app⟩,by simp only; omega,Weaks.mk htk.app.le rfl (by simp [ToL,lk,hsc]) trivial⟩
 ·refine sX ?_;simp only [AU, ↓reduceIte];have:i=images.length:=by omega
  subst this;repeat (first|simp|refine sR ?_)
  have e:goneI images keep=goneK images keep images.length:=rfl
  refine sT (sG hbox htok htk.old htk.le ?_);simp [packA,e]
def restX (n:Nat) (l:List Int):List Int:=((List.range n).filter fun (k:Nat)=>decide ((k:Int)∉l)).map fun (k:Nat)=>(k:Int)
theorem restX_succ (l:List Int) (i:Nat):restX (i+1) l=if (i:Int)∈l then restX i l else restX i l++[(i:Int)]:=by
 unfold restX;rw [List.range_succ,List.filter_append,List.map_append];by_cases h:(i:Int)∈l
 ·simp [h]
 ·simp [h]
theorem restX_len (n:Nat) (l:List Int):(restX n l).length≤n:=by
 unfold restX;rw [List.length_map];have:=List.length_filter_le (fun (k:Nat)=>decide ((k:Int)∉l)) (List.range n)
 simpa using this
theorem restX_zero (l:List Int):restX 0 l=[]:=rfl
def stRe12 (n:Nat) (l:List Int) (nb:Nat) (box:Bxs) (x:Acc):AState:=⟨tl [(0,I n),(1,.d (ints l)),(5,.osl 1 (rI (restX x.i l)) x.own),(6,I x.i)],lb nb box [],x.tok,x.nt⟩
theorem rest12_c (n:Nat) (l:List Int) (h1:n≤1000000) (h2:l.length≤1000000) (tok:Tks) (nt:Nat):DCall Tryz.prog 135 [I n,.d (ints l)] tok nt (.d (ints (restX n l))) tok nt:=by
 intro box nb;have hh:=fun v=>has12_c l v h2
 refine sI Tryz.func135 Tryz.ntmps135 fun hbox htok=>?_
 repeat (first|simp|refine sR ?_)
 refine sN ?_;refine AL.loopT (stRe12 n l nb box) (fun x=>x.i≤n∧TK tok nt x.tok x.nt [x.own]) (fun x=>n - x.i) ⟨0,.full,tok,nt⟩ ⟨Nat.zero_le _,(TK.start htok).full⟩ (Weaks.mk (Nat.le_refl _) rfl (by simp [ToL,lk,restX_zero]) trivial) ?_;rintro ⟨i,own,tok',nt'⟩ S ⟨hi,htk⟩ hS;simp only [stRe12] at hS hi htk;subst hS;have hw:=sW (i:=i) (by omega);have hsc:=restX_succ l i;have hlen:=restX_len i l;repeat (first|simp|refine sR ?_|refine sC ?_)
 refine ⟨fun hlt=>?_,fun hge=>?_⟩
 ·repeat (first|simp|refine sR ?_)
  refine Stop.of_d (hh _ _ _) ?_;simp;by_cases hm:(i:Int)∈l
  ·rw [if_pos hm] at hsc;simp only [hm];repeat (first|simp [hw]|refine sR ?_|refine sC ?_)
   refine sE ?_;exact ⟨⟨i+1,own,tok',nt'⟩,⟨hlt,htk⟩,by simp only; omega,Weaks.mk htk.le rfl (by simp [ToL,lk,hsc]) trivial⟩
  ·rw [if_neg hm] at hsc;simp only [hm];repeat (first|simp|refine sR ?_)
   refine sC ?_;repeat (first|simp|refine sR ?_)
   refine ⟨⟨by omega,htk.live⟩,?_⟩;repeat (first|simp [hw]|refine sR ?_)
   refine sE ?_;exact ⟨⟨i+1,_,_,_⟩,⟨hlt,htk.app⟩,by simp only; omega,Weaks.mk htk.app.le rfl (by simp [ToL,lk,hsc]) trivial⟩
 ·refine sX ?_;simp only [AU, ↓reduceIte];have:i=n:=by omega
  subst this;repeat (first|simp|refine sR ?_)
  refine sT (sG hbox htok htk.old htk.le ?_);simp [packA, ]
def dangP (g:Gr) (keep m:Mo) (i:Nat):Bool:=decide ((i:Int)∉m.edges∧((g.edges.getD i default).fr∈goneI m.nodes keep.nodes∨(g.edges.getD i default).to∈goneI m.nodes keep.nodes))
def dangI (g:Gr) (keep m:Mo) (n:Nat):List Int:=((List.range n).filter (dangP g keep m)).map fun (k:Nat)=>(k:Int)
theorem dangI_succ (g:Gr) (keep m:Mo) (i:Nat):dangI g keep m (i+1)=if dangP g keep m i=true then dangI g keep m i++[(i:Int)] else dangI g keep m i:=by
 unfold dangI;rw [List.range_succ,List.filter_append,List.map_append];by_cases h:dangP g keep m i=true
 ·simp [h]
 ·simp [h]
theorem dangI_len (g:Gr) (keep m:Mo) (n:Nat):(dangI g keep m n).length≤n:=by
 unfold dangI;rw [List.length_map];have:=List.length_filter_le (dangP g keep m) (List.range n)
 simpa using this
theorem dangI_any (g:Gr) (keep m:Mo):decide (0<(dangI g keep m g.edges.length).length)=dangL g keep m:=by
 rw [Bool.eq_iff_iff,decide_eq_true_eq,dangL,List.any_eq_true,dangI,List.length_map,List.length_pos_iff_exists_mem];constructor
 ·rintro ⟨k,hk⟩; have:=List.mem_filter.1 hk; exact ⟨k,this.1,this.2⟩
 ·rintro ⟨k,h1,h2⟩; exact ⟨k,List.mem_filter.2 ⟨h1,h2⟩⟩
theorem dangI_zero (g:Gr) (keep m:Mo):dangI g keep m 0=[]:=rfl
def stDa12 (g:Gr) (keep m:Mo) (nb:Nat) (box:Bxs) (x:Acc):AState :=
 ⟨tl [(11,I x.i),(10,.d (ints (goneI m.nodes keep.nodes))),(9,.osl 1 (rI (dangI g keep m x.i)) x.own),(7,.ptr (nb+7) 0 0),(5,.ptr (nb+5) 0 0)],lb nb box [(7,[[.d (ints m.nodes),.d (ints m.edges)]]),(5,[[.d (ints g.nodes),.d (AM.edges g.edges)]])],x.tok,x.nt⟩
theorem dangling12_c (l g:Gr) (keep m:Mo) (hg:g.Fit) (hm:m.Fit) (hk:keep.Fit) (tok:Tks) (nt:Nat):DCall Tryz.prog 134 [l.av,g.av,keep.av,m.av] tok nt (.d (ints (dangI g keep m g.edges.length))) tok nt:=by
 intro box nb;have hh:=fun v=>has12_c m.edges v hm.e
 have hgo:=gone12_c m.nodes keep.nodes hm.n hk.n;have hh2:=fun v=>has12_c (goneI m.nodes keep.nodes) v (by have:=goneK_len m.nodes keep.nodes m.nodes.length; have:=hm.n; unfold goneI; unfold goneK at *; omega)
 refine sI Tryz.func134 Tryz.ntmps134 fun hbox htok=>?_
 repeat (first|simp|refine sR ?_)
 refine Stop.of_d (hgo _ _) ?_;repeat (first|simp|refine sR ?_)
 refine sN ?_;have hge:=hg.e;refine AL.loopT (stDa12 g keep m nb box) (fun x=>x.i≤g.edges.length∧TK tok nt x.tok x.nt [x.own]) (fun x=>g.edges.length - x.i) ⟨0,.full,tok,nt⟩ ⟨Nat.zero_le _,(TK.start htok).full⟩ (Weaks.mk (Nat.le_refl _) rfl (by simp [ToL,lk,dangI_zero]) (by simp [BoxL,lk])) ?_;rintro ⟨i,own,tok',nt'⟩ S ⟨hi,htk⟩ hS;simp only [stDa12] at hS hi htk;subst hS;have hw:=sW (i:=i) (by omega);have hsc:=dangI_succ g keep m i;have hlen:=dangI_len g keep m i;repeat (first|simp|refine sR ?_|refine sC ?_)
 refine ⟨fun hlt=>?_,fun hge=>?_⟩
 ·have hg1:g.edges.getD i default=g.edges[i]:=by simp [hlt]
  have hP:dangP g keep m i=(decide ((i:Int)∉m.edges)&&(decide (g.edges[i].fr∈goneI m.nodes keep.nodes)||decide (g.edges[i].to∈goneI m.nodes keep.nodes))):=by unfold dangP; rw [hg1]; simp
  have no:dangP g keep m i=false→dangI g keep m (i+1)=dangI g keep m i:=fun h=>by rw [hsc,if_neg (by simp [h])]
  have yes:dangP g keep m i=true→dangI g keep m (i+1)=dangI g keep m i++[(i:Int)]:=fun h=>by rw [hsc,if_pos h]
  repeat (first|simp|refine sR ?_)
  refine Stop.of_d (hh _ _ _) ?_;simp;by_cases hm:(i:Int)∈m.edges
  ·have no:=no (by rw [hP]; simp [hm]);simp only [hm];repeat (first|simp [hw]|refine sR ?_|refine sC ?_)
   refine sE ?_;exact ⟨⟨i+1,own,tok',nt'⟩,⟨hlt,htk⟩,by simp only; omega,Weaks.mk htk.le rfl (by simp [ToL,lk,no]) (by simp [BoxL,lk])⟩
  ·simp only [hm];repeat (first|simp [hlt]|refine sR ?_)
   refine Stop.of_d (hh2 _ _ _) ?_;simp;by_cases h1:g.edges[i].fr∈goneI m.nodes keep.nodes
   ·have yes:=yes (by rw [hP]; simp [hm,h1]);simp only [h1];repeat (first|simp|refine sR ?_)
    refine sC ?_;repeat (first|simp|refine sR ?_)
    refine ⟨⟨by omega,htk.live⟩,?_⟩;repeat (first|simp [hw]|refine sR ?_)
    refine sE ?_;exact ⟨⟨i+1,_,_,_⟩,⟨hlt,htk.app⟩,by simp only; omega,Weaks.mk htk.app.le rfl (by simp [ToL,lk,yes]) (by simp [BoxL,lk])⟩
   ·simp only [h1];repeat (first|simp [hlt]|refine sR ?_)
    refine Stop.of_d (hh2 _ _ _) ?_;simp;by_cases h2:g.edges[i].to∈goneI m.nodes keep.nodes
    ·have yes:=yes (by rw [hP]; simp [hm,h2]);simp only [h2];repeat (first|simp|refine sR ?_)
     refine sC ?_;repeat (first|simp|refine sR ?_)
     refine ⟨⟨by omega,htk.live⟩,?_⟩;repeat (first|simp [hw]|refine sR ?_)
     refine sE ?_;exact ⟨⟨i+1,_,_,_⟩,⟨hlt,htk.app⟩,by simp only; omega,Weaks.mk htk.app.le rfl (by simp [ToL,lk,yes]) (by simp [BoxL,lk])⟩
    ·have no:=no (by rw [hP]; simp [hm,h1,h2]);simp only [h2];repeat (first|simp [hw]|refine sR ?_|refine sC ?_)
     refine sE ?_;exact ⟨⟨i+1,own,tok',nt'⟩,⟨hlt,htk⟩,by simp only; omega,Weaks.mk htk.le rfl (by simp [ToL,lk,no]) (by simp [BoxL,lk])⟩
 ·refine sX ?_;simp only [AU, ↓reduceIte];have:i=g.edges.length:=by omega
  subst this;repeat (first|simp|refine sR ?_)
  refine sT (sG hbox htok htk.old htk.le ?_);simp [packA, ]
def stId12 (images keep:List Int) (nb:Nat) (box:Bxs) (tok:Tks) (nt:Nat) (i:Nat):AState:=⟨tl [(0,.d (ints images)),(1,.d (ints keep)),(5,.osl 0 [] .full),(6,I i)],lb nb box [],tok,nt⟩
def stId12b (images keep:List Int) (i:Nat) (nb:Nat) (box:Bxs) (tok:Tks) (nt:Nat) (k:Nat):AState:=⟨tl [(0,.d (ints images)),(1,.d (ints keep)),(5,.osl 0 [] .full),(6,I i),(7,I k)],lb nb box [],tok,nt⟩
theorem identified12_c (images keep:List Int) (h1:images.length≤1000000) (h2:keep.length≤1000000) (hn:images.Nodup) (tok:Tks) (nt:Nat):DCall Tryz.prog 133 [.d (ints images),.d (ints keep)] tok nt (.d (.sl 2 [])) tok nt:=by
 intro box nb;refine sI Tryz.func133 Tryz.ntmps133 fun hbox htok=>?_
 repeat (first|simp|refine sR ?_)
 refine sN ?_;refine AL.loopT (stId12 images keep nb box tok nt) (fun i=>i≤images.length) (fun i=>images.length - i) 0 (Nat.zero_le _) (Weaks.mk (Nat.le_refl _) rfl (by simp [ToL,lk]) trivial) ?_;rintro i S hi hS;simp only [stId12] at hS;subst hS;have hw:=sW (i:=i) (by omega);repeat (first|simp|refine sR ?_|refine sC ?_)
 refine ⟨fun hlt=>?_,fun hge=>?_⟩
 ·repeat (first|simp [hw]|refine sR ?_)
  refine sN ?_;refine AL.loopT (stId12b images keep i nb box tok nt) (fun k=>i<k∧k≤images.length) (fun k=>images.length - k) (i+1) ⟨Nat.lt_succ_self _,hlt⟩ (Weaks.mk (Nat.le_refl _) rfl (by simp [ToL,lk]) trivial) ?_;rintro k S ⟨hik,hk⟩ hS;simp only [stId12b] at hS;subst hS;have hwk:=sW (i:=k) (by omega);repeat (first|simp|refine sR ?_|refine sC ?_)
  refine ⟨fun hlk=>?_,fun hge=>?_⟩
  ·have hne:(images[i]==images[k])=false:=by
    have:=List.pairwise_iff_getElem.1 hn i k hlt hlk hik
    simpa using this
   repeat (first|simp [hlt,hlk,hne]|refine sR ?_)
   refine sC ?_;simp;repeat (first|simp [hwk]|refine sR ?_)
   refine sE ?_;exact ⟨k+1,⟨by omega,hlk⟩,by omega,Weaks.mk (Nat.le_refl _) rfl (by simp [ToL,lk]) trivial⟩
  ·refine sX ?_;simp only [AU, ↓reduceIte];repeat (first|simp [hw]|refine sR ?_)
   refine sE ?_;exact ⟨i+1,hlt,by omega,Weaks.mk (Nat.le_refl _) rfl (by simp [ToL,lk]) trivial⟩
 ·refine sX ?_;simp only [AU, ↓reduceIte];repeat (first|simp|refine sR ?_)
  refine sT (sH hbox htok ?_);simp [packA]
theorem given12_c (l g:Gr) (keep m:Mo) (hl:l.Fit) (hg:g.Fit) (hm:m.Fit) (hk:keep.Fit) (tok:Tks) (nt:Nat) :
  DCall Tryz.prog 132 [l.av,g.av,keep.av,m.av] tok nt (I (if validM l g m≠0 then validM l g m else validP l keep)) tok nt:=by
 intro box nb;have h1:=valid53_c l g m hl hg;have h2:=valid07_c l keep hl hk;refine sI Tryz.func132 Tryz.ntmps132 fun hbox htok=>?_
 repeat (first|simp|refine sR ?_)
 refine Stop.of_d (h1 _ _) ?_;repeat (first|simp|refine sR ?_)
 by_cases e1:validM l g m=0
 ·simp only [e1];refine sC ?_;repeat (first|simp|refine sR ?_)
  refine Stop.of_d (h2 _ _) ?_;repeat (first|simp|refine sR ?_)
  refine sT (sH hbox htok ?_);simp [packA,e1]
 ·have b1:(validM l g m !=0)=true:=by simp [e1]
  simp only [b1];refine sC ?_;repeat (first|simp|refine sR ?_)
  refine sT (sH hbox htok ?_);simp [packA,e1]
def cmpR (l g:Gr) (keep m:Mo):Mo × Int:=if dangL g keep m=true then (⟨[],[]⟩,14) else (cmpl g keep m,0)
theorem restX_rest (n:Nat) (images keep:List Int):restX n (goneI images keep)=restI n images keep:=rfl
theorem goneI_len (images keep:List Int):(goneI images keep).length≤images.length:=goneK_len images keep images.length
theorem of12_c (l g:Gr) (keep m:Mo) (hl:l.Fit) (hg:g.Fit) (hm:m.Fit) (hk:keep.Fit) (he:Emb l g m) (hp:VP l keep) (tok:Tks) (nt:Nat) :
  DCall Tryz.prog 73 [l.av,g.av,keep.av,m.av] tok nt (.tup [(cmpR l g keep m).1.av,I (cmpR l g keep m).2]) tok nt:=by
 intro box nb;have h1:=given12_c l g keep m hl hg hm hk;rw [he.v,hp.v] at h1;have i1:=identified12_c m.nodes keep.nodes hm.n hk.n he.n;have i2:=identified12_c m.edges keep.edges hm.e hk.e he.e;have hd:=dangling12_c l g keep m hg hm hk;have hda:=dangI_any g keep m;have hmn:=hm.n;have hme:=hm.e;have hgn:=hg.n;have hge:=hg.e;have g1:=gone12_c m.nodes keep.nodes hm.n hk.n;have g2:=gone12_c m.edges keep.edges hm.e hk.e;have l1:=goneI_len m.nodes keep.nodes;have l2:=goneI_len m.edges keep.edges;have r1:=rest12_c g.nodes.length (goneI m.nodes keep.nodes) (by omega) (by omega);have r2:=rest12_c g.edges.length (goneI m.edges keep.edges) (by omega) (by omega);rw [restX_rest] at r1 r2;refine sI Tryz.func73 Tryz.ntmps73 fun hbox htok=>?_
 repeat (first|simp|refine sR ?_)
 refine Stop.of_d (h1 _ _) ?_;repeat (first|simp|refine sR ?_)
 refine sC ?_;repeat (first|simp|refine sR ?_)
 refine Stop.of_d (i1 _ _) ?_;repeat (first|simp|refine sR ?_)
 have w0:IntKind.i64.wrap 0=0:=rfl
 refine Stop.of_d (i2 _ _) ?_;simp [w0];repeat (first|simp [w0]|refine sR ?_)
 refine sC ?_;repeat (first|simp|refine sR ?_)
 refine Stop.of_d (hd _ _) ?_;repeat (first|simp|refine sR ?_)
 have hcd:cmpl g keep m=⟨restI g.nodes.length m.nodes keep.nodes,restI g.edges.length m.edges keep.edges⟩:=rfl
 rw [hda];cases hx:dangL g keep m
 ·refine sC ?_;repeat (first|simp|refine sR ?_)
  refine Stop.of_d (g1 _ _) ?_;repeat (first|simp|refine sR ?_)
  refine Stop.of_d (r1 _ _) ?_;repeat (first|simp|refine sR ?_)
  refine Stop.of_d (g2 _ _) ?_;repeat (first|simp|refine sR ?_)
  refine Stop.of_d (r2 _ _) ?_;repeat (first|simp|refine sR ?_)
  refine sT (sH hbox htok ?_);simp [packA,cmpR,hx,hcd]
 ·refine sC ?_;repeat (first|simp|refine sR ?_)
  refine sT (sH hbox htok ?_);simp [packA,cmpR,hx,ints]
abbrev glAv (l g:Gr) (keep m:Mo):AV:=.agg [.d (ints l.nodes),.d (AM.edges l.edges),.d (ints g.nodes),.d (AM.edges g.edges),.d (ints keep.nodes),.d (ints keep.edges),.d (ints m.nodes),.d (ints m.edges)]
theorem cgiven_c (l g:Gr) (keep m:Mo) (hl:l.Fit) (hg:g.Fit) (hm:m.Fit) (hk:keep.Fit) (tok:Tks) (nt:Nat) :
  DCall Tryz.prog 293 [glAv l g keep m] tok nt (I (if validM l g m≠0 then validM l g m else validP l keep)) tok nt:=by
 intro box nb;have h1:=valid51_c l g m hl hg;have h2:=validP_c l keep hl hk;refine sI Tryz.func293 Tryz.ntmps293 fun hbox htok=>?_
 repeat (first|simp|refine sR ?_)
 refine Stop.of_d (h1 _ _) ?_;repeat (first|simp|refine sR ?_)
 by_cases e1:validM l g m=0
 ·simp only [e1];refine sC ?_;repeat (first|simp|refine sR ?_)
  refine Stop.of_d (h2 _ _) ?_;repeat (first|simp|refine sR ?_)
  refine sT (sH hbox htok ?_);simp [packA,e1]
 ·have b1:(validM l g m !=0)=true:=by simp [e1]
  simp only [b1];refine sC ?_;repeat (first|simp|refine sR ?_)
  refine sT (sH hbox htok ?_);simp [packA,e1]
def stDe (l g:Gr) (keep m:Mo) (nb:Nat) (box:Bxs) (x:Acc):AState :=
 ⟨tl [(10,I x.i),(9,I m.nodes.length),(8,.d (ints m.nodes)),(3,.osl 1 (rI (goneK m.nodes keep.nodes x.i)) x.own),(1,.ptr (nb+1) 0 0)],lb nb box [(1,[[.d (ints l.nodes),.d (AM.edges l.edges),.d (ints g.nodes),.d (AM.edges g.edges),.d (ints keep.nodes),.d (ints keep.edges),.d (ints m.nodes),.d (ints m.edges)]])],x.tok,x.nt⟩
theorem deleted_c (l g:Gr) (keep m:Mo) (hm:m.Fit) (hk:keep.Fit) (tok:Tks) (nt:Nat):DCall Tryz.prog 323 [glAv l g keep m] tok nt (.d (ints (goneI m.nodes keep.nodes))) tok nt:=by
 intro box nb;have hh:=fun v=>contains_c keep.nodes v hk.n
 refine sI Tryz.func323 Tryz.ntmps323 fun hbox htok=>?_
 repeat (first|simp|refine sR ?_)
 refine sN ?_;have hmn:=hm.n;refine AL.loopT (stDe l g keep m nb box) (fun x=>x.i≤m.nodes.length∧TK tok nt x.tok x.nt [x.own]) (fun x=>m.nodes.length - x.i) ⟨0,.full,tok,nt⟩ ⟨Nat.zero_le _,(TK.start htok).full⟩ (Weaks.mk (Nat.le_refl _) rfl (by simp [ToL,lk,goneK_zero]) (by simp [BoxL,lk])) ?_;rintro ⟨i,own,tok',nt'⟩ S ⟨hi,htk⟩ hS;simp only [stDe] at hS hi htk;subst hS;have hw:=sW (i:=i) (by omega);have hsc:=goneK_succ m.nodes keep.nodes i;have hlen:=goneK_len m.nodes keep.nodes i;repeat (first|simp|refine sR ?_|refine sC ?_)
 refine ⟨fun hlt=>?_,fun hge=>?_⟩
 ·have hg:m.nodes.getD i 0=m.nodes[i]:=by simp [hlt]
  rw [hg] at hsc;repeat (first|simp [hlt]|refine sR ?_)
  refine Stop.of_d (hh _ _ _) ?_;simp;by_cases hmm:(i:Int)∈keep.nodes
  ·rw [if_pos hmm] at hsc;simp only [hmm];repeat (first|simp [hw]|refine sR ?_|refine sC ?_)
   refine sE ?_;exact ⟨⟨i+1,own,tok',nt'⟩,⟨hlt,htk⟩,by simp only; omega,Weaks.mk htk.le rfl (by simp [ToL,lk,hsc]) (by simp [BoxL,lk])⟩
  ·rw [if_neg hmm] at hsc;simp only [hmm];repeat (first|simp|refine sR ?_)
   refine sC ?_;repeat (first|simp|refine sR ?_)
   refine ⟨⟨by omega,htk.live⟩,?_⟩;repeat (first|simp [hw]|refine sR ?_)
   refine sE ?_;exact ⟨⟨i+1,_,_,_⟩,⟨hlt,htk.app⟩,by simp only; omega,Weaks.mk htk.app.le rfl (by simp [ToL,lk,hsc]) (by simp [BoxL,lk])⟩
 ·refine sX ?_;simp only [AU, ↓reduceIte];have:i=m.nodes.length:=by omega
  subst this;repeat (first|simp|refine sR ?_)
  have e:goneI m.nodes keep.nodes=goneK m.nodes keep.nodes m.nodes.length:=rfl
  refine sT (sG hbox htok htk.old htk.le ?_);simp [packA,e]
def stCp (images keep:List Int) (nb:Nat) (box:Bxs) (tok:Tks) (nt:Nat) (i:Nat):AState:=⟨tl [(10,I i),(9,I images.length),(8,.d (ints images)),(0,.d (ints images)),(1,.d (ints keep)),(5,.osl 0 [] .full)],lb nb box [],tok,nt⟩
def stCpb (images keep:List Int) (i:Nat) (nb:Nat) (box:Bxs) (tok:Tks) (nt:Nat) (k:Nat):AState:=⟨tl [(10,I i),(9,I images.length),(8,.d (ints images)),(0,.d (ints images)),(1,.d (ints keep)),(5,.osl 0 [] .full),(6,I i),(7,I k)],lb nb box [],tok,nt⟩
theorem cpairs_c (images keep:List Int) (h1:images.length≤1000000) (h2:keep.length≤1000000) (hn:images.Nodup) (tok:Tks) (nt:Nat):DCall Tryz.prog 322 [.d (ints images),.d (ints keep)] tok nt (.d (.sl 2 [])) tok nt:=by
 intro box nb;refine sI Tryz.func322 Tryz.ntmps322 fun hbox htok=>?_
 repeat (first|simp|refine sR ?_)
 refine sN ?_;refine AL.loopT (stCp images keep nb box tok nt) (fun i=>i≤images.length) (fun i=>images.length - i) 0 (Nat.zero_le _) (Weaks.mk (Nat.le_refl _) rfl (by simp [ToL,lk]) trivial) ?_;rintro i S hi hS;simp only [stCp] at hS;subst hS;have hw:=sW (i:=i) (by omega);repeat (first|simp|refine sR ?_|refine sC ?_)
 refine ⟨fun hlt=>?_,fun hge=>?_⟩
 ·repeat (first|simp [hw]|refine sR ?_)
  refine sN ?_;refine AL.loopT (stCpb images keep i nb box tok nt) (fun k=>i<k∧k≤images.length) (fun k=>images.length - k) (i+1) ⟨Nat.lt_succ_self _,hlt⟩ (Weaks.mk (Nat.le_refl _) rfl (by simp [ToL,lk]) trivial) ?_;rintro k S ⟨hik,hk⟩ hS;simp only [stCpb] at hS;subst hS;have hwk:=sW (i:=k) (by omega);repeat (first|simp|refine sR ?_|refine sC ?_)
  refine ⟨fun hlk=>?_,fun hge=>?_⟩
  ·have hne:(images[i]==images[k])=false:=by
    have:=List.pairwise_iff_getElem.1 hn i k hlt hlk hik
    simpa using this
   repeat (first|simp [hlt,hlk,hne]|refine sR ?_)
   refine sC ?_;simp;repeat (first|simp [hwk]|refine sR ?_)
   refine sE ?_;exact ⟨k+1,⟨by omega,hlk⟩,by omega,Weaks.mk (Nat.le_refl _) rfl (by simp [ToL,lk]) trivial⟩
  ·refine sX ?_;simp only [AU, ↓reduceIte];repeat (first|simp [hw]|refine sR ?_)
   refine sE ?_;exact ⟨i+1,hlt,by omega,Weaks.mk (Nat.le_refl _) rfl (by simp [ToL,lk]) trivial⟩
 ·refine sX ?_;simp only [AU, ↓reduceIte];repeat (first|simp|refine sR ?_)
  refine sT (sH hbox htok ?_);simp [packA]
def stCd (l g:Gr) (keep m:Mo) (nb:Nat) (box:Bxs) (x:Acc):AState :=
 ⟨tl [(13,I x.i),(12,I g.edges.length),(11,.d (AM.edges g.edges)),(4,.osl 1 (rI (dangI g keep m x.i)) x.own),(3,.d (ints (goneI m.nodes keep.nodes))),(1,.ptr (nb+1) 0 0)],lb nb box [(1,[[.d (ints l.nodes),.d (AM.edges l.edges),.d (ints g.nodes),.d (AM.edges g.edges),.d (ints keep.nodes),.d (ints keep.edges),.d (ints m.nodes),.d (ints m.edges)]])],x.tok,x.nt⟩
theorem cdangling_c (l g:Gr) (keep m:Mo) (hg:g.Fit) (hm:m.Fit) (hk:keep.Fit) (tok:Tks) (nt:Nat):DCall Tryz.prog 295 [glAv l g keep m] tok nt (.d (ints (dangI g keep m g.edges.length))) tok nt:=by
 intro box nb;have hh:=fun v=>contains_c m.edges v hm.e
 have hgo:=deleted_c l g keep m hm hk;have hh2:=fun v=>contains_c (goneI m.nodes keep.nodes) v (by have:=goneI_len m.nodes keep.nodes; have:=hm.n; omega)
 refine sI Tryz.func295 Tryz.ntmps295 fun hbox htok=>?_
 repeat (first|simp|refine sR ?_)
 refine Stop.of_d (hgo _ _) ?_;repeat (first|simp|refine sR ?_)
 refine sN ?_;have hge:=hg.e;refine AL.loopT (stCd l g keep m nb box) (fun x=>x.i≤g.edges.length∧TK tok nt x.tok x.nt [x.own]) (fun x=>g.edges.length - x.i) ⟨0,.full,tok,nt⟩ ⟨Nat.zero_le _,(TK.start htok).full⟩ (Weaks.mk (Nat.le_refl _) rfl (by simp [ToL,lk,dangI_zero]) (by simp [BoxL,lk])) ?_;rintro ⟨i,own,tok',nt'⟩ S ⟨hi,htk⟩ hS;simp only [stCd] at hS hi htk;subst hS;have hw:=sW (i:=i) (by omega);have hsc:=dangI_succ g keep m i;have hlen:=dangI_len g keep m i;repeat (first|simp|refine sR ?_|refine sC ?_)
 refine ⟨fun hlt=>?_,fun hge=>?_⟩
 ·have hg1:g.edges.getD i default=g.edges[i]:=by simp [hlt]
  have hP:dangP g keep m i=(decide ((i:Int)∉m.edges)&&(decide (g.edges[i].fr∈goneI m.nodes keep.nodes)||decide (g.edges[i].to∈goneI m.nodes keep.nodes))):=by unfold dangP; rw [hg1]; simp
  have no:dangP g keep m i=false→dangI g keep m (i+1)=dangI g keep m i:=fun h=>by rw [hsc,if_neg (by simp [h])]
  have yes:dangP g keep m i=true→dangI g keep m (i+1)=dangI g keep m i++[(i:Int)]:=fun h=>by rw [hsc,if_pos h]
  repeat (first|simp [hlt]|refine sR ?_)
  refine Stop.of_d (hh _ _ _) ?_;simp;by_cases hmm:(i:Int)∈m.edges
  ·have no:=no (by rw [hP]; simp [hmm]);simp only [hmm];repeat (first|simp [hw]|refine sR ?_|refine sC ?_)
   refine sE ?_;exact ⟨⟨i+1,own,tok',nt'⟩,⟨hlt,htk⟩,by simp only; omega,Weaks.mk htk.le rfl (by simp [ToL,lk,no]) (by simp [BoxL,lk])⟩
  ·simp only [hmm];repeat (first|simp|refine sR ?_)
   refine Stop.of_d (hh2 _ _ _) ?_;simp;by_cases h1:g.edges[i].fr∈goneI m.nodes keep.nodes
   ·have yes:=yes (by rw [hP]; simp [hmm,h1]);simp only [h1];repeat (first|simp|refine sR ?_)
    refine sC ?_;repeat (first|simp|refine sR ?_)
    refine ⟨⟨by omega,htk.live⟩,?_⟩;repeat (first|simp [hw]|refine sR ?_)
    refine sE ?_;exact ⟨⟨i+1,_,_,_⟩,⟨hlt,htk.app⟩,by simp only; omega,Weaks.mk htk.app.le rfl (by simp [ToL,lk,yes]) (by simp [BoxL,lk])⟩
   ·simp only [h1];repeat (first|simp|refine sR ?_)
    refine Stop.of_d (hh2 _ _ _) ?_;simp;by_cases h2:g.edges[i].to∈goneI m.nodes keep.nodes
    ·have yes:=yes (by rw [hP]; simp [hmm,h2]);simp only [h2];repeat (first|simp|refine sR ?_)
     refine sC ?_;repeat (first|simp|refine sR ?_)
     refine ⟨⟨by omega,htk.live⟩,?_⟩;repeat (first|simp [hw]|refine sR ?_)
     refine sE ?_;exact ⟨⟨i+1,_,_,_⟩,⟨hlt,htk.app⟩,by simp only; omega,Weaks.mk htk.app.le rfl (by simp [ToL,lk,yes]) (by simp [BoxL,lk])⟩
    ·have no:=no (by rw [hP]; simp [hmm,h1,h2]);simp only [h2];repeat (first|simp [hw]|refine sR ?_|refine sC ?_)
     refine sE ?_;exact ⟨⟨i+1,own,tok',nt'⟩,⟨hlt,htk⟩,by simp only; omega,Weaks.mk htk.le rfl (by simp [ToL,lk,no]) (by simp [BoxL,lk])⟩
 ·refine sX ?_;simp only [AU, ↓reduceIte];have:i=g.edges.length:=by omega
  subst this;repeat (first|simp|refine sR ?_)
  refine sT (sG hbox htok htk.old htk.le ?_);simp [packA, ]
def rowsB (bs:List Bool):List (List AV):=bs.map fun b=>[AV.d (.raw (.bool b))]
theorem rowsB_eq (bs:List Bool):rowsB bs=rowsD (bs.map fun b=>[D.raw (.bool b)]):=by simp [rowsB,rowsD]
@[simp] theorem set_rB (bs:List Bool) (i:Nat) (v:Bool):(rowsB bs).set i [AV.d (.raw (.bool v))]=rowsB (bs.set i v):=by simp [rowsB,List.map_set]
@[simp] theorem rowsB_length (bs:List Bool):(rowsB bs).length=bs.length:=by simp [rowsB]
@[simp high] theorem rowsB_get {bs:List Bool} {i:Nat} (h:i<bs.length):(rowsB bs)[i]?=some [AV.d (.raw (.bool bs[i]))]:=by simp [rowsB,h]
@[simp] theorem rowsTo_B {p q:Nat→Prop} {fz:Option (Nat × Nat × List (List D))} (bs:List Bool):RowsTo p q fz (rowsB bs) (rowsB bs):=by rw [rowsB_eq]; simp
def goneB (n:Nat) (images keep:List Int):Nat→List Bool
 | 0=>List.replicate n false
 | i+1=>if (i:Int)∈keep then goneB n images keep i else (goneB n images keep i).set (images.getD i 0).toNat true
theorem goneB_len (n:Nat) (images keep:List Int):∀ i,(goneB n images keep i).length=n
 | 0=>by simp [goneB]
 | i+1=>by
  unfold goneB;split
  ·exact goneB_len n images keep i
  ·rw [List.length_set]; exact goneB_len n images keep i
theorem goneB_get (n:Nat) (images keep:List Int) (hr:∀ x∈images,0≤x∧x<n):∀ i,i≤images.length→∀ k,k<n→(goneB n images keep i).getD k false=decide ((k:Int)∈goneK images keep i)
 | 0,_,k,hk=>by simp [goneB,goneK_zero,hk]
 | i+1,hi,k,hk=>by
  have ih:=goneB_get n images keep hr i (by omega) k hk;have rg:=hr _ (getD_mem (d:=0) (show i<images.length by omega));rw [goneK_succ];unfold goneB;by_cases hm:(i:Int)∈keep
  ·rw [if_pos hm,if_pos hm]; exact ih
  ·rw [if_neg hm,if_neg hm];have hl:=goneB_len n images keep i;by_cases e:(images.getD i 0).toNat=k
   ·rw [e,List.getD_eq_getElem?_getD,List.getElem?_set_self (by omega)];have:(k:Int)=images.getD i 0:=by omega
    simp [this]
   ·rw [List.getD_eq_getElem?_getD,List.getElem?_set_ne e,←List.getD_eq_getElem?_getD,ih];have:¬ (k:Int)=images.getD i 0:=by omega
    rw [decide_eq_decide,List.mem_append,List.mem_singleton];simp only [this,or_false]
def stR1 (n:Nat) (images keep:List Int) (nb:Nat) (box:Bxs) (tok:Tks) (nt:Nat) (i:Nat):AState :=
 ⟨tl [(17,I i),(16,I images.length),(15,.d (ints images)),(7,.msl (nb+14) 0 n 1),(6,.osl 0 [] .full),(0,I n),(2,.d (ints keep))],lb nb box [(14,rowsB (goneB n images keep i))],tok,nt⟩
def stR2 (n:Nat) (images keep:List Int) (nb:Nat) (box:Bxs) (x:Acc):AState :=
 ⟨tl [(32,I x.i),(31,I n),(30,.msl (nb+14) 0 n 1),(10,.osl 1 (rI (restX x.i (goneI images keep))) x.own)],lb nb box [(14,rowsB (goneB n images keep images.length))],x.tok,x.nt⟩
theorem crest_c (n:Nat) (images keep:List Int) (hn:n≤1000000) (h1:images.length≤1000000) (h2:keep.length≤1000000) (hr:∀ x∈images,0≤x∧x<n) (tok:Tks) (nt:Nat) :
  DCall Tryz.prog 296 [I n,.d (ints images),.d (ints keep)] tok nt (.d (ints (restI n images keep))) tok nt:=by
 intro box nb;have hh:=fun v=>contains_c keep v h2
 refine sI Tryz.func296 Tryz.ntmps296 fun hbox htok=>?_
 repeat (first|simp|refine sR ?_)
 refine ⟨by omega,?_⟩;repeat (first|simp|refine sR ?_)
 refine sN ?_;have hrep:List.replicate n [B false]=rowsB (goneB n images keep 0):=by simp [goneB,rowsB]
 refine AL.loopT (stR1 n images keep nb box tok nt) (fun i=>i≤images.length) (fun i=>images.length - i) 0 (Nat.zero_le _) (Weaks.mk (Nat.le_refl _) rfl (by simp [ToL,lk]) (by simp [BoxL,lk,hrep])) ?_;rintro i S hi hS;simp only [stR1] at hS;subst hS;have hw:=sW (i:=i) (by omega);have hgl:=goneB_len n images keep i;repeat (first|simp|refine sR ?_|refine sC ?_)
 refine ⟨fun hlt=>?_,fun hge=>?_⟩
 ·obtain ⟨r1,r2⟩:=hr _ (List.getElem_mem hlt);have r3:images[i].toNat<n:=by omega
  have hg:images.getD i 0=images[i]:=by simp [hlt]
  repeat (first|simp [hlt]|refine sR ?_)
  refine Stop.of_d (hh _ _ _) ?_;simp;by_cases hm:(i:Int)∈keep
  ·have hsc:goneB n images keep (i+1)=goneB n images keep i:=if_pos hm
   simp only [hm];repeat (first|simp [hw]|refine sR ?_|refine sC ?_)
   refine sE ?_;exact ⟨i+1,hlt,by omega,Weaks.mk (Nat.le_refl _) rfl (by simp [ToL,lk]) (by simp [BoxL,lk,hsc])⟩
  ·have hsc:goneB n images keep (i+1)=(goneB n images keep i).set images[i].toNat true:=by rw [←hg]; exact if_neg hm
   simp only [hm];repeat (first|simp [r1,r2,r3,hgl,hw]|refine sR ?_|refine sC ?_)
   refine sE ?_;exact ⟨i+1,hlt,by omega,Weaks.mk (Nat.le_refl _) rfl (by simp [ToL,lk]) (by simp [BoxL,lk,hsc])⟩
 ·refine sX ?_;simp only [AU, ↓reduceIte];have:i=images.length:=by omega
  subst this;repeat (first|simp|refine sR ?_)
  refine sN ?_;refine AL.loopT (stR2 n images keep nb box) (fun x=>x.i≤n∧TK tok nt x.tok x.nt [x.own]) (fun x=>n - x.i) ⟨0,.full,tok,nt⟩ ⟨Nat.zero_le _,(TK.start htok).full⟩ (Weaks.mk (Nat.le_refl _) rfl (by simp [ToL,lk,restX_zero]) (by simp [BoxL,lk])) ?_;rintro ⟨i,own,tok',nt'⟩ S ⟨hi,htk⟩ hS;simp only [stR2] at hS hi htk;subst hS;have hw:=sW (i:=i) (by omega);have hsc:=restX_succ (goneI images keep) i;have hlen:=restX_len i (goneI images keep);have hgt:=goneB_get n images keep hr images.length (Nat.le_refl _) i;repeat (first|simp|refine sR ?_|refine sC ?_)
  refine ⟨fun hlt=>?_,fun hge=>?_⟩
  ·have hgt:=hgt hlt;have hgl':=goneB_len n images keep images.length
   have hgt:(goneB n images keep images.length)[i]'(by omega)=decide ((i:Int)∈goneI images keep):=by
    have h:(goneB n images keep images.length)[i]?=some ((goneB n images keep images.length)[i]'(by omega)):=List.getElem?_eq_getElem (by omega)
    rw [List.getD_eq_getElem?_getD,h] at hgt;exact hgt
   repeat (first|simp [hlt,hgl']|refine sR ?_)
   rw [hgt];by_cases hm:(i:Int)∈goneI images keep
   ·rw [if_pos hm] at hsc;simp only [hm];refine sC ?_;simp;repeat (first|simp [hw]|refine sR ?_)
    refine sE ?_;exact ⟨⟨i+1,own,tok',nt'⟩,⟨hlt,htk⟩,by simp only; omega,Weaks.mk htk.le rfl (by simp [ToL,lk,hsc]) (by simp [BoxL,lk])⟩
   ·rw [if_neg hm] at hsc;simp only [hm];refine sC ?_;repeat (first|simp|refine sR ?_)
    refine ⟨⟨by omega,htk.live⟩,?_⟩;repeat (first|simp [hw]|refine sR ?_)
    refine sE ?_;exact ⟨⟨i+1,_,_,_⟩,⟨hlt,htk.app⟩,by simp only; omega,Weaks.mk htk.app.le rfl (by simp [ToL,lk,hsc]) (by simp [BoxL,lk])⟩
  ·refine sX ?_;simp only [AU, ↓reduceIte];have:i=n:=by omega
   subst this;repeat (first|simp|refine sR ?_)
   refine sT (sG hbox htok htk.old htk.le ?_);simp [packA,restX_rest]
theorem cident_c (l g:Gr) (keep m:Mo) (hm:m.Fit) (hk:keep.Fit) (hn:m.nodes.Nodup) (he:m.edges.Nodup) (tok:Tks) (nt:Nat):DCall Tryz.prog 294 [glAv l g keep m] tok nt (.tup [.d (.sl 2 []),.d (.sl 2 [])]) tok nt:=by
 intro box nb;have i1:=cpairs_c m.nodes keep.nodes hm.n hk.n hn;have i2:=cpairs_c m.edges keep.edges hm.e hk.e he;refine sI Tryz.func294 Tryz.ntmps294 fun hbox htok=>?_
 repeat (first|simp|refine sR ?_)
 refine Stop.of_d (i1 _ _) ?_;repeat (first|simp|refine sR ?_)
 refine Stop.of_d (i2 _ _) ?_;repeat (first|simp|refine sR ?_)
 refine sT (sH hbox htok ?_);simp [packA]
theorem ofP_c (l g:Gr) (keep m:Mo) (hl:l.Fit) (hg:g.Fit) (hm:m.Fit) (hk:keep.Fit) (he:Emb l g m) (hp:VP l keep) (tok:Tks) (nt:Nat) :
  DCall Tryz.prog 264 [l.av,g.av,keep.av,m.av] tok nt (.tup [(cmpR l g keep m).1.av,I (cmpR l g keep m).2]) tok nt:=by
 intro box nb;have h1:=cgiven_c l g keep m hl hg hm hk;rw [he.v,hp.v] at h1;have i1:=cident_c l g keep m hm hk he.n he.e;have hd:=cdangling_c l g keep m hg hm hk;have hda:=dangI_any g keep m;have hgn:=hg.n;have hge:=hg.e;have v:=he.vm;have r1:=crest_c g.nodes.length m.nodes keep.nodes (by omega) hm.n hk.n v.n;have r2:=crest_c g.edges.length m.edges keep.edges (by omega) hm.e hk.e v.e;have w0:IntKind.i64.wrap 0=0:=rfl
 refine sI Tryz.func264 Tryz.ntmps264 fun hbox htok=>?_
 repeat (first|simp|refine sR ?_)
 refine Stop.of_d (h1 _ _) ?_;repeat (first|simp|refine sR ?_)
 refine sC ?_;repeat (first|simp|refine sR ?_)
 refine Stop.of_d (i1 _ _) ?_;simp;repeat (first|simp [w0]|refine sR ?_)
 have hcd:cmpl g keep m=⟨restI g.nodes.length m.nodes keep.nodes,restI g.edges.length m.edges keep.edges⟩:=rfl
 refine sC ?_;repeat (first|simp|refine sR ?_)
 refine Stop.of_d (hd _ _) ?_;repeat (first|simp|refine sR ?_)
 rw [hda];cases hx:dangL g keep m
 ·refine sC ?_;repeat (first|simp|refine sR ?_)
  refine Stop.of_d (r1 _ _) ?_;repeat (first|simp|refine sR ?_)
  refine Stop.of_d (r2 _ _) ?_;repeat (first|simp|refine sR ?_)
  refine sT (sH hbox htok ?_);simp [packA,cmpR,hx,hcd]
 ·refine sC ?_;repeat (first|simp|refine sR ?_)
  refine sT (sH hbox htok ?_);simp [packA,cmpR,hx,ints]
end Go.AM
