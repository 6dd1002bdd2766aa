/-
 Parts of the proof, as merged from many texts: a machine over data, what the functions compute, plain laws.
-/
import Derived.Test.YtainalmfffjnjaaGreatDoorPTV10
set_option linter.unusedSimpArgs false
set_option linter.unusedVariables false
namespace Go.AM
open Go Go.Proofs
def f1 (g:List Bool) (i:Nat):List Int:=(far0 g).take i++List.replicate (g.length - i) 0
theorem far0_len (g:List Bool):(far0 g).length=g.length:=by simp [far0]
theorem f1_zero (g:List Bool):f1 g 0=List.replicate g.length 0:=by simp [f1]
theorem f1_all (g:List Bool):f1 g g.length=far0 g:=by simp [f1]; exact List.take_of_length_le (by rw [far0_len]; exact Nat.le_refl _)
theorem f1_len {g:List Bool} {i:Nat} (h:i≤g.length):(f1 g i).length=g.length:=by simp [f1,far0_len]; omega
theorem f1_set {g:List Bool} {i:Nat} (h:i<g.length) {v:Int} (hv:(if g[i]=true then (0:Int) else -1)=v):(f1 g i).set i v=f1 g (i+1) :=
 take_set (by rw [far0_len]; exact h) (by rw [far0_len]) (by simpa [far0] using hv)
structure ShA where
 i:Nat
 sz:Nat
 own:Own
 tok:Nat→Bool
 nt:Nat
def stShA (m:Mdl) (q:Qn) (g:List Bool) (n:Nat) (nb:Nat) (box:Bxs) (a:ShA):AState :=
 ⟨tl [(19,I n),(20,I a.i),(6,.osl a.sz (rI (trueTo g a.i)) a.own),(5,.ptr (nb+5) 0 0),(3,.ptr (nb+3) 0 0),(2,.ptr (nb+2) 0 0)],lb nb box [(17,rowsI (f1 g a.i)),(5,[[.msl (nb+17) 0 n 1]]),(3,[q.row]),(2,[m.row])],a.tok,a.nt⟩
structure ShB where
 far:List Int
 q:List Int
 t:Nat
 tok:Nat→Bool
 nt:Nat
def stShB (m:Mdl) (qn:Qn) (n:Nat) (nb:Nat) (box:Bxs) (a:ShB):AState :=
 ⟨tl [(6,.que a.t 1 (rI a.q)),(5,.ptr (nb+5) 0 0),(3,.ptr (nb+3) 0 0),(2,.ptr (nb+2) 0 0)],lb nb box [(17,rowsI a.far),(5,[[.msl (nb+17) 0 n 1]]),(3,[qn.row]),(2,[m.row])],a.tok,a.nt⟩
structure ShC where
 j:Nat
 far:List Int
 q:List Int
 t:Nat
 tok:Nat→Bool
 nt:Nat
def stShC (m:Mdl) (qn:Qn) (n:Nat) (k:Int) (r:List Int) (nb:Nat) (box:Bxs) (a:ShC):AState :=
 ⟨tl [(8,I k),(51,.d (ints r)),(52,I r.length),(53,I a.j),(6,.que a.t 1 (rI a.q)),(5,.ptr (nb+5) 0 0),(3,.ptr (nb+3) 0 0),(2,.ptr (nb+2) 0 0)],lb nb box [(17,rowsI a.far),(5,[[.msl (nb+17) 0 n 1]]),(3,[qn.row]),(2,[m.row])],a.tok,a.nt⟩
theorem FarI.tail {n:Nat} {nx:List (List Int)} {far:List Int} {k:Int} {q:List Int} (h:FarI n nx (far,k::q)):FarI n nx (far,q):=⟨h.len,fun x hx=>h.q x (by simp only at hx ⊢; exact List.mem_cons_of_mem _ hx),h.lo,h.hi,h.down⟩
theorem shc_c (far:List Int) (n:Nat) (hn:far.length=n) (a k:Int) (ha:inR n a) (hk:inR n k) (hw:IntKind.i64.wrap (fAt far a - 1)=fAt far a - 1) (k5 k12 k17 nb:Nat) (box:Bxs) (tok:Tks) (nt:Nat) (h5:box k5=some [[.msl k17 0 n 1]]) (h12:box k12=some [[I a]]) (h17:box k17=some (rowsI far)) :
  ACalls Tryz.prog 165 [I k,.ptr k5 0 0,.ptr k12 0 0] ⟨box,nb,tok,nt⟩ fun v m=>v=B (decide (fAt far k=fAt far a - 1))∧m=⟨box,nb,tok,nt⟩:=by
 obtain ⟨h1,h2⟩:=hk;obtain ⟨h3,h4⟩:=ha;have h6:k.toNat<far.length:=by omega
 have h7:a.toNat<far.length:=by omega
 have hg1:fAt far k=far[k.toNat]:=by simp [fAt,h6]
 have hg2:fAt far a=far[a.toNat]:=by simp [fAt,h7]
 rw [hg2] at hw;rw [hg1,hg2];have hbd:(far[k.toNat]==far[a.toNat] - 1)=decide (far[k.toNat]=far[a.toNat] - 1):=by rw [Bool.eq_iff_iff]; simp
 refine sI Tryz.func165 Tryz.ntmps165 fun hbox htok=>?_
 have hkn5:=key_lt hbox h5;have hkn12:=key_lt hbox h12;have hkn17:=key_lt hbox h17;repeat (first|simp|refine sR ?_)
 repeat (first|simp [lb_out hkn5,lb_out hkn12,lb_out hkn17,h5,h12,h17,h1,h2,h3,h4,h6,h7,hw]|refine sR ?_)
 refine sT (sH hbox htok ?_);simp [packA,hbd]
structure ShD where
 a:Int
 path:List Int
 own:Own
 tok:Nat→Bool
 nt:Nat
def stShD (m:Mdl) (far:List Int) (n:Nat) (nb:Nat) (box:Bxs) (x:ShD):AState :=
 ⟨tl [(12,.ptr (nb+12) 0 0),(11,.osl 1 (rI x.path) x.own),(5,.ptr (nb+5) 0 0),(2,.ptr (nb+2) 0 0)],lb nb box [(12,[[I x.a]]),(17,rowsI far),(5,[[.msl (nb+17) 0 n 1]]),(2,[m.row])],x.tok,x.nt⟩
theorem pth_step {m:Mdl} {n:Nat} (hm:m.Ok n) {far q:List Int} (hI:FarI n m.next (far,q)) {a:Int} (ha:inR n a) (h0:0<fAt far a) :
  ∃ k:Nat,∃ h1:a.toNat<m.next.length,∃ h2:k<m.next[a.toNat].length,findI (fun i=>decide (fAt far i=fAt far a - 1)) m.next[a.toNat]=(k:Int)∧pthS m.next far a=m.next[a.toNat][k]∧inR n m.next[a.toNat][k]∧fAt far m.next[a.toNat][k]=fAt far a - 1:=by
 obtain ⟨e1,e2⟩:=ha;have h1:a.toNat<m.next.length:=by rw [hm.next]; omega
 have hg:m.next.getD a.toNat []=m.next[a.toNat]:=by simp [h1]
 obtain ⟨j,hj1,hj2,hj3⟩:=hI.down a ⟨e1,e2⟩ h0;rw [hg] at hj1;simp only at hj3;obtain ⟨k,hk,hf,hp⟩:=findI_at (fun i:Int=>decide (fAt far i=fAt far a - 1)) m.next[a.toNat] ⟨j,hj1,by simpa using hj3⟩;refine ⟨k,h1,hk,hf,?_,hm.nextR _ (List.getElem_mem h1) _ (List.getElem_mem hk),by simpa using hp⟩;unfold pthS;rw [hg,hf];simp [hk]
set_option maxRecDepth 100000 in
theorem shortestT_c (m:Mdl) (n:Nat) (hm:m.Ok n) (thr g:List Bool) (ht:thr.length=n) (hg:g.length=n) (e v:Bool) (hcv:∀ k,inR n k→∀ i∈m.prev.getD k.toNat [],k∈m.next.getD i.toNat []) (tok:Tks) (nt:Nat):DCall Tryz.prog 95 [m.av,(Qn.mk thr (some g) e v).av] tok nt (pathA (shortR m thr g)) tok nt:=by
 intro box nb;have hle:=hm.le;have hpos:=hm.pos;have hnl:=hm.next;obtain ⟨Res,hRes⟩:∃ Res,shortR m thr g=Res:=⟨_,rfl⟩
 rw [hRes];unfold shortR at hRes;obtain ⟨Far,hFar⟩:∃ Far,farR m thr g=Far:=⟨_,rfl⟩
 rw [hFar] at hRes;unfold farR at hFar;refine sI Tryz.func95 Tryz.ntmps95 fun hbox htok=>?_
 repeat (first|simp|refine sR ?_)
 refine ⟨by omega,?_⟩;repeat (first|simp|refine sR ?_)
 refine sN ?_;refine AL.loopT (stShA m ⟨thr,some g,e,v⟩ g n nb box) (fun a=>a.i≤g.length∧TK tok nt a.tok a.nt [a.own]∧((a.sz=1∧∃ t,a.own=.tok t)∨trueTo g a.i=[]∧a.own=.full)) (fun a=>g.length - a.i) ⟨0,0,.full,tok,nt⟩ ⟨Nat.zero_le _,(TK.start htok).full,.inr ⟨by simp [trueTo],rfl⟩⟩ (Weaks.mk (Nat.le_refl _) rfl (by simp [ToL,lk,trueTo,hnl]) (by simp [BoxL,lk,f1_zero,hnl,hg])) ?_;rintro ⟨i,sz,own,tok3,nt3⟩ S ⟨hi,htk,hsz⟩ hS;simp only [stShA] at hS hi htk hsz;subst hS;have hw:=sW (i:=i) (by omega);repeat (first|simp|refine sR ?_|refine sC ?_)
 refine ⟨fun hlt=>?_,fun hge=>?_⟩
 ·have hts:=trueTo_succ (g:=g) (i:=i) (by omega);have htl:=trueTo_len g i;have hi1:i<g.length:=by omega
  have hi2:i<(f1 g i).length:=by rw [f1_len hi]; exact hi1
  have hi3:i<((f1 g i).set i (-1)).length:=by simpa using hi2
  have hset:=fun v=>f1_set (v:=v) hi1
  cases e1:g[i]
  ·rw [e1] at hts hset;simp only [Bool.false_eq_true, ↓reduceIte] at hts hset;have hset:=hset _ rfl;try (simp [hlt,hi1,hi2,e1,hset,hw])
   repeat (first|(refine sR ?_; simp [hlt,hi1,hi2,e1,hset,hw])|(refine sC ?_; simp [hlt,hi1,hi2,e1,hset,hw])|(refine sX ?_; simp only [AU, ↓reduceIte]))
   refine sE ?_;exact ⟨⟨i+1,sz,own,tok3,nt3⟩,⟨hi1,htk,by simpa [hts] using hsz⟩,by simp only; omega,Weaks.mk htk.le rfl (by simp [ToL,lk,hts]) (by simp [BoxL,lk])⟩
  ·rw [e1] at hts hset;simp only [↓reduceIte] at hts hset;have hset:=hset _ rfl;have hss:((f1 g i).set i (-1)).set i 0=f1 g (i+1):=by rw [List.set_set]; exact hset
   try (simp [hlt,hi1,hi2,hi3,e1,hss])
   repeat (first|(refine sR ?_; simp [hlt,hi1,hi2,hi3,e1,hss])|(refine sC ?_; simp [hlt,hi1,hi2,hi3,e1,hss])|(refine sX ?_; simp only [AU, ↓reduceIte]))
   refine ⟨⟨hsz.imp (fun h=>h.1) (fun h=>⟨h.1,h.2⟩),by omega,htk.live⟩,?_⟩;try (simp [hw])
   repeat (first|(refine sR ?_; simp [hw])|(refine sC ?_; simp [hw])|(refine sX ?_; simp only [AU, ↓reduceIte]))
   refine sE ?_;exact ⟨⟨i+1,1,.tok nt3,_,nt3+1⟩,⟨hi1,htk.app,.inl ⟨rfl,_,rfl⟩⟩,by simp only; omega,Weaks.mk (Nat.le_succ_of_le htk.le) rfl (by simp [ToL,lk,hts]) (by simp [BoxL,lk])⟩
 ·refine sX ?_;simp only [AU, ↓reduceIte];have:i=g.length:=by omega
  subst this;have hini:farN m.prev thr (farM (far0 g,trueIx g)) (far0 g) (trueIx g)=Far:=by rw [far0_m]; exact hFar
  have hI:=far0_i g m.next;have hmM:farM (far0 g,trueIx g)≤n:=by rw [far0_m]; omega
  rw [trueTo_all,f1_all] at *;have hlen0:=far0_len g;generalize far0 g=fr0 at *;generalize trueIx g=q0 at *;obtain ⟨tq,htkq,htr⟩:∃ tq,TK tok nt (upd tok3 nt3 true) (nt3+1) [.tok tq]∧QuTo nt3 1 (.osl sz (rI q0) own) (.que tq 1 (rI q0)):=by
   rcases hsz with ⟨h,t,h2⟩|⟨h1,h2⟩
   ·subst h; subst h2;exact ⟨t,htk.full.app.tail,.tok⟩
   ·subst h1; subst h2;exact ⟨nt3,htk.app,.nil⟩
  refine AL.trans (Trans.que (l':=[(21,.bot),(19,.bot),(20,.bot),(6,.que tq 1 (rI q0)),(5,.ptr (nb+5) 0 0),(3,.ptr (nb+3) 0 0),(2,.ptr (nb+2) 0 0)]) (loc':=[(17,rowsI fr0),(5,[[.msl (nb+17) 0 n 1]]),(3,[(Qn.mk thr (some g) e v).row]),(2,[m.row])]) 1 ⟨rfl,.bot,rfl,.bot,rfl,.bot,rfl,htr,rfl,.same,rfl,.same,rfl,.same,trivial⟩ (cvB_refl (fun _=>.same) _)) ?_;generalize upd tok3 nt3 true=tok4 at *;generalize hnt4:nt3+1=nt4 at *;rw [hg] at hI;refine sN ?_;refine AL.loopT (stShB m ⟨thr,some g,e,v⟩ n nb box) (fun a=>TK tok nt a.tok a.nt [.tok a.t]∧FarI n m.next (a.far,a.q)∧farM (a.far,a.q)≤n∧farN m.prev thr (farM (a.far,a.q)) a.far a.q=Far) (fun a=>farM (a.far,a.q)) ⟨fr0,q0,tq,tok4,nt4⟩ ⟨htkq,hI,hmM,hini⟩ (Weaks.mk htkq.le rfl (by simp [ToL,lk,lb_at]) (by simp [BoxL,lk])) ?_;rintro ⟨far,q,t,tok5,nt5⟩ S ⟨htk5,hI,hfm,hfn⟩ hS;simp only [stShB] at hS htk5 hI hfm hfn;subst hS;cases q with
  | nil =>
   rw [farN_nil] at hfn;subst hfn;have hl:=hI.len;simp only at hl;have h0:0<far.length:=by omega
   have h0n:(0:Int)<(n:Int):=by omega
   have hg0:fAt far 0=far[0]:=by simp [fAt,h0]
   rw [hg0] at hRes;by_cases c0:far[0]<0
   ·have b0:decide (far[0]<0)=true:=by simpa using c0
    rw [if_pos c0] at hRes;subst hRes;try (simp [h0,h0n,hpos,c0,b0])
    repeat (first|(refine sR ?_; simp [h0,h0n,hpos,c0,b0])|(refine sC ?_; simp [h0,h0n,hpos,c0,b0])|(refine sX ?_; simp only [AU, ↓reduceIte]))
    refine sT (sG hbox htok htk5.old htk5.le ?_);simp [packA,pathA]
   ·have b0:decide (far[0]<0)=false:=by simpa using c0
    rw [if_neg c0] at hRes;try (simp [h0,h0n,hpos,c0,b0])
    repeat (first|(refine sR ?_; simp [h0,h0n,hpos,c0,b0])|(refine sC ?_; simp [h0,h0n,hpos,c0,b0])|(refine sX ?_; simp only [AU, ↓reduceIte]))
    rw [←hg0] at hRes;have hhi0:=hI.hi 0 ⟨Int.le_refl _,h0n⟩;simp only at hhi0;refine sN ?_;refine AL.loopT (stShD m far n nb box) (fun x=>TK tok nt x.tok x.nt [x.own]∧inR n x.a∧0≤fAt far x.a∧(x.path.length:Int)+fAt far x.a≤n+1∧pthN m.next far (fAt far x.a).toNat x.a x.path=Res∧x.path≠[]) (fun x=>(fAt far x.a).toNat) ⟨0,[0],.full,tok5,nt5⟩ ⟨htk5.tail.full,⟨Int.le_refl _,h0n⟩,by simp only; omega,by simp only [List.length_cons,List.length_nil]; omega,hRes,by simp⟩ (Weaks.mk htk5.le rfl (by simp [ToL,lk,lb_at]) (by simp [BoxL,lk])) ?_;rintro ⟨a,path,own,tok6,nt6⟩ S ⟨htk6,har,ha0,hpl6,hpn,hpne⟩ hS;simp only [stShD] at hS htk6 har ha0 hpl6 hpn hpne;subst hS;obtain ⟨ha1,ha2⟩:=har;have ha3:a.toNat<far.length:=by omega
    have hga:fAt far a=far[a.toNat]:=by simp [fAt,ha3]
    have hhi:=hI.hi a ⟨ha1,ha2⟩;simp only at hhi;by_cases c6:0<fAt far a
    ·obtain ⟨k,h1,h2,hf,hes,hkr,hkt⟩:=pth_step hm hI ⟨ha1,ha2⟩ c6;have ha4:a<(m.next.length:Int):=by omega
     have hrR:=hm.nextR _ (List.getElem_mem h1);have hrL:=hm.nextL _ (List.getElem_mem h1);have hwk:IntKind.i64.wrap (fAt far a - 1)=fAt far a - 1:=wrap_in (by omega) (by omega)
     obtain ⟨F,hF⟩:∃ F,(fAt far a).toNat=F+1:=⟨(fAt far a).toNat - 1,by omega⟩
     rw [hF,pthN,hes] at hpn;have hix:=indexFunc_c m.next[a.toNat] 165 [.ptr (nb+5) 0 0,.ptr (nb+12) 0 0] (fun i=>decide (fAt far i=fAt far a - 1)) (by omega) (lb nb box [(12,[[I a]]),(17,rowsI far),(5,[[.msl (nb+17) 0 n 1]]),(2,[m.row])]) (nb+113) tok6 nt6 (by simp [lb_at,lk]) (fun k hk box' nb' he=>shc_c far n hl a k ⟨ha1,ha2⟩ (hrR k hk) hwk (nb+5) (nb+12) (nb+17) nb' box' tok6 nt6 (he _ _ (by simp [lb_at,lk])) (he _ _ (by simp [lb_at,lk])) (he _ _ (by simp [lb_at,lk])));rw [hf] at hix;have c7:0<far[a.toNat]:=by omega
     have b7:decide (0<far[a.toNat])=true:=by simpa using c7
     try (simp [ha1,ha2,ha3,ha4,h1,c7,b7])
     repeat (first|(refine sR ?_; simp [ha1,ha2,ha3,ha4,h1,c7,b7])|(refine sC ?_; simp [ha1,ha2,ha3,ha4,h1,c7,b7])|(refine sX ?_; simp only [AU, ↓reduceIte]))
     refine Stop.of_b (hix) ?_;simp;obtain ⟨a',ha'⟩:∃ a',m.next[a.toNat][k]=a':=⟨_,rfl⟩
     rw [ha'] at hpn hkr hkt;try (simp [ha1,ha2,ha4,h1,h2,ha'])
     repeat (first|(refine sR ?_; simp [ha1,ha2,ha4,h1,h2,ha'])|(refine sC ?_; simp [ha1,ha2,ha4,h1,h2,ha'])|(refine sX ?_; simp only [AU, ↓reduceIte]))
     refine ⟨⟨by omega,htk6.live⟩,?_⟩;refine sR ?_;simp;refine sN ?_;refine AL.weak (Weaks.mk (l':=[(111,I a'),(11,.osl 1 (rI (path++[a'])) (.tok nt6)),(5,.ptr (nb+5) 0 0),(2,.ptr (nb+2) 0 0)]) (loc':=[(17,rowsI far),(5,[[.msl (nb+17) 0 n 1]]),(2,[m.row])]) (Nat.le_succ_of_le htk6.le) rfl (by simp [ToL,lk,lb_at]) (by simp [BoxL,lk])) ?_;try (simp)
     repeat (first|(refine sR ?_; simp)|(refine sC ?_; simp)|(refine sX ?_; simp only [AU, ↓reduceIte]))
     refine sE ?_;have hF':(fAt far a').toNat=F:=by omega
     exact ⟨⟨a',path++[a'],.tok nt6,_,nt6+1⟩,⟨htk6.app,hkr,by simp only; omega,by simp only [List.length_append,List.length_cons,List.length_nil]; omega,by simp only; rw [hF']; exact hpn,by simp⟩,by simp only; omega,Weaks.mk (Nat.le_succ_of_le htk6.le) rfl (by simp [ToL,lk,lb_at]) (by simp [BoxL,lk])⟩
    ·have c7:¬ 0<far[a.toNat]:=by omega
     have b7:decide (0<far[a.toNat])=false:=by simpa using c7
     have hz:(fAt far a).toNat=0:=by omega
     rw [hz,pthN] at hpn;subst hpn;try (simp [ha1,ha2,ha3,c7,b7])
     repeat (first|(refine sR ?_; simp [ha1,ha2,ha3,c7,b7])|(refine sC ?_; simp [ha1,ha2,ha3,c7,b7])|(refine sX ?_; simp only [AU, ↓reduceIte]))
     have hpa:=pathA_ne hpne;refine sT (sG hbox htok htk6.old htk6.le ?_);simp [packA,ints,hpa]
  | cons k q =>
   obtain ⟨hkr,hk0⟩:=hI.q k (by simp);obtain ⟨hk1,hk2⟩:=hkr;simp only at hk0;have hpl:=hm.prev;have hk3:k.toNat<m.prev.length:=by omega
   have hk4:k<(m.prev.length:Int):=by omega
   have hcvk:=hcv k ⟨hk1,hk2⟩;have hrd:m.prev.getD k.toNat []=m.prev[k.toNat]:=by simp [hk3]
   obtain ⟨r,hr⟩:∃ r,m.prev[k.toNat]=r:=⟨_,rfl⟩
   have hrR:=hm.prevR _ (List.getElem_mem hk3);have hrL:=hm.prevL _ (List.getElem_mem hk3);rw [hrd] at hcvk;rw [hr] at hrR hrL hrd hcvk;have hms:farM (far,k::q)=farM (far,q)+1:=by simp [farM]; omega
   rw [hms,farN,hrd] at hfn;have hIt:=hI.tail;have hFi:=farF_i (thr:=thr) (k:=k) ⟨hk1,hk2⟩ r (far,q) hIt hk0 (fun i hi=>⟨hrR i hi,hcvk i hi⟩);obtain ⟨F,hF⟩:∃ F,r.foldl (farS thr k) (far,q)=F:=⟨_,rfl⟩
   rw [hF] at hfn hFi;have hql:q.length≤n:=by
    have:=hfm
    simp [farM] at this;omega
   try (simp [hk1,hk3,hk4,hr])
   repeat (first|(refine sR ?_; simp [hk1,hk3,hk4,hr])|(refine sC ?_; simp [hk1,hk3,hk4,hr])|(refine sX ?_; simp only [AU, ↓reduceIte]))
   refine sN ?_;refine AL.loopT (stShC m ⟨thr,some g,e,v⟩ n k r nb box) (fun a=>a.j≤r.length∧TK tok nt a.tok a.nt [.tok a.t]∧FarI n m.next (a.far,a.q)∧0≤fAt a.far k∧(r.drop a.j).foldl (farS thr k) (a.far,a.q)=F∧farM (a.far,a.q)=farM (far,q)) (fun a=>r.length - a.j) ⟨0,far,q,t,tok5,nt5⟩ ⟨Nat.zero_le _,htk5,hIt,hk0,hF,rfl⟩ (Weaks.mk htk5.le rfl (by simp [ToL,lk,lb_at]) (by simp [BoxL,lk])) ?_;rintro ⟨j,far2,q2,t2,tok6,nt6⟩ S ⟨hj,htk6,hI2,hk02,hF2,hm2⟩ hS;simp only [stShC] at hS hj htk6 hI2 hk02 hF2 hm2;subst hS;have hw2:=sW (i:=j) (by omega);repeat (first|simp|refine sR ?_|refine sC ?_)
   refine ⟨fun hlt=>?_,fun hge=>?_⟩
   ·have hxr:=hrR _ (List.getElem_mem hlt);have hxc:=hcvk _ (List.getElem_mem hlt);obtain ⟨hx1,hx2⟩:=hxr;rw [List.drop_eq_getElem_cons hlt,List.foldl_cons] at hF2;obtain ⟨hs1,hs2,hs3⟩:=farS_i (thr:=thr) hI2 ⟨hk1,hk2⟩ hk02 ⟨hx1,hx2⟩ hxc;have hl2:=hI2.len;simp only at hl2;have hx3:r[j].toNat<far2.length:=by omega
    have hx4:r[j]<(n:Int):=hx2
    have hx5:r[j].toNat<thr.length:=by omega
    have hx6:r[j]<(thr.length:Int):=by omega
    have hk5:k.toNat<far2.length:=by omega
    have hk6:k<(n:Int):=hk2
    have hg1:fAt far2 r[j]=far2[r[j].toNat]:=by simp [fAt,hx3]
    have hg2:thr.getD r[j].toNat false=thr[r[j].toNat]:=by simp [hx5]
    have hg3:fAt far2 k=far2[k.toNat]:=by simp [fAt,hk5]
    have hhi:=hI2.hi k ⟨hk1,hk2⟩;simp only at hhi;have hwk:IntKind.i64.wrap (far2[k.toNat]+1)=far2[k.toNat]+1:=wrap_in (by omega) (by omega)
    unfold farS at hF2 hs1 hs2 hs3;rw [hg1,hg2,hg3] at hF2 hs1 hs2 hs3;repeat (first|simp [hlt,hx1,hx3,hx4]|refine sR ?_)
    by_cases c1:far2[r[j].toNat]<0
    ·have b1:decide (far2[r[j].toNat]<0)=true:=by simpa using c1
     cases e2:thr[r[j].toNat]
     ·simp only [c1,e2,Bool.false_eq_true,and_false, ↓reduceIte] at hF2 hs1 hs2 hs3;try (simp [c1,b1,hx1,hx3,hx4,hx5,hx6,e2,hw2])
      repeat (first|(refine sR ?_; simp [c1,b1,hx1,hx3,hx4,hx5,hx6,e2,hw2])|(refine sC ?_; simp [c1,b1,hx1,hx3,hx4,hx5,hx6,e2,hw2])|(refine sX ?_; simp only [AU, ↓reduceIte]))
      refine sE ?_;exact ⟨⟨j+1,far2,q2,t2,tok6,nt6⟩,⟨hlt,htk6,hI2,hk02,hF2,hm2⟩,by simp only; omega,Weaks.mk htk6.le rfl (by simp [ToL,lk,lb_at]) (by simp [BoxL,lk])⟩
     ·simp only [c1,e2,and_self, ↓reduceIte] at hF2 hs1 hs2 hs3;have hq2l:q2.length≤n:=by
       have h1:farM (far2,q2)≤n:=by omega
       simp [farM] at h1;omega
      try (simp [c1,b1,hx1,hx3,hx4,hx5,hx6,e2,hk1,hk5,hk6,hwk,hw2])
      repeat (first|(refine sR ?_; simp [c1,b1,hx1,hx3,hx4,hx5,hx6,e2,hk1,hk5,hk6,hwk,hw2])|(refine sC ?_; simp [c1,b1,hx1,hx3,hx4,hx5,hx6,e2,hk1,hk5,hk6,hwk,hw2])|(refine sX ?_; simp only [AU, ↓reduceIte]))
      refine ⟨⟨by omega,htk6.live⟩,?_⟩;try (simp [hw2])
      repeat (first|(refine sR ?_; simp [hw2])|(refine sC ?_; simp [hw2])|(refine sX ?_; simp only [AU, ↓reduceIte]))
      refine sE ?_;exact ⟨⟨j+1,far2.set r[j].toNat (far2[k.toNat]+1),q2++[r[j]],nt6,_,nt6+1⟩,⟨hlt,htk6.app,hs1,hs3,hF2,hs2.trans hm2⟩,by simp only; omega,Weaks.mk (Nat.le_succ_of_le htk6.le) rfl (by simp [ToL,lk,lb_at]) (by simp [BoxL,lk])⟩
    ·have b1:decide (far2[r[j].toNat]<0)=false:=by simpa using c1
     simp only [c1,false_and, ↓reduceIte] at hF2 hs1 hs2 hs3;try (simp [c1,b1,hw2])
     repeat (first|(refine sR ?_; simp [c1,b1,hw2])|(refine sC ?_; simp [c1,b1,hw2])|(refine sX ?_; simp only [AU, ↓reduceIte]))
     refine sE ?_;exact ⟨⟨j+1,far2,q2,t2,tok6,nt6⟩,⟨hlt,htk6,hI2,hk02,hF2,hm2⟩,by simp only; omega,Weaks.mk htk6.le rfl (by simp [ToL,lk,lb_at]) (by simp [BoxL,lk])⟩
   ·refine sX ?_;simp only [AU, ↓reduceIte];have:j=r.length:=by omega
    subst this;rw [List.drop_length,List.foldl_nil] at hF2;rw [←hF2] at hfn hFi;try (simp)
    repeat (first|(refine sR ?_; simp)|(refine sC ?_; simp)|(refine sX ?_; simp only [AU, ↓reduceIte]))
    refine sE ?_;refine ⟨⟨far2,q2,t2,tok6,nt6⟩,⟨htk6,hI2,by simp only; omega,by simp only; rw [hm2]; exact hfn⟩,by simp only; omega,Weaks.mk htk6.le rfl (by simp [ToL,lk,lb_at]) (by simp [BoxL,lk])⟩
theorem DCall.subv {P:Program} {f:FuncId} {args:List AV} {tok:Nat→Bool} {nt:Nat} {v v':AV} {tok':Nat→Bool} {nt':Nat} (h:DCall P f args tok nt v tok' nt') (hs:Sub v v'):DCall P f args tok nt v' tok' nt' :=
 fun box nb=>⟨(h box nb).1,fun G w vals hm hr=>((h box nb).2 G w vals hm hr).mono fun e w' ⟨u,av,m',G',h1,⟨h2,h3⟩,h4,h5,h6,h7⟩=>⟨u,v',m',G',h1,⟨rfl,h3⟩,h4,h5,hs _ _ _ (h2 ▸ h6),h7⟩⟩
def pathV:List Int→AV
 | []=>.d (.raw nilV)
 | a::r=>.d (ints (a::r))
theorem pathAV (l:List Int):Sub (pathA l) (pathV l):=by
 cases l with
 | nil=>exact Sub.nilv
 | cons a r=>exact Sub.refl _
def pathQ (m:Mdl) (q:Qn):List Int:=if q.endless=true then endR m q.through else shortR m q.through (q.goal.getD [])
def traceA (m:Mdl) (f:Fo):AV:=match askR m f with
 | none=>.tup [.osl 0 [] .full,B false,I 8]
 | some q=>if pathQ m q=[] then .tup [.osl 0 [] .full,B false,I 10] else .tup [.d (ints (pathQ m q)),B q.verdict,I 0]
theorem askR_ok {m:Mdl} {n:Nat} (hm:m.Ok n) {f:Fo} (hf:f.Hok m) {q:Qn} (h:askR m f=some q):q.through.length=n∧(q.endless=false→∃ g,q.goal=some g∧g.length=n):=by
 obtain ⟨ho1,ho2,ho3⟩:=hf.one;have hln:=fun x (hx:x∈f.kids)=>Fo.holds_len hm f.size x (Fo.kid_size hx) (hf.kid hx)
 have hk:∀ i,i<f.kids.length→(kidV m f i).length=n:=fun i hi=>by
  have:kidV m f i=f.kids[i].holds m:=by simp [kidV,hi]
  rw [this];exact hln _ (List.getElem_mem hi)
 have hnl:=hm.next;unfold askR at h;split at h
 ·rename_i c;cases h;exact ⟨by simp [hnl],fun _=>⟨_,rfl,hk 0 (ho2 (by rw [c]; decide))⟩⟩
 split at h
 ·rename_i c;cases h;exact ⟨by simp [hnl],fun _=>⟨_,rfl,by simp only [notR_len]; exact hk 0 (ho2 (by rw [c]; decide))⟩⟩
 split at h
 ·rename_i c;cases h;have h2:2≤f.kids.length:=ho3 (by rw [c]; decide) (by rw [c]; decide) (by rw [c]; decide) (by rw [c]; decide) (by rw [c]; decide) (by rw [c]; decide) (by rw [c]; decide) (by rw [c]; decide) (by rw [c]; decide) (by rw [c]; decide)
  exact ⟨hk 0 (by omega),fun _=>⟨_,rfl,hk 1 (by omega)⟩⟩
 split at h
 ·rename_i c;cases h;exact ⟨hk 0 (ho2 (by rw [c]; decide)),fun h=>by cases h⟩
 split at h
 ·rename_i c;cases h;exact ⟨by simp only [notR_len]; exact hk 0 (ho2 (by rw [c]; decide)),fun h=>by cases h⟩
 ·cases h
set_option maxRecDepth 100000 in
theorem trace_c (m:Mdl) (n:Nat) (hm:m.Ok n) (hcv:∀ k,inR n k→∀ i∈m.prev.getD k.toNat [],k∈m.next.getD i.toNat []) (f:Fo) (hsz:f.size≤1000000) (hf:f.Hok m) (t1 t2 s1 s2 L:D) (tok:Tks) (nt:Nat)
  (hgv:DCall Tryz.prog 90 [.agg [.d t1,.d t2],.agg [.d s1,.d s2],f.av,.d L] tok nt (.tup [m.av,I 0]) tok nt) :
  DCall Tryz.prog 39 [.agg [.d t1,.d t2],.agg [.d s1,.d s2],f.av,.d L] tok nt (traceA m f) tok nt:=by
 intro box nb;have hask:=askT_c m n hm f hsz hf;obtain ⟨Res,hRes⟩:∃ Res,traceA m f=Res:=⟨_,rfl⟩
 rw [hRes];unfold traceA at hRes;refine sI Tryz.func39 Tryz.ntmps39 fun hbox htok=>?_
 repeat (first|simp|refine sR ?_)
 refine Stop.of_d (hgv) ?_;simp;cases hq:askR m f with
 | none =>
  rw [hq] at hask hRes;simp only at hRes;subst hRes;try (simp)
  repeat (first|(refine sR ?_; simp)|(refine sC ?_; simp)|(refine sX ?_; simp only [AU, ↓reduceIte]))
  refine Stop.of_d (hask _ _) ?_;simp [askA];try (simp)
  repeat (first|(refine sR ?_; simp)|(refine sC ?_; simp)|(refine sX ?_; simp only [AU, ↓reduceIte]))
  refine sT (sH hbox htok ?_);simp [packA]
 | some q =>
  rw [hq] at hask hRes;obtain ⟨hth,hgo⟩:=askR_ok hm hf hq;simp only at hRes;try (simp)
  repeat (first|(refine sR ?_; simp)|(refine sC ?_; simp)|(refine sX ?_; simp only [AU, ↓reduceIte]))
  refine Stop.of_d (hask _ _) ?_;simp [askA];cases e:q.endless
  ·obtain ⟨g,hg1,hg2⟩:=hgo e;obtain ⟨thr,go,en,ve⟩:=q;simp only at e hg1 hth;subst e;subst hg1;have hsh:=fun tok nt=>(shortestT_c m n hm thr g hth hg2 false ve hcv tok nt).subv (pathAV _)
   have hp:pathQ m ⟨thr,some g,false,ve⟩=shortR m thr g:=rfl
   rw [hp] at hRes;try (simp)
   repeat (first|(refine sR ?_; simp)|(refine sC ?_; simp)|(refine sX ?_; simp only [AU, ↓reduceIte]))
   refine Stop.of_d (hsh _ _) ?_;simp;generalize shortR m thr g=path at *;cases path with
   | nil =>
    simp only [↓reduceIte] at hRes;subst hRes;try (simp [pathV])
    repeat (first|(refine sR ?_; simp [pathV])|(refine sC ?_; simp [pathV])|(refine sX ?_; simp only [AU, ↓reduceIte]))
    refine sT (sH hbox htok ?_);simp [packA]
   | cons a r =>
    simp only [reduceCtorEq, ↓reduceIte] at hRes;subst hRes;try (simp [pathV])
    repeat (first|(refine sR ?_; simp [pathV])|(refine sC ?_; simp [pathV])|(refine sX ?_; simp only [AU, ↓reduceIte]))
    refine sT (sH hbox htok ?_);simp [packA]
  ·obtain ⟨thr,go,en,ve⟩:=q;simp only at e hth;subst e;have hen:=fun tok nt=>(endlessT_c m n hm ⟨thr,go,true,ve⟩ hth tok nt).subv (pathAV _)
   have hp:pathQ m ⟨thr,go,true,ve⟩=endR m thr:=rfl
   rw [hp] at hRes;try (simp)
   repeat (first|(refine sR ?_; simp)|(refine sC ?_; simp)|(refine sX ?_; simp only [AU, ↓reduceIte]))
   refine Stop.of_d (hen _ _) ?_;simp;generalize endR m thr=path at *;cases path with
   | nil =>
    simp only [↓reduceIte] at hRes;subst hRes;try (simp [pathV])
    repeat (first|(refine sR ?_; simp [pathV])|(refine sC ?_; simp [pathV])|(refine sX ?_; simp only [AU, ↓reduceIte]))
    refine sT (sH hbox htok ?_);simp [packA]
   | cons a r =>
    simp only [reduceCtorEq, ↓reduceIte] at hRes;subst hRes;try (simp [pathV])
    repeat (first|(refine sR ?_; simp [pathV])|(refine sC ?_; simp [pathV])|(refine sX ?_; simp only [AU, ↓reduceIte]))
    refine sT (sH hbox htok ?_);simp [packA]
set_option maxRecDepth 100000 in
theorem holds50_c (m:Mdl) (n:Nat) (hm:m.Ok n) (f:Fo) (hsz:f.size≤1000000) (hf:f.Hok m) (t1 t2 s1 s2 L:D) (tok:Tks) (nt:Nat)
  (hgv:DCall Tryz.prog 90 [.agg [.d t1,.d t2],.agg [.d s1,.d s2],f.av,.d L] tok nt (.tup [m.av,I 0]) tok nt) :
  DCall Tryz.prog 35 [.agg [.d t1,.d t2],.agg [.d s1,.d s2],f.av,.d L] tok nt (.tup [.d (bools (f.holds m)),I 0]) tok nt:=by
 intro box nb;have hh:=holdsT_c m n hm (f.size+1) f (Nat.lt_succ_self _) hsz hf;have hl:=Fo.holds_len hm (f.size+1) f (Nat.lt_succ_self _) hf;have hle:=hm.le;have hpos:=hm.pos;generalize f.holds m=R at *;have hne:R≠[]:=fun h=>by rw [h] at hl; simp at hl; omega
 have hcl:=cloneB_c R hne (by omega) tok nt;refine sI Tryz.func35 Tryz.ntmps35 fun hbox htok=>?_
 repeat (first|simp|refine sR ?_)
 refine Stop.of_d (hgv) ?_;simp;try (simp)
 repeat (first|(refine sR ?_; simp)|(refine sC ?_; simp)|(refine sX ?_; simp only [AU, ↓reduceIte]))
 refine Stop.of_d (hh _ _) ?_;simp;refine Stop.of_d (hcl) ?_;repeat (first|simp|refine sR ?_)
 have htk0:TK tok nt (upd (upd (upd tok nt true) nt false) (nt+1) true) (nt+2) [.tok (nt+1)]:=(((TK.start htok).full.app).app:TK _ _ _ _ _)
 generalize (upd (upd (upd tok nt true) nt false) (nt+1) true)=tok1 at *;refine AL.weak (Weaks.mk (l':=[(9,I 0),(8,.stk (nt+1) 1 (rBo R))]) (loc':=[]) (by omega) rfl (by simp [ToL,lk]) (by simp [BoxL,lk])) ?_;refine AL.stkD (nt+1) htk0.live ?_;simp only [List.map_cons,List.map_nil,AV.sdT, ↓reduceIte];have htk1:TK tok nt (upd tok1 (nt+1) false) (nt+2) [.full]:=by
  have:=htk0
  refine (TK.full ⟨fun t ht=>?_,this.lt,this.le,by simp,.nil⟩);have hlt:=htok t ht;rw [upd_other _ _ (by omega)];exact this.old t ht
 refine sT (sG hbox htok htk1.old htk1.le ?_);simp [packA]
def rankK (i:Nat) (o:List Int) (k:Int):List Int:=o.set i (max (o.getD i 0) (fAt o k+1))
def rkS (nx:List (List Int)) (o:List Int) (i:Nat):List Int:=if 0≤o.getD i 0∨((nx.getD i []).any fun k=>decide (fAt o k<0))=true then o else (nx.getD i []).foldl (rankK i) o
def rkP (nx:List (List Int)) (o:List Int) (i:Nat):List Int:=(List.range i).foldl (rkS nx) o
def rkN (nx:List (List Int)):Nat→List Int→List Int
 | 0,o=>o
 | n+1,o=>if rkP nx o o.length=o then o else rkN nx n (rkP nx o o.length)
def rankR (m:Mdl) (l:List Bool):List Int:=rkN m.next (negs (far0 l)+1) (far0 l)
theorem rkP_succ (nx:List (List Int)) (o:List Int) (i:Nat):rkP nx o (i+1)=rkS nx (rkP nx o i) i:=by simp [rkP,List.range_succ]
structure RkI (n:Nat) (o:List Int):Prop where
 len:o.length=n
 lo:∀ i,i<n → -1≤o.getD i 0
 hi:∀ i,i<n→o.getD i 0+(negs o:Int)≤(n:Int)
structure RkJ (n:Nat) (o:List Int) (i:Nat) (o2:List Int) (j:Nat):Prop where
 len:o2.length=n
 oth:∀ k,k<n→k≠i→o2.getD k 0=o.getD k 0
 bd:o2.getD i 0+(negs o:Int)≤(n:Int)+1
 zero:j=0→o2=o
 pos:0<j→1≤o2.getD i 0
theorem getD_set_eq {o:List Int} {i:Nat} (h:i<o.length) (v:Int):(o.set i v).getD i 0=v:=by simp [h]
theorem getD_set_ne {o:List Int} {i k:Nat} (h:k≠i) (v:Int):(o.set i v).getD k 0=o.getD k 0:=by simp [List.getElem?_set_ne (Ne.symm h)]
theorem rkJ_step {n:Nat} {o:List Int} (h:RkI n o) {i:Nat} (hi:i<n) (hneg:o.getD i 0<0) {o2:List Int} {j:Nat} (hj:RkJ n o i o2 j) {k:Int} (hk:inR n k) (hk0:0≤fAt o k):RkJ n o i (rankK i o2 k) (j+1)∧fAt o2 k=fAt o k:=by
 obtain ⟨h1,h2⟩:=hk;have hki:k.toNat≠i:=fun e=>by unfold fAt at hk0; rw [e] at hk0; omega
 have hfk:fAt o2 k=fAt o k:=hj.oth k.toNat (by omega) hki
 have hb:=h.hi k.toNat (by omega);have hb2:=hj.bd;have hil:i<o2.length:=by rw [hj.len]; exact hi
 refine ⟨⟨by simp [rankK,hj.len],fun x hx hne=>?_,?_,fun e=>by omega,fun _=>?_⟩,hfk⟩
 ·unfold rankK;rw [getD_set_ne hne];exact hj.oth x hx hne
 ·unfold rankK;rw [getD_set_eq hil,hfk];unfold fAt at hk0 ⊢;omega
 ·unfold rankK;rw [getD_set_eq hil,hfk];omega
theorem negs_ext {a b:List Int} {i:Nat} (hl:a.length=b.length) (hi:i<a.length) (h:∀ k,k<a.length→k≠i→b.getD k 0=a.getD k 0) (h1:a.getD i 0<0) (h2:0≤b.getD i 0):negs b+1=negs a:=by
 have e:b=a.set i (b.getD i 0):=by
  refine List.ext_getElem (by simp [hl]) fun k g1 g2=>?_
  have hk:k<a.length:=by omega
  rw [List.getElem_set];split
  ·rename_i e; subst e; simp [g1]
  ·rename_i hne;have:=h k hk (Ne.symm hne)
   simpa [hk,g1] using this
 rw [e];have:a.getD i 0=a[i]:=by simp [hi]
 exact negs_set hi (by rw [←this]; exact h1) h2
theorem rkJ_end {n:Nat} {o:List Int} (h:RkI n o) {i:Nat} (hi:i<n) (hneg:o.getD i 0<0) {o2:List Int} {j:Nat} (hj:RkJ n o i o2 j) (h0:0<j):RkI n o2∧negs o2+1=negs o:=by
 have hp:=hj.pos h0;have hn:=negs_ext (a:=o) (b:=o2) (i:=i) (by rw [h.len,hj.len]) (by rw [h.len]; exact hi) (fun k hk hne=>hj.oth k (by rw [←h.len]; exact hk) hne) hneg (by omega);have hbd:=hj.bd;refine ⟨⟨hj.len,fun k hk=>?_,fun k hk=>?_⟩,hn⟩
 ·by_cases e:k=i
  ·subst e; omega
  ·rw [hj.oth k hk e]; exact h.lo k hk
 ·by_cases e:k=i
  ·subst e; omega
  ·rw [hj.oth k hk e];have:=h.hi k hk
   omega
theorem rkJ_zero {n:Nat} {o:List Int} (h:RkI n o) {i:Nat} (hi:i<n):RkJ n o i o 0:=⟨h.len,fun _ _ _=>rfl,by have:=h.hi i hi; omega,fun _=>rfl,fun h=>by omega⟩
theorem rk0_i (l:List Bool):RkI l.length (far0 l):=by
 have h:=far0_i l [];refine ⟨by simp [far0],fun i hi=>?_,fun i hi=>?_⟩
 ·have:=h.lo (i:Int) ⟨by omega,by omega⟩
  simpa [fAt] using this
 ·have:=h.hi (i:Int) ⟨by omega,by omega⟩
  simpa [fAt] using this
theorem rkc_c (o:List Int) (n:Nat) (hn:o.length=n) (k:Int) (hk:inR n k) (k12 k17 nb:Nat) (box:Bxs) (tok:Tks) (nt:Nat) (h12:box k12=some [[.msl k17 0 n 1]]) (h17:box k17=some (rowsI o)) :
  ACalls Tryz.prog 97 [I k,.ptr k12 0 0] ⟨box,nb,tok,nt⟩ fun v m=>v=B (decide (fAt o k<0))∧m=⟨box,nb,tok,nt⟩:=by
 obtain ⟨h1,h2⟩:=hk;have h6:k.toNat<o.length:=by omega
 have hg1:fAt o k=o[k.toNat]:=by simp [fAt,h6]
 rw [hg1];refine sI Tryz.func97 Tryz.ntmps97 fun hbox htok=>?_
 have hkn12:=key_lt hbox h12;have hkn17:=key_lt hbox h17;repeat (first|simp|refine sR ?_)
 repeat (first|simp [lb_out hkn12,lb_out hkn17,h12,h17,h1,h2,h6]|refine sR ?_)
 refine sT (sH hbox htok ?_);simp [packA]
structure RkO where
 c:Bool
 o:List Int
structure RkX where
 c:Bool
 i:Nat
def RkInv (n:Nat) (nx:List (List Int)) (Res:List Int) (a:RkO):Prop:=RkI n a.o∧if a.c=true then ∃ F,negs a.o<F∧rkN nx F a.o=Res else a.o=Res
def RkInvI (n:Nat) (nx:List (List Int)) (o:List Int) (a:RkX):Prop:=RkI n (rkP nx o a.i)∧if a.c=true then negs (rkP nx o a.i)<negs o else rkP nx o a.i=o
theorem rk_step {nx:List (List Int)} {o Res:List Int} {F:Nat} (hn:negs o<F) (hr:rkN nx F o=Res):(rkP nx o o.length=o∧o=Res)∨(rkP nx o o.length≠o∧rkN nx (F - 1) (rkP nx o o.length)=Res):=by
 obtain ⟨F,rfl⟩:∃ k,F=k+1:=⟨F - 1,by omega⟩
 rw [rkN] at hr;by_cases hc:rkP nx o o.length=o
 ·rw [if_pos hc] at hr;exact .inl ⟨hc,hr⟩
 ·rw [if_neg hc] at hr;exact .inr ⟨hc,hr⟩
def stRkA (m:Mdl) (X:List Bool) (n nb:Nat) (box:Bxs) (tok:Tks) (nt:Nat) (i:Nat):AState :=
 ⟨tl [(42,.d (bools X)),(43,I n),(44,I i),(12,.ptr (nb+12) 0 0),(10,.ptr (nb+10) 0 0)],lb nb box [(36,rowsI (f1 X i)),(12,[[.msl (nb+36) 0 n 1]]),(10,[m.row])],tok,nt⟩
def stRkO (m:Mdl) (n nb:Nat) (box:Bxs) (tok:Tks) (nt:Nat) (a:RkO):AState :=
 ⟨tl [(15,B a.c),(12,.ptr (nb+12) 0 0),(10,.ptr (nb+10) 0 0)],lb nb box [(36,rowsI a.o),(12,[[.msl (nb+36) 0 n 1]]),(10,[m.row])],tok,nt⟩
def stRkI (m:Mdl) (o:List Int) (n nb:Nat) (box:Bxs) (tok:Tks) (nt:Nat) (a:RkX):AState :=
 ⟨tl [(59,I n),(60,I a.i),(15,B a.c),(12,.ptr (nb+12) 0 0),(10,.ptr (nb+10) 0 0)],lb nb box [(36,rowsI (rkP m.next o a.i)),(12,[[.msl (nb+36) 0 n 1]]),(10,[m.row])],tok,nt⟩
structure RkY where
 j:Nat
 o:List Int
def stRkJ (m:Mdl) (r:List Int) (i:Nat) (c:Bool) (n nb:Nat) (box:Bxs) (tok:Tks) (nt:Nat) (a:RkY):AState :=
 ⟨tl [(81,.d (ints r)),(82,I r.length),(83,I a.j),(16,I i),(59,I n),(60,I i),(15,B c),(12,.ptr (nb+12) 0 0),(10,.ptr (nb+10) 0 0)],lb nb box [(36,rowsI a.o),(12,[[.msl (nb+36) 0 n 1]]),(10,[m.row])],tok,nt⟩
set_option maxRecDepth 100000 in
theorem rank_c (m:Mdl) (n:Nat) (hm:m.Ok n) (hne:∀ r∈m.next,r≠[]) (f:Fo) (hsz:f.size≤1000000) (hf:f.Hok m) (hk:f.kind=10) (t1 t2 s1 s2 L:D) (tok:Tks) (nt:Nat)
  (hgv:DCall Tryz.prog 90 [.agg [.d t1,.d t2],.agg [.d s1,.d s2],f.av,.d L] tok nt (.tup [m.av,I 0]) tok nt) :
  DCall Tryz.prog 40 [.agg [.d t1,.d t2],.agg [.d s1,.d s2],f.av,.d L] tok nt (.tup [.d (ints (rankR m (kidV m f 0))),I 0]) tok nt:=by
 intro box nb;obtain ⟨ho1,ho2,ho3⟩:=hf.one;have h0:0<f.kids.length:=ho2 (by rw [hk]; decide)
 have ih:=holdsT_c m n hm f.size _ (Fo.kid_size (List.getElem_mem h0)) (by have:=Fo.kid_size (List.getElem_mem h0); omega) (hf.kid (List.getElem_mem h0));have hln:=Fo.holds_len hm f.size _ (Fo.kid_size (List.getElem_mem h0)) (hf.kid (List.getElem_mem h0));have hkv:kidV m f 0=f.kids[0].holds m:=by simp [kidV,h0]
 have hle:=hm.le;have hpos:=hm.pos;have hnl:=hm.next;rw [hkv];obtain ⟨X,hX⟩:∃ X,f.kids[0].holds m=X:=⟨_,rfl⟩
 rw [hX] at ih hln ⊢;obtain ⟨Res,hRes⟩:∃ Res,rankR m X=Res:=⟨_,rfl⟩
 rw [hRes];unfold rankR at hRes;have b10:(f.kind != 10)=false:=by simp [hk]
 have hkl:=f.kids_len;refine sI Tryz.func40 Tryz.ntmps40 fun hbox htok=>?_
 repeat (first|simp|refine sR ?_)
 refine Stop.of_d (hgv) ?_;simp;try (simp [b10])
 repeat (first|(refine sR ?_; simp [b10])|(refine sC ?_; simp [b10])|(refine sX ?_; simp only [AU, ↓reduceIte]))
 refine ⟨by omega,?_⟩;try (simp [h0,Fo.cells_eq])
 repeat (first|(refine sR ?_; simp [h0,Fo.cells_eq])|(refine sC ?_; simp [h0,Fo.cells_eq])|(refine sX ?_; simp only [AU, ↓reduceIte]))
 refine Stop.of_d (ih _ _) ?_;simp;refine sN ?_;refine AL.loopT (stRkA m X n nb box tok nt) (fun i=>i≤X.length) (fun i=>X.length - i) 0 (Nat.zero_le _) (Weaks.mk (Nat.le_refl _) rfl (by simp [ToL,lk,hnl,hln]) (by simp [BoxL,lk,f1_zero,hnl,hln])) ?_;rintro i S hi hS;simp only [stRkA] at hS;subst hS;have hw:=sW (i:=i) (by omega);repeat (first|simp|refine sR ?_|refine sC ?_)
 refine ⟨fun hlt=>?_,fun hge=>?_⟩
 ·have hi1:i<X.length:=by omega
  have hi2:i<(f1 X i).length:=by rw [f1_len hi]; exact hi1
  have hi3:i<((f1 X i).set i (-1)).length:=by simpa using hi2
  have hset:=fun v=>f1_set (v:=v) hi1
  cases e1:X[i]
  ·rw [e1] at hset;simp only [Bool.false_eq_true, ↓reduceIte] at hset;have hset:=hset _ rfl;try (simp [hlt,hi1,hi2,e1,hset,hw])
   repeat (first|(refine sR ?_; simp [hlt,hi1,hi2,e1,hset,hw])|(refine sC ?_; simp [hlt,hi1,hi2,e1,hset,hw])|(refine sX ?_; simp only [AU, ↓reduceIte]))
   refine sE ?_;exact ⟨i+1,hi1,by omega,wkA⟩
  ·rw [e1] at hset;simp only [↓reduceIte] at hset;have hset:=hset _ rfl;have hss:((f1 X i).set i (-1)).set i 0=f1 X (i+1):=by rw [List.set_set]; exact hset
   try (simp [hlt,hi1,hi2,hi3,e1,hss,hw])
   repeat (first|(refine sR ?_; simp [hlt,hi1,hi2,hi3,e1,hss,hw])|(refine sC ?_; simp [hlt,hi1,hi2,hi3,e1,hss,hw])|(refine sX ?_; simp only [AU, ↓reduceIte]))
   refine sE ?_;exact ⟨i+1,hi1,by omega,wkA⟩
 ·refine sX ?_;simp only [AU, ↓reduceIte];have:i=X.length:=by omega
  subst this;rw [f1_all];try (simp)
  repeat (first|(refine sR ?_; simp)|(refine sC ?_; simp)|(refine sX ?_; simp only [AU, ↓reduceIte]))
  have hI0:=rk0_i X;rw [hln] at hI0;generalize far0 X=fr0 at *;refine sN ?_;refine AL.loopT (stRkO m n nb box tok nt) (fun a=>RkInv n m.next Res a) (fun a=>2 * negs a.o+(if a.c=true then 1 else 0)) ⟨true,fr0⟩ ⟨hI0,by simp only [↓reduceIte]; exact ⟨_,Nat.lt_succ_self _,hRes⟩⟩ wkA ?_;rintro ⟨c,o⟩ S hinv hS;simp only [stRkO] at hS;subst hS;obtain ⟨hI,hinv⟩:=hinv;simp only at hI;have hol:=hI.len;cases c with
  | false =>
   simp only [Bool.false_eq_true, ↓reduceIte] at hinv;subst hinv;try (simp)
   repeat (first|(refine sR ?_; simp)|(refine sC ?_; simp)|(refine sX ?_; simp only [AU, ↓reduceIte]))
   refine AL.weak (Weaks.frz (l':=[(9,I 0),(8,.d (ints o))]) (loc':=[]) 36 1 (rI o) (Nat.le_refl _) rfl (by simp [lk,rowsI_eq]) (by simp [lk]) (fun e he=>by obtain ⟨b,_,rfl⟩:=List.mem_map.1 he; rfl) (by simp [ToL,lk,lb_at,hol]) (by simp [BoxL])) ?_;refine sT (sH hbox htok ?_);simp [packA]
  | true =>
   simp only [↓reduceIte] at hinv;obtain ⟨F,hF,hrk⟩:=hinv;have hstep:=rk_step hF hrk;try (simp)
   repeat (first|(refine sR ?_; simp)|(refine sC ?_; simp)|(refine sX ?_; simp only [AU, ↓reduceIte]))
   refine sN ?_;refine AL.loopT (stRkI m o n nb box tok nt) (fun a=>a.i≤n∧RkInvI n m.next o a) (fun a=>n - a.i) ⟨false,0⟩ ⟨Nat.zero_le _,hI,by simp only [Bool.false_eq_true, ↓reduceIte]; rfl⟩ (Weaks.mk (Nat.le_refl _) rfl (by simp [ToL,lk,lb_at]) (by simp [BoxL,lk,rkP])) ?_;rintro ⟨c,i⟩ S ⟨hi,hinv⟩ hS;simp only [stRkI] at hS hi;subst hS;obtain ⟨hIc,hinv⟩:=hinv;simp only at hIc hinv;have hw:=sW (i:=i) (by omega);have hsucc:=rkP_succ m.next o i;obtain ⟨cur,hcur⟩:∃ cur,rkP m.next o i=cur:=⟨_,rfl⟩
   rw [hcur] at hsucc hIc hinv;rw [hcur];have hcl:=hIc.len;repeat (first|simp|refine sR ?_|refine sC ?_)
   refine ⟨fun hlt=>?_,fun hge=>?_⟩
   ·have hi1:i<cur.length:=by omega
    have hi3:i<m.next.length:=by omega
    have hgn:m.next.getD i []=m.next[i]:=by simp [hi3]
    have hg1:cur.getD i 0=cur[i]:=by simp [hi1]
    have hrR:=hm.nextR _ (List.getElem_mem hi3);have hrL:=hm.nextL _ (List.getElem_mem hi3);have hrN:=hne _ (List.getElem_mem hi3);unfold rkS at hsucc;rw [hgn,hg1] at hsucc;generalize hr:m.next[i]=r at *;by_cases c1:0≤cur[i]
    ·have b1:decide (0≤cur[i])=true:=by simpa using c1
     simp only [c1,true_or, ↓reduceIte] at hsucc;try (simp [hlt,hi1,hi3,c1,b1,hw])
     repeat (first|(refine sR ?_; simp [hlt,hi1,hi3,c1,b1,hw])|(refine sC ?_; simp [hlt,hi1,hi3,c1,b1,hw])|(refine sX ?_; simp only [AU, ↓reduceIte]))
     refine sE ?_;refine ⟨⟨c,i+1⟩,⟨hlt,by simp only; rw [hsucc]; exact hIc,?_⟩,by simp only; omega,Weaks.mk (Nat.le_refl _) rfl (by simp [ToL,lk,lb_at]) (by simp [BoxL,lk,hsucc])⟩;simp only;rw [hsucc];exact hinv
    ·have b1:decide (0≤cur[i])=false:=by simpa using c1
     simp only [c1,false_or] at hsucc;have hcf:=containsFunc_c r 97 [.ptr (nb+12) 0 0] (fun k=>decide (fAt cur k<0)) (by omega) (lb nb box [(36,rowsI cur),(12,[[.msl (nb+36) 0 n 1]]),(10,[m.row])]) (nb+103) tok nt (by simp [lb_at,lk]) (fun k hk box' nb' he=>rkc_c cur n hcl k (hrR k hk) (nb+12) (nb+36) nb' box' tok nt (he _ _ (by simp [lb_at,lk])) (he _ _ (by simp [lb_at,lk])));have hany:anyB (fun k:Int=>decide (fAt cur k<0)) r=r.any fun k=>decide (fAt cur k<0):=rfl
     rw [hany] at hcf;try (simp [hlt,hi1,hi3,c1,b1,hr])
     repeat (first|(refine sR ?_; simp [hlt,hi1,hi3,c1,b1,hr])|(refine sC ?_; simp [hlt,hi1,hi3,c1,b1,hr])|(refine sX ?_; simp only [AU, ↓reduceIte]))
     generalize hA:(r.any fun k=>decide (fAt cur k<0))=A at *;refine Stop.of_b (hcf) ?_;simp;cases A
     ·simp only [Bool.false_eq_true, ↓reduceIte] at hsucc;try (simp [hi3,hlt,hr])
      repeat (first|(refine sR ?_; simp [hi3,hlt,hr])|(refine sC ?_; simp [hi3,hlt,hr])|(refine sX ?_; simp only [AU, ↓reduceIte]))
      have hk0:∀ k∈r,0≤fAt cur k:=fun k hk=>by
       have:=List.any_eq_false.1 hA k hk
       simp at this;exact this
      have hneg:cur.getD i 0<0:=by rw [hg1]; omega
      have hrl:0<r.length:=List.length_pos_iff.2 hrN
      obtain ⟨E,hE⟩:∃ E,r.foldl (rankK i) cur=E:=⟨_,rfl⟩
      rw [hE] at hsucc;refine sN ?_;refine AL.loopT (stRkJ m r i c n nb box tok nt) (fun a=>a.j≤r.length∧RkJ n cur i a.o a.j∧(r.drop a.j).foldl (rankK i) a.o=E) (fun a=>r.length - a.j) ⟨0,cur⟩ ⟨Nat.zero_le _,rkJ_zero hIc hlt,hE⟩ wkA ?_;rintro ⟨j,o2⟩ S ⟨hj,hJ,hE2⟩ hS;simp only [stRkJ] at hS hj hJ hE2;subst hS;have hw2:=sW (i:=j) (by omega);repeat (first|simp|refine sR ?_|refine sC ?_)
      refine ⟨fun hlt2=>?_,fun hge2=>?_⟩
      ·have hxr:=hrR _ (List.getElem_mem hlt2);have hx0:=hk0 _ (List.getElem_mem hlt2);obtain ⟨hJ2,hfk⟩:=rkJ_step hIc hlt hneg hJ hxr hx0;obtain ⟨hx1,hx2⟩:=hxr;rw [List.drop_eq_getElem_cons hlt2,List.foldl_cons] at hE2;have hl2:=hJ.len;have hx3:r[j].toNat<o2.length:=by omega
       have hx4:i<o2.length:=by omega
       have hgk:fAt o2 r[j]=o2[r[j].toNat]:=by simp [fAt,hx3]
       have hgi:o2.getD i 0=o2[i]:=by simp [hx4]
       have hhi:=hIc.hi r[j].toNat (by omega);have hfc:fAt cur r[j]=cur.getD r[j].toNat 0:=rfl
       have hwk:IntKind.i64.wrap (o2[r[j].toNat]+1)=o2[r[j].toNat]+1:=wrap_in (by omega) (by omega)
       have hset:rankK i o2 r[j]=o2.set i (max o2[i] (o2[r[j].toNat]+1)):=by unfold rankK; rw [hgk,hgi]
       rw [hset] at hJ2 hE2;try (simp [hlt2,hlt,hx1,hx2,hx3,hx4,hwk,hw2])
       repeat (first|(refine sR ?_; simp [hlt2,hlt,hx1,hx2,hx3,hx4,hwk,hw2])|(refine sC ?_; simp [hlt2,hlt,hx1,hx2,hx3,hx4,hwk,hw2])|(refine sX ?_; simp only [AU, ↓reduceIte]))
       refine sE ?_;exact ⟨⟨j+1,o2.set i (max o2[i] (o2[r[j].toNat]+1))⟩,⟨hlt2,hJ2,hE2⟩,by simp only; omega,wkA⟩
      ·refine sX ?_;simp only [AU, ↓reduceIte];have:j=r.length:=by omega
       subst this;rw [List.drop_length,List.foldl_nil] at hE2;obtain ⟨hI2,hng⟩:=rkJ_end hIc hlt hneg hJ hrl;rw [hE2] at hI2 hng ⊢;try (simp [hw])
       repeat (first|(refine sR ?_; simp [hw])|(refine sC ?_; simp [hw])|(refine sX ?_; simp only [AU, ↓reduceIte]))
       refine sE ?_;refine ⟨⟨true,i+1⟩,⟨hlt,by simp only; rw [hsucc]; exact hI2,?_⟩,by simp only; omega,Weaks.mk (Nat.le_refl _) rfl (by simp [ToL,lk,lb_at]) (by simp [BoxL,lk,hsucc])⟩;simp only [↓reduceIte];rw [hsucc];cases c with
       | false=>simp only [Bool.false_eq_true, ↓reduceIte] at hinv; rw [hinv] at hng; omega
       | true=>simp only [↓reduceIte] at hinv; omega
     ·simp only [↓reduceIte] at hsucc;try (simp [hw])
      repeat (first|(refine sR ?_; simp [hw])|(refine sC ?_; simp [hw])|(refine sX ?_; simp only [AU, ↓reduceIte]))
      refine sE ?_;refine ⟨⟨c,i+1⟩,⟨hlt,by simp only; rw [hsucc]; exact hIc,?_⟩,by simp only; omega,Weaks.mk (Nat.le_refl _) rfl (by simp [ToL,lk,lb_at]) (by simp [BoxL,lk,hsucc])⟩;simp only;rw [hsucc];exact hinv
   ·refine sX ?_;simp only [AU, ↓reduceIte];have:i=n:=by omega
    subst this;rw [hol] at hstep;rw [hcur] at hstep;cases c with
    | false =>
     simp only [Bool.false_eq_true, ↓reduceIte] at hinv;subst hinv;rcases hstep with ⟨h1,h2⟩|⟨h1,h2⟩
     ·try (simp)
      repeat (first|(refine sR ?_; simp)|(refine sC ?_; simp)|(refine sX ?_; simp only [AU, ↓reduceIte]))
      refine sE ?_;refine ⟨⟨false,cur⟩,⟨hIc,?_⟩,by simp,wkA⟩;simp only [Bool.false_eq_true, ↓reduceIte];exact h2
     ·exact absurd rfl h1
    | true =>
     simp only [↓reduceIte] at hinv;rcases hstep with ⟨h1,h2⟩|⟨h1,h2⟩
     ·rw [h1] at hinv; omega
     ·try (simp)
      repeat (first|(refine sR ?_; simp)|(refine sC ?_; simp)|(refine sX ?_; simp only [AU, ↓reduceIte]))
      refine sE ?_;refine ⟨⟨true,cur⟩,⟨hIc,?_⟩,by simp; omega,wkA⟩;simp only [↓reduceIte];exact ⟨F - 1,by omega,h2⟩
def enumL (ok:List Int→Nat→Bool) (m:Nat):Nat→List Int→List (List Int)
 | 0,L=>[L]
 | r+1,L=>(List.range m).flatMap fun k=>if ok L k=true then enumL ok m r (L++[(k:Int)]) else []
theorem take_app {α:Type} (n:Nat) (a b:List α):((a.take n)++b).take n=(a++b).take n:=by
 by_cases h:a.length≤n
 ·rw [List.take_of_length_le h]
 ·rw [List.take_append_of_le_length (by simp; omega),List.take_append_of_le_length (by omega),List.take_take,Nat.min_self]
theorem fold_take {α β:Type} (most:Nat) (g:List β→α→List β) (f:α→List β):∀ (l:List α) (out:List β),(∀ x∈l,∀ out,out.length≤most→g out x=(out++f x).take most)→out.length≤most →
  l.foldl g out=(out++l.flatMap f).take most
 | [],out,_,h=>by simp [List.take_of_length_le h]
 | x::l,out,hg,h=>by
  rw [List.foldl_cons,hg x (by simp) out h,fold_take most g f l _ (fun y hy=>hg y (by simp [hy])) (by simp; omega),take_app,List.flatMap_cons,List.append_assoc]
theorem full_take {β:Type} {most:Nat} {out:List β} (h:out.length=most) (l:List β):(out++l).take most=out:=by
 rw [List.take_append_of_le_length (by omega),List.take_of_length_le (by omega)]
def fndE (most:Nat) (ok:List Int→Nat→Bool) (m:Nat) (N:List Int):Nat→List Int→List Mo→List Mo
 | 0,E,out=>if out.length=most then out else out++[⟨N,E⟩]
 | r+1,E,out=>if out.length=most then out else (List.range m).foldl (fun out k=>if ok E k=true then fndE most ok m N r (E++[(k:Int)]) out else out) out
theorem fndE_eq (most:Nat) (ok:List Int→Nat→Bool) (m:Nat) (N:List Int):∀ (r:Nat) (E:List Int) (out:List Mo),out.length≤most→fndE most ok m N r E out=(out++(enumL ok m r E).map (Mo.mk N)).take most
 | 0,E,out,h=>by
  unfold fndE;split
  ·rename_i e; rw [full_take e]
  ·rw [enumL,List.map_cons,List.map_nil,List.take_of_length_le (by simp; omega)]
 | r+1,E,out,h=>by
  unfold fndE;split
  ·rename_i e; rw [full_take e]
  ·rw [fold_take most _ (fun k=>if ok E k=true then (enumL ok m r (E++[(k:Int)])).map (Mo.mk N) else []) _ _ (fun k _ out ho=>by
    split
    ·exact fndE_eq most ok m N r _ out ho
    ·rw [List.append_nil,List.take_of_length_le ho]) h,enumL,List.map_flatMap]
   refine congrArg (fun f=>(out++List.flatMap f (List.range m)).take most) (funext fun k=>?_);split <;> simp
def fndN (most:Nat) (okN pos:List Int→Nat→Bool) (mn:Nat) (okE:List Int→List Int→Nat→Bool) (me re:Nat):Nat→List Int→List Mo→List Mo
 | 0,N,out=>fndE most (okE N) me N re [] out
 | r+1,N,out=>if out.length=most then out else (List.range mn).foldl (fun out k=>if okN N k=true then (if pos N k=true then fndN most okN pos mn okE me re r (N++[(k:Int)]) out else out) else out) out
def allF (okN:List Int→Nat→Bool) (mn:Nat) (okE:List Int→List Int→Nat→Bool) (me re:Nat) (r:Nat) (N:List Int):List Mo:=(enumL okN mn r N).flatMap fun N=>(enumL (okE N) me re []).map (Mo.mk N)
theorem allF_zero (okN:List Int→Nat→Bool) (mn:Nat) (okE:List Int→List Int→Nat→Bool) (me re:Nat) (N:List Int):allF okN mn okE me re 0 N=(enumL (okE N) me re []).map (Mo.mk N):=by simp [allF,enumL]
theorem allF_succ (okN:List Int→Nat→Bool) (mn:Nat) (okE:List Int→List Int→Nat→Bool) (me re:Nat) (r:Nat) (N:List Int) :
  allF okN mn okE me re (r+1) N=(List.range mn).flatMap fun k=>if okN N k=true then allF okN mn okE me re r (N++[(k:Int)]) else []:=by
 unfold allF;rw [enumL,List.flatMap_assoc];congr 1
 funext k
 split <;> simp
theorem fndN_eq (most:Nat) (okN pos:List Int→Nat→Bool) (mn:Nat) (okE:List Int→List Int→Nat→Bool) (me re:Nat) (P:List Int→Prop) (hP:∀ N k,P N→k<mn→okN N k=true→P (N++[(k:Int)]))
  (hpos:∀ r N k,P N→okN N k=true→pos N k=false→allF okN mn okE me re r (N++[(k:Int)])=[]):∀ (r:Nat) (N:List Int) (out:List Mo),P N→out.length≤most →
  fndN most okN pos mn okE me re r N out=(out++allF okN mn okE me re r N).take most
 | 0,N,out,hN,h=>by rw [fndN,fndE_eq _ _ _ _ _ _ _ h,allF_zero]
 | r+1,N,out,hN,h=>by
  rw [fndN,allF_succ];split
  ·rename_i e; rw [full_take e]
  ·refine fold_take most _ _ _ _ (fun k hk out ho=>?_) h;have hk:=List.mem_range.1 hk;cases e:okN N k
   ·simp [List.take_of_length_le ho]
   ·simp only [if_true];cases e2:pos N k
    ·simp only [Bool.false_eq_true,if_false];rw [hpos r N k hN e e2,List.append_nil,List.take_of_length_le ho]
    ·simp only [if_true];exact fndN_eq most okN pos mn okE me re P hP hpos r _ out (hP N k hN hk e) ho
theorem fndE_len {most:Nat} {ok:List Int→Nat→Bool} {m:Nat} {N:List Int} {r:Nat} {E:List Int} {out:List Mo} (h:out.length≤most):(fndE most ok m N r E out).length≤most:=by
 rw [fndE_eq _ _ _ _ _ _ _ h]; simp; omega
theorem enumL_mem {ok:List Int→Nat→Bool} {m:Nat}:∀ {r:Nat} {L x:List Int},x∈enumL ok m r L↔∃ T:List Nat,T.length=r∧(∀ k∈T,k<m)∧x=L++T.map (fun (k:Nat)=>(k:Int))∧∀ i (h:i<T.length),ok (L++(T.take i).map (fun (k:Nat)=>(k:Int))) T[i]=true
 | 0,L,x=>by
  rw [enumL,List.mem_singleton];constructor
  ·rintro rfl; exact ⟨[],rfl,by simp,by simp,fun i h=>by simp at h⟩
  ·rintro ⟨T,h1,_,h2,_⟩;have:T=[]:=List.eq_nil_of_length_eq_zero h1
   subst this;simpa using h2
 | r+1,L,x=>by
  rw [enumL,List.mem_flatMap];constructor
  ·rintro ⟨k,hk,hx⟩;split at hx
   ·rename_i hok;obtain ⟨T,h1,h2,rfl,h4⟩:=enumL_mem.1 hx;refine ⟨k::T,by simp [h1],fun q hq=>?_,by simp,fun i hi=>?_⟩
    ·rcases List.mem_cons.1 hq with rfl|hq
     ·exact List.mem_range.1 hk
     ·exact h2 q hq
    ·cases i with
     | zero=>simpa using hok
     | succ i =>
      have:=h4 i (by simpa using hi)
      simpa using this
   ·simp at hx
  ·rintro ⟨T,h1,h2,rfl,h4⟩;cases T with
   | nil=>simp at h1
   | cons k T =>
    refine ⟨k,List.mem_range.2 (h2 k (by simp)),?_⟩;have h0:=h4 0 (by simp);simp only [List.take_zero,List.map_nil,List.append_nil,List.getElem_cons_zero] at h0;rw [if_pos h0];refine enumL_mem.2 ⟨T,by simpa using h1,fun q hq=>h2 q (by simp [hq]),by simp,fun i hi=>?_⟩;have:=h4 (i+1) (by simpa using hi)
    simpa using this
structure Sr where
 t:Ty
 p:Gr
 g:Gr
 pt:Mo
 inj:Bool
 most:Nat
abbrev Sr.row (s:Sr) (out:List Mo) (own:Own):List AV:=[.d (nts s.t.nodes),.d (ets s.t.edges),.d (ints s.p.nodes),.d (AM.edges s.p.edges),.d (ints s.g.nodes),.d (AM.edges s.g.edges),.d (ints s.pt.nodes),.d (ints s.pt.edges),B s.inj,I s.most,.osl 2 (out.map fun m=>[ints m.nodes,ints m.edges]) own]
structure Sr.Ok (s:Sr):Prop where
 t:s.t.Fit
 tp:∀ j,j<s.t.nodes.length→(s.t.nd j).par<j
 p:s.p.Fit
 g:s.g.Fit
 m:s.most≤1000000
 vp:∀ e∈s.p.edges,0≤e.fr∧e.fr<s.p.nodes.length∧0≤e.to∧e.to<s.p.nodes.length
 pn:s.pt.nodes.length=s.p.nodes.length
 pe:s.pt.edges.length=s.p.edges.length
 np:∀ n∈s.p.nodes,0≤n∧n<s.t.nodes.length
 ng:∀ n∈s.g.nodes,0≤n∧n<s.t.nodes.length
def gvB (l:List Int) (i k:Nat):Bool:=if 0≤l.getD i 0 then decide (l.getD i 0=(k:Int)) else true
def usB (inj:Bool) (L:List Int) (k:Nat):Bool:=if inj=true then decide ((k:Int)∈L) else false
def Sr.okE (s:Sr) (N E:List Int) (k:Nat):Bool :=
 if gvB s.pt.edges E.length k=true then (if usB s.inj E k=true then false else decide (s.g.edges.getD k default=wantX s.p N E.length)) else false
def Sr.okN (s:Sr) (N:List Int) (k:Nat):Bool :=
 if gvB s.pt.nodes N.length k=true then (if usB s.inj N k=true then false else isB s.t (s.g.nodes.getD k 0) (s.p.nodes.getD N.length 0)) else false
def Sr.eqE (s:Sr) (N:List Int) (i k:Nat):Bool:=decide (s.g.edges.getD k default=wantX s.p N i)
def Sr.anE (s:Sr) (N:List Int) (i k:Nat):Bool:=(List.range k).any (s.eqE N i)
def Sr.fitE (s:Sr) (N:List Int) (i:Nat):Bool :=
 if (N.length:Int)≤(s.p.edges.getD i default).fr then true else if (N.length:Int)≤(s.p.edges.getD i default).to then true else s.anE N i s.g.edges.length
def Sr.fit (s:Sr) (N:List Int):Bool:=(List.range s.p.edges.length).all (s.fitE N)
theorem Sr.fit_true {s:Sr} {N:List Int} (h:∀ i,i<s.p.edges.length→s.fitE N i=true):s.fit N=true:=by
 unfold Sr.fit;rw [List.all_eq_true];exact fun i hi=>h i (List.mem_range.1 hi)
def Sr.fnR (s:Sr):Nat→List Int→List Mo→List Mo
 | 0,N,out=>if out.length=s.most+1 then out else if s.fit N=true then fndE (s.most+1) (s.okE N) s.g.edges.length N s.p.edges.length [] out else out
 | r+1,N,out=>if out.length=s.most+1 then out else if s.fit N=true then (List.range s.g.nodes.length).foldl (fun out k=>if s.okN N k=true then s.fnR r (N++[(k:Int)]) out else out) out else out
abbrev Sr.fnN (s:Sr):Nat→List Int→List Mo→List Mo:=fndN (s.most+1) s.okN (fun N k=>s.fit (N++[(k:Int)])) s.g.nodes.length s.okE s.g.edges.length s.p.edges.length
theorem Sr.fnR_eq (s:Sr):∀ (r:Nat) (N:List Int) (out:List Mo),s.fnR r N out=if s.fit N=true then s.fnN r N out else out
 | 0,N,out=>by
  unfold Sr.fnR Sr.fnN fndN;by_cases h:out.length=s.most+1
  ·rw [if_pos h];cases s.p.edges.length <;> simp [fndE,h]
  ·rw [if_neg h]
 | r+1,N,out=>by
  unfold Sr.fnR Sr.fnN fndN;by_cases h:out.length=s.most+1
  ·rw [if_pos h,if_pos h]; simp
  ·rw [if_neg h,if_neg h];have e:(fun (out:List Mo) (k:Nat)=>if s.okN N k=true then s.fnR r (N++[(k:Int)]) out else out)=fun out k=>if s.okN N k=true then (if s.fit (N++[(k:Int)])=true then s.fnN r (N++[(k:Int)]) out else out) else out:=by
    funext out k
    rw [Sr.fnR_eq s r]
   rw [e]
variable {P:Program} {wr:Bool}
def typN (t:Ty) (n:Int):Bool:=decide (0≤n∧n<t.nodes.length)
def typX (t:Ty) (e:E):Bool:=decide (0≤e.ty∧e.ty<t.edges.length)
def typG (t:Ty) (g:Gr):Bool:=g.nodes.all (typN t)&&g.edges.all (typX t)
def opM (p:Gr):Mo:=⟨List.replicate p.nodes.length (-1),List.replicate p.edges.length (-1)⟩
abbrev mosR (l:List Mo):List (List D):=l.map fun m=>[ints m.nodes,ints m.edges]
def givS (t:Ty) (p g:Gr):Int:=if tyE t≠0 then tyE t else if validG p≠0 then validG p else if validG g≠0 then validG g else if typG t p=false then 13 else if typG t g=false then 13 else 0
def allSr (t:Ty) (p g:Gr) (inj:Bool):Sr:=⟨t,p,g,opM p,inj,5000⟩
def allL (t:Ty) (p g:Gr) (inj:Bool):List Mo:=(allSr t p g inj).fnR p.nodes.length [] []
def allS (t:Ty) (p g:Gr) (inj:Bool):List Mo × Int:=if givS t p g≠0 then ([],givS t p g) else if 5000<(allL t p g inj).length then ([],3) else (allL t p g inj,0)
theorem typG_nodes {t:Ty} {g:Gr} (h:typG t g=true):∀ n∈g.nodes,0≤n∧n<t.nodes.length:=by
 unfold typG at h;rw [Bool.and_eq_true] at h;intro n hn;have:=List.all_eq_true.1 h.1 n hn
 simpa [typN] using this
theorem givS_zero {t:Ty} {p g:Gr} (h:givS t p g=0):tyE t=0∧validG p=0∧validG g=0∧typG t p=true∧typG t g=true:=by
 unfold givS at h;split at h
 ·contradiction
 ·split at h
  ·contradiction
  ·split at h
   ·contradiction
   ·split at h
    ·simp at h
    ·split at h
     ·simp at h
     ·rename_i a b c d e;exact ⟨by simpa using a,by simpa using b,by simpa using c,by simpa using d,by simpa using e⟩
theorem allSr_ok {t:Ty} {p g:Gr} {inj:Bool} (ht:t.Fit) (hp:p.Fit) (hg:g.Fit) (h:givS t p g=0):(allSr t p g inj).Ok:=by
 obtain ⟨h1,h2,h3,h4,h5⟩:=givS_zero h;exact ⟨ht,tyE_par h1,hp,hg,by simp [allSr],validG_edges h2,by simp [allSr,opM],by simp [allSr,opM],typG_nodes h4,typG_nodes h5⟩
theorem wantX_app {p:Gr} {N M:List Int} {i:Nat} (h1:(p.edges.getD i default).fr.toNat<N.length) (h2:(p.edges.getD i default).to.toNat<N.length):wantX p (N++M) i=wantX p N i:=by
 unfold wantX;generalize p.edges.getD i default=e at *;rw [List.getD_eq_getElem?_getD,List.getD_eq_getElem?_getD,List.getD_eq_getElem?_getD,List.getD_eq_getElem?_getD,List.getElem?_append_left h1,List.getElem?_append_left h2]
theorem Sr.fit_dead {s:Sr} (h:s.Ok) {N:List Int} (hf:s.fit N=false) (r:Nat):allF s.okN s.g.nodes.length s.okE s.g.edges.length s.p.edges.length r N=[]:=by
 rw [List.eq_nil_iff_forall_not_mem];intro m hm;unfold allF at hm;obtain ⟨N',hN',hm⟩:=List.mem_flatMap.1 hm;obtain ⟨es,hes,rfl⟩:=List.mem_map.1 hm;obtain ⟨T,t1,t2,rfl,t4⟩:=enumL_mem.1 hN';obtain ⟨U,u1,u2,rfl,u4⟩:=enumL_mem.1 hes;unfold Sr.fit at hf;obtain ⟨i,hi,hfi⟩:=List.all_eq_false.1 hf;have hi:=List.mem_range.1 hi;have hfi:s.fitE N i=false:=by simpa using hfi
 unfold Sr.fitE at hfi;have hgd:s.p.edges.getD i default=s.p.edges[i]:=by simp [hi]
 obtain ⟨x1,x2,x3,x4⟩:=h.vp _ (List.getElem_mem hi);split at hfi
 ·cases hfi
 ·split at hfi
  ·cases hfi
  ·rename_i a b;rw [hgd] at a b;have hiU:i<U.length:=by omega
   have hu:=u4 i hiU;have hk:=u2 _ (List.getElem_mem hiU);unfold Sr.anE at hfi;have hno:=List.any_eq_false.1 hfi U[i] (List.mem_range.2 hk);unfold Sr.eqE at hno;unfold Sr.okE at hu;split at hu
   ·split at hu
    ·cases hu
    ·have hl:(([]:List Int)++(U.take i).map (fun (k:Nat)=>(k:Int))).length=i:=by simp; omega
     rw [hl,wantX_app (by rw [hgd]; omega) (by rw [hgd]; omega)] at hu;exact hno hu
   ·cases hu
theorem Sr.fit_nil {s:Sr} (h:s.Ok):s.fit []=true:=by
 refine Sr.fit_true fun i hi=>?_
 have hgd:s.p.edges.getD i default=s.p.edges[i]:=by simp [hi]
 obtain ⟨x1,x2,x3,x4⟩:=h.vp _ (List.getElem_mem hi);unfold Sr.fitE;rw [if_pos (by rw [hgd]; simpa using x1)]
theorem Sr.fnR_all {s:Sr} (h:s.Ok):s.fnR s.p.nodes.length [] []=(allF s.okN s.g.nodes.length s.okE s.g.edges.length s.p.edges.length s.p.nodes.length []).take (s.most+1):=by
 rw [Sr.fnR_eq,if_pos (Sr.fit_nil h)];have:=fndN_eq (s.most+1) s.okN (fun N k=>s.fit (N++[(k:Int)])) s.g.nodes.length s.okE s.g.edges.length s.p.edges.length (fun _=>True) (fun _ _ _ _ _=>trivial) (fun r N k _ _ hp=>Sr.fit_dead h hp r) s.p.nodes.length [] [] trivial (by simp)
 simpa using this
def Sr.fitK (s:Sr) (N:List Int) (i k:Nat):Bool:=if gvB s.pt.edges i k=true then decide (s.g.edges.getD k default=wantX s.p N i) else false
def Sr.posE (s:Sr) (N:List Int) (i:Nat):Bool :=
 if max (s.p.edges.getD i default).fr (s.p.edges.getD i default).to=(N.length:Int) - 1 then (List.range s.g.edges.length).any (s.fitK N i) else true
def Sr.pos (s:Sr) (N:List Int):Bool:=(List.range s.p.edges.length).all (s.posE N)
theorem Sr.pos_false {s:Sr} {N:List Int} {i:Nat} (hi:i<s.p.edges.length) (h:s.posE N i=false):s.pos N=false:=by
 unfold Sr.pos;rw [List.all_eq_false];exact ⟨i,List.mem_range.2 hi,by simp [h]⟩
theorem Sr.pos_true {s:Sr} {N:List Int} (h:∀ i,i<s.p.edges.length→s.posE N i=true):s.pos N=true:=by
 unfold Sr.pos;rw [List.all_eq_true];exact fun i hi=>h i (List.mem_range.1 hi)
theorem Sr.okE_eq (s:Sr) (N E:List Int) (k:Nat):s.okE N E k=(s.fitK N E.length k&&!usB s.inj E k):=by
 unfold Sr.okE Sr.fitK;cases gvB s.pt.edges E.length k <;> cases usB s.inj E k <;> simp
theorem Sr.pos_dead {s:Sr} (h:s.Ok) {N:List Int} (hf:s.pos N=false) (r:Nat):allF s.okN s.g.nodes.length s.okE s.g.edges.length s.p.edges.length r N=[]:=by
 rw [List.eq_nil_iff_forall_not_mem];intro m hm;unfold allF at hm;obtain ⟨N',hN',hm⟩:=List.mem_flatMap.1 hm;obtain ⟨es,hes,rfl⟩:=List.mem_map.1 hm;obtain ⟨T,t1,t2,rfl,t4⟩:=enumL_mem.1 hN';obtain ⟨U,u1,u2,rfl,u4⟩:=enumL_mem.1 hes;unfold Sr.pos at hf;obtain ⟨i,hi,hfi⟩:=List.all_eq_false.1 hf;have hi:=List.mem_range.1 hi;have hfi:s.posE N i=false:=by simpa using hfi
 unfold Sr.posE at hfi;have hgd:s.p.edges.getD i default=s.p.edges[i]:=by simp [hi]
 obtain ⟨x1,x2,x3,x4⟩:=h.vp _ (List.getElem_mem hi);split at hfi
 ·rename_i hmx;rw [hgd] at hmx;have hiU:i<U.length:=by omega
  have hu:=u4 i hiU;have hk:=u2 _ (List.getElem_mem hiU);have hno:=List.any_eq_false.1 hfi U[i] (List.mem_range.2 hk);have hl:(([]:List Int)++(U.take i).map (fun (k:Nat)=>(k:Int))).length=i:=by simp; omega
  rw [Sr.okE_eq,hl] at hu;have hu:=(Bool.and_eq_true_iff.1 hu).1;unfold Sr.fitK at hu hno;rw [wantX_app (by rw [hgd]; omega) (by rw [hgd]; omega)] at hu;exact hno hu
 ·cases hfi
abbrev Sr.fnP (s:Sr) (fm:Nat):Nat→List Int→List Mo→List Mo:=fndN fm s.okN (fun N k=>s.pos (N++[(k:Int)])) s.g.nodes.length s.okE s.g.edges.length s.p.edges.length
theorem Sr.fnP_eq {s:Sr} (h:s.Ok) (fm r:Nat) (N:List Int) (out:List Mo) (ho:out.length≤fm):s.fnP fm r N out=(out++allF s.okN s.g.nodes.length s.okE s.g.edges.length s.p.edges.length r N).take fm :=
 fndN_eq fm s.okN (fun N k=>s.pos (N++[(k:Int)])) s.g.nodes.length s.okE s.g.edges.length s.p.edges.length (fun _=>True) (fun _ _ _ _ _=>trivial) (fun r N k _ _ hp=>Sr.pos_dead h hp r) r N out trivial ho
theorem Sr.fnP_len {s:Sr} (h:s.Ok) {fm r:Nat} {N:List Int} {out:List Mo} (ho:out.length≤fm):(s.fnP fm r N out).length≤fm:=by
 rw [Sr.fnP_eq h _ _ _ _ ho]; simp; omega
theorem Sr.fnP_fnR {s:Sr} (h:s.Ok):s.fnP (s.most+1) s.p.nodes.length [] []=s.fnR s.p.nodes.length [] []:=by
 rw [Sr.fnR_all h,Sr.fnP_eq h _ _ _ _ (by simp)];simp
def belK (t:Ty) (a:Int) (i:Nat):List Int:=((List.range i).filter fun (b:Nat)=>isB t (b:Int) a).map fun (b:Nat)=>(b:Int)
theorem belK_zero (t:Ty) (a:Int):belK t a 0=[]:=rfl
theorem belK_succ (t:Ty) (a:Int) (i:Nat):belK t a (i+1)=if isB t i a=true then belK t a i++[(i:Int)] else belK t a i:=by
 unfold belK;rw [List.range_succ,List.filter_append,List.map_append];by_cases h:isB t i a=true <;> simp [h]
theorem belK_len (t:Ty) (a:Int) (i:Nat):(belK t a i).length≤i:=by
 unfold belK;rw [List.length_map];exact Nat.le_trans (List.length_filter_le _ _) (by simp)
theorem leafK1_c (x:NT) (y:Int) (box:Bxs) (nb k:Nat) (tok:Tks) (nt:Nat) (h1:box k=some [[I y]]) :
  ACalls Tryz.prog 170 [x.av,.ptr k 0 0] ⟨box,nb,tok,nt⟩ fun v m=>v=B (x.par==y)∧m=⟨box,nb,tok,nt⟩:=by
 refine sI Tryz.func170 Tryz.ntmps170 fun hbox htok=>?_
 have k1n:=key_lt hbox h1;repeat (first|simp [lb_out k1n,h1]|refine sR ?_)
 refine sT (sH hbox htok ?_);simp [packA]
theorem leafK_c (t:Ty) (ht:t.nodes.length≤1000000) (k:Int) (tok:Tks) (nt:Nat):DCall Tryz.prog 101 [t.av,I k] tok nt (B (leafB t k)) tok nt:=by
 intro box nb;obtain ⟨p,hpp⟩:∃ p:NT→Bool,(fun n=>n.par==k)=p:=⟨_,rfl⟩
 have h2:=fun y box nb q hbk=>leafK1_c y k box nb q tok nt hbk
 have hpy:∀ y:NT,(y.par==k)=p y:=fun y=>by rw [←hpp]
 simp only [hpy] at h2;unfold leafB;rw [hpp];refine sI Tryz.func101 Tryz.ntmps101 fun hbox htok=>?_
 repeat (first|simp|refine sR ?_)
 refine Stop.of_b (containsFuncN_c t.nodes 170 [.ptr (nb+3) 0 0] p ht _ _ _ _ (fun c hc=>by rw [List.mem_singleton.1 hc]; simp [lb_at]) (fun y hy box' nb' he=>h2 y box' nb' _ (he _ _ (by simp [lb_at])))) ?_;repeat (first|simp|refine sR ?_)
 refine sT (sH hbox htok ?_);simp [packA]
theorem leavesK1_c (t:Ty) (ht:t.Fit) (g:Gr) (e:E) (h0:0≤e.fr∧e.fr<g.nodes.length) (h2:0≤e.to∧e.to<g.nodes.length) (box:Bxs) (nb k1 k2:Nat) (tok:Tks) (nt:Nat) (h1:box k1=some [[.d (nts t.nodes),.d (ets t.edges)]]) (h3:box k2=some [[.d (ints g.nodes),.d (AM.edges g.edges)]]) :
  ACalls Tryz.prog 136 [.agg [I e.ty,I e.fr,I e.to],.ptr k1 0 0,.ptr k2 0 0] ⟨box,nb,tok,nt⟩ fun v m=>v=B (!lvE t g e)∧m=⟨box,nb,tok,nt⟩:=by
 obtain ⟨ty,fr,to'⟩:=e;simp only at h0 h2;obtain ⟨a,rfl⟩:=Int.eq_ofNat_of_zero_le h0.1;obtain ⟨b,rfl⟩:=Int.eq_ofNat_of_zero_le h2.1;have ha:a<g.nodes.length:=by omega
 have hb:b<g.nodes.length:=by omega
 have hc:=fits_c4 t ht ty g.nodes[a] g.nodes[b];have hL:lvE t g ⟨ty,a,b⟩=fitB t ty g.nodes[a] g.nodes[b]:=by simp [lvE,ha,hb]
 rw [hL];generalize fitB t ty g.nodes[a] g.nodes[b]=R at *;refine sI Tryz.func136 Tryz.ntmps136 fun hbox htok=>?_
 have k1n:=key_lt hbox h1;have k2n:=key_lt hbox h3;repeat (first|simp [lb_out k1n,lb_out k2n,h1,h3,ha,hb]|refine sR ?_)
 refine Stop.of_d (hc _ _) ?_;repeat (first|simp|refine sR ?_)
 refine sT (sH hbox htok ?_);simp [packA]
def stKv (t:Ty) (g:Gr) (nb:Nat) (box:Bxs) (tok:Tks) (nt:Nat) (i:Nat):AState :=
 ⟨tl [(10,I i),(9,I g.nodes.length),(8,.d (ints g.nodes)),(3,.ptr (nb+3) 0 0),(2,.ptr (nb+2) 0 0)],lb nb box [(3,[[.d (ints g.nodes),.d (AM.edges g.edges)]]),(2,[[.d (nts t.nodes),.d (ets t.edges)]])],tok,nt⟩
theorem leavesK_c (t:Ty) (ht:t.Fit) (g:Gr) (hg:g.Fit) (hv:∀ e∈g.edges,0≤e.fr∧e.fr<g.nodes.length∧0≤e.to∧e.to<g.nodes.length) (tok:Tks) (nt:Nat):DCall Tryz.prog 67 [t.av,g.av] tok nt (B (lvsB t g)) tok nt:=by
 intro box nb;have hgn:=hg.n;have hge:=hg.e;have htn:=ht.n;obtain ⟨N,hN⟩:∃ N,lvsB t g=N:=⟨_,rfl⟩
 rw [hN];unfold lvsB at hN;refine sI Tryz.func67 Tryz.ntmps67 fun hbox htok=>?_
 repeat (first|simp|refine sR ?_)
 refine sN ?_;refine AL.loopT (stKv t g nb box tok nt) (fun i=>i≤g.nodes.length∧allP (lvN t) (g.nodes.take i)=true) (fun i=>g.nodes.length - i) 0 ⟨Nat.zero_le _,by simp [allP]⟩ wkA ?_;rintro i S' ⟨hi,hok⟩ hS;simp only [stKv] at hS;subst hS;have hw:=sW (i:=i) (by omega);repeat (first|simp|refine sR ?_|refine sC ?_)
 refine ⟨fun hlt=>?_,fun hge=>?_⟩
 ·have hno:=fun h=>all_no (p:=lvN t) hlt h
  have hyes:=fun h=>all_more (p:=lvN t) hlt hok h
  have hl:lvN t g.nodes[i]=if (t.nodes.length:Int)≤g.nodes[i] then false else leafB t g.nodes[i]:=rfl
  have hc:=leafK_c t (by omega) g.nodes[i];by_cases e1:(t.nodes.length:Int)≤g.nodes[i]
  ·rw [if_pos e1] at hl;rw [hno hl,if_neg (by simp)] at hN;repeat (first|simp [hlt,e1]|refine sR ?_)
   refine sC ?_;simp [e1];repeat (first|simp|refine sR ?_)
   refine sT (sH hbox htok ?_);simp [packA,←hN]
  ·rw [if_neg e1] at hl;repeat (first|simp [hlt,e1]|refine sR ?_)
   refine Stop.of_d (hc _ _) ?_;simp;cases e2:leafB t g.nodes[i]
   ·rw [e2] at hl;rw [hno hl,if_neg (by simp)] at hN;repeat (first|simp|refine sR ?_)
    refine sC ?_;repeat (first|simp|refine sR ?_)
    refine sT (sH hbox htok ?_);simp [packA,←hN]
   ·rw [e2] at hl;repeat (first|simp [hw]|refine sR ?_|refine sC ?_)
    refine sE ?_;exact ⟨i+1,⟨hlt,hyes hl⟩,by omega,wkA⟩
 ·refine sX ?_;simp only [AU, ↓reduceIte];have:i=g.nodes.length:=by omega
  subst this;rw [List.take_length] at hok;rw [if_pos hok] at hN;obtain ⟨p,hpp⟩:∃ p:E→Bool,(fun e=>!lvE t g e)=p:=⟨_,rfl⟩
  have h2:=fun y (hy:y∈g.edges) box nb k1 k2 hk1 hk2=>leavesK1_c t ht g y ⟨(hv y hy).1,(hv y hy).2.1⟩ ⟨(hv y hy).2.2.1,(hv y hy).2.2.2⟩ box nb k1 k2 tok nt hk1 hk2
  have hpy:∀ y:E,(!lvE t g y)=p y:=fun y=>by rw [←hpp]
  simp only [hpy] at h2;have hN2:(!anyB p g.edges)=N:=by
   rw [←hN,←hpp,allP,anyB,List.any_eq_not_all_not,Bool.not_not];simp
  repeat (first|simp|refine sR ?_)
  have hcap:∀ c∈[AV.ptr (nb+2) 0 0,AV.ptr (nb+3) 0 0],OkIn (fun k=>(lb nb box [(3,[[.d (ints g.nodes),.d (AM.edges g.edges)]]),(2,[[.d (nts t.nodes),.d (ets t.edges)]])]) k≠none) (fun _=>True) c:=by
   intro c hc;simp only [List.mem_cons,List.not_mem_nil,or_false] at hc;rcases hc with h|h
   ·rw [h]; simp [lb_at]
   ·rw [h]; simp [lb_at]
  refine Stop.of_b (containsFuncE_c g.edges 136 [.ptr (nb+2) 0 0,.ptr (nb+3) 0 0] p hg.e _ _ _ _ hcap (fun y hy box' nb' he=>h2 y hy box' nb' _ _ (he _ _ (by simp [lb_at])) (he _ _ (by simp [lb_at])))) ?_;repeat (first|simp|refine sR ?_)
  refine sT (sH hbox htok ?_);simp [packA,←hN2]
def stIX (xs:List Xt) (f:FuncId) (caps:List AV) (nb:Nat) (box:Bxs) (tok:Tks) (nt:Nat) (i:Nat):AState:=⟨tl [(0,.d (xts xs)),(1,.fn (.func f) caps),(7,I xs.length),(8,I i)],lb nb box [],tok,nt⟩
theorem indexFuncX_c (xs:List Xt) (f:FuncId) (caps:List AV) (p:Xt→Bool) (hx:xs.length≤1000000) (box:Bxs) (nb:Nat) (tok:Tks) (nt:Nat) (hc:∀ c∈caps,OkIn (fun k=>box k≠none) (fun _=>True) c)
  (hf:∀ x∈xs,∀ box' nb',Ext box box'→ACalls Tryz.prog f (x.av::caps) ⟨box',nb',tok,nt⟩ fun v m=>v=B (p x)∧m=⟨box',nb',tok,nt⟩) :
  ACalls Tryz.prog 138 [.d (xts xs),.fn (.func f) caps] ⟨box,nb,tok,nt⟩ fun v m=>v=I (if anyB p xs=true then (xs.findIdx p:Nat) else -1)∧m=⟨box,nb,tok,nt⟩:=by
 refine sI Tryz.func138 Tryz.ntmps138 fun hbox htok=>?_
 repeat (first|simp|refine sR ?_)
 refine sN ?_;refine AL.loopT (stIX xs f caps nb box tok nt) (fun i=>i≤xs.length∧∀ x∈xs.take i,p x=false) (fun i=>xs.length - i) 0 ⟨Nat.zero_le _,by simp⟩ (Weaks.mk (Nat.le_refl _) rfl (by simp [ToL]; exact .same (okFn hc hbox [] (by simp) rfl _)) trivial) ?_;rintro i S' ⟨hi,htk⟩ hS;simp only [stIX] at hS;subst hS;have hw:=sW (i:=i) (by omega);repeat (first|simp|refine sR ?_|refine sC ?_)
 refine ⟨fun hlt=>?_,fun hge=>?_⟩
 ·have hfx:=hf xs[i] (List.getElem_mem _);have hpx:p xs[i]=true→anyB p xs=true∧(xs.findIdx p=i):=fun he=>any_takeG hlt htk he
  have hmore:p xs[i]=false→∀ x∈xs.take (i+1),p x=false:=fun he x hx=>by
   rw [List.take_succ_eq_append_getElem hlt] at hx;rcases List.mem_append.1 hx with hx|hx
   ·exact htk x hx
   ·simp at hx; rw [hx]; exact he
  repeat (first|simp [hlt]|refine sR ?_)
  generalize xs[i]=x at *;refine Stop.of_b (hfx _ _ ((Ext.refl box).lb hbox [])) ?_;simp;cases he:p x
  ·refine sC ?_;simp;repeat (first|simp [hw]|refine sR ?_)
   refine sE ?_;refine ⟨i+1,⟨hlt,?_⟩,by omega,Weaks.mk (Nat.le_refl _) rfl (by simp [ToL]; exact .same (okFn hc hbox [] (by simp) rfl _)) trivial⟩;exact hmore he
  ·obtain ⟨h1,h2⟩:=hpx he;refine sC ?_;repeat (first|simp|refine sR ?_)
   refine sT (sH hbox htok ?_);simp [packA,h1,h2]
 ·have hn:anyB p xs=false:=by
   rw [List.take_of_length_le hge] at htk;simpa [anyB] using htk
  refine sX ?_;simp only [AU, ↓reduceIte];repeat (first|simp|refine sR ?_)
  refine sT (sH hbox htok ?_);simp [packA,hn]
theorem containsFuncX_c (xs:List Xt) (f:FuncId) (caps:List AV) (p:Xt→Bool) (hx:xs.length≤1000000) (box:Bxs) (nb:Nat) (tok:Tks) (nt:Nat) (hc:∀ c∈caps,OkIn (fun k=>box k≠none) (fun _=>True) c)
  (hf:∀ x∈xs,∀ box' nb',Ext box box'→ACalls Tryz.prog f (x.av::caps) ⟨box',nb',tok,nt⟩ fun v m=>v=B (p x)∧m=⟨box',nb',tok,nt⟩) :
  ACalls Tryz.prog 68 [.d (xts xs),.fn (.func f) caps] ⟨box,nb,tok,nt⟩ fun v m=>v=B (anyB p xs)∧m=⟨box,nb,tok,nt⟩:=by
 obtain ⟨A,hany⟩:∃ A,anyB p xs=A:=⟨_,rfl⟩
 have hi:=fun b nb' h1 h2=>indexFuncX_c xs f caps p hx b nb' tok nt h1 h2
 rw [hany];simp only [hany] at hi;refine sI Tryz.func68 Tryz.ntmps68 fun hbox htok=>?_
 repeat (first|simp|refine sR ?_)
 refine Stop.of_b (hi (lb nb box []) _ (fun c h=>(hc c h).mono (fun k hk=>by rw [hbox]; exact hk) fun _ h=>h) (fun x hx' box' nb' he=>hf x hx' box' nb' (by rw [hbox] at he; exact he))) ?_;simp;cases A
 ·repeat (first|simp|refine sR ?_)
  refine sT (sH hbox htok ?_);simp [packA]
 ·have h0:(0:Int)≤(xs.findIdx p:Nat):=by omega
  repeat (first|simp|refine sR ?_)
  refine sT (sH hbox htok ?_);simp [packA,h0]
theorem lrgK_c (g:Gr) (hg:g.Fit) (tok:Tks) (nt:Nat):DCall Tryz.prog 123 [g.av] tok nt (B (lrgB g)) tok nt:=by
 intro box nb;have hn:=hg.n;have he:=hg.e;obtain ⟨N,hN⟩:∃ N,lrgB g=N:=⟨_,rfl⟩
 rw [hN];unfold lrgB at hN;by_cases e1:6<g.nodes.length
 ·have e1':(6:Int)<g.nodes.length:=by omega
  rw [if_pos e1] at hN;refine sI Tryz.func123 Tryz.ntmps123 fun hbox htok=>?_
  try (simp [e1,e1'])
  repeat (first|(refine sR ?_; simp [e1,e1'])|(refine sC ?_; simp [e1,e1'])|(refine sX ?_; simp only [AU, ↓reduceIte]))
  refine sT (sH hbox htok ?_);simp [packA,←hN]
 ·have e1':¬ (6:Int)<g.nodes.length:=by omega
  rw [if_neg e1] at hN;by_cases e2:8<g.edges.length
  ·have e2':(8:Int)<g.edges.length:=by omega
   rw [decide_eq_true e2] at hN;refine sI Tryz.func123 Tryz.ntmps123 fun hbox htok=>?_
   try (simp [e1,e1',e2,e2'])
   repeat (first|(refine sR ?_; simp [e1,e1',e2,e2'])|(refine sC ?_; simp [e1,e1',e2,e2'])|(refine sX ?_; simp only [AU, ↓reduceIte]))
   refine sT (sH hbox htok ?_);simp [packA,←hN,e2']
  ·have e2':¬ (8:Int)<g.edges.length:=by omega
   rw [decide_eq_false e2] at hN;refine sI Tryz.func123 Tryz.ntmps123 fun hbox htok=>?_
   try (simp [e1,e1',e2,e2'])
   repeat (first|(refine sR ?_; simp [e1,e1',e2,e2'])|(refine sC ?_; simp [e1,e1',e2,e2'])|(refine sX ?_; simp only [AU, ↓reduceIte]))
   refine sT (sH hbox htok ?_);simp [packA,←hN,e2']
theorem kd_cases (c:Co):(c.kind=1∧c.exts=[]∧kdE c=0)∨(c.kind=1∧c.exts≠[]∧kdE c=1)∨(c.kind=2∧c.exts=[]∧kdE c=7)∨(c.kind=2∧c.exts≠[]∧6<c.exts.length∧kdE c=3)∨(c.kind=2∧c.exts≠[]∧¬ 6<c.exts.length∧kdE c=0)∨(c.kind≠1∧c.kind≠2∧kdE c=1):=by
 unfold kdE;by_cases h1:c.kind=1
 ·by_cases h2:c.exts=[] <;> simp [h1,h2]
 ·by_cases h2:c.kind=2
  ·by_cases h3:c.exts=[]
   ·simp [h2,h3]
   ·by_cases h4:6<c.exts.length <;> simp [h2,h3,h4]
  ·simp [h1,h2]
def stSx (c:Co) (nb:Nat) (box:Bxs) (tok:Tks) (nt:Nat) (i:Nat):AState :=
 ⟨tl [(59,I i),(58,I c.exts.length),(57,.d (xts c.exts)),(1,.ptr (nb+1) 0 0)],lb nb box [(1,[c.row])],tok,nt⟩
theorem shpK_c (c:Co) (hc:c.Fit) (tok:Tks) (nt:Nat):DCall Tryz.prog 60 [c.av] tok nt (I (shpE c)) tok nt:=by
 intro box nb;have h1:=isName_c c.name hc.name;have h2:=graphValid_c c.g hc.g;have h3:=lrgK_c c.g hc.g;have hxn:=hc.n;obtain ⟨N,hN⟩:∃ N,shpE c=N:=⟨_,rfl⟩
 rw [hN];unfold shpE at hN;generalize nameB c.name=B1 at *;generalize validG c.g=E2 at *;generalize lrgB c.g=B3 at *;cases B1
 ·rw [if_pos rfl] at hN;refine sI Tryz.func60 Tryz.ntmps60 fun hbox htok=>?_
  repeat (first|simp|refine sR ?_)
  refine Stop.of_d (h1 _ _) ?_;simp;try (simp)
  repeat (first|(refine sR ?_; simp)|(refine sC ?_; simp)|(refine sX ?_; simp only [AU, ↓reduceIte]))
  refine sT (sH hbox htok ?_);simp [packA,←hN]
 ·rw [if_neg (by simp)] at hN;have xp:=fun (h:c.exts≠[])=>List.length_pos_iff.2 h
  rcases kd_cases c with ⟨k1,x1,kd⟩|⟨k1,x1,kd⟩|⟨k1,x1,kd⟩|⟨k1,x1,x2,kd⟩|⟨k1,x1,x2,kd⟩|⟨k1,k2,kd⟩
  ·rw [if_neg (by rw [kd]; decide)] at hN;refine sI Tryz.func60 Tryz.ntmps60 fun hbox htok=>?_
   repeat (first|simp|refine sR ?_)
   refine Stop.of_d (h1 _ _) ?_;simp;try (simp [k1,x1])
   repeat (first|(refine sR ?_; simp [k1,x1])|(refine sC ?_; simp [k1,x1])|(refine sX ?_; simp only [AU, ↓reduceIte]))
   refine Stop.of_d (h2 _ _) ?_;repeat (first|simp|refine sR ?_)
   by_cases v0:E2=0
   ·rw [if_neg (by simp [v0])] at hN;refine sC ?_;simp [v0];repeat (first|simp|refine sR ?_)
    refine Stop.of_d (h3 _ _) ?_;simp;cases B3
    ·rw [if_neg (by simp)] at hN;repeat (first|simp|refine sR ?_)
     refine sC ?_;repeat (first|simp|refine sR ?_)
     refine sN ?_;refine AL.loopT (stSx c nb box tok nt) (fun i=>i≤c.exts.length∧firstE (xtAt c) i=0) (fun i=>c.exts.length - i) 0 ⟨Nat.zero_le _,rfl⟩ wkA ?_;rintro i S' ⟨hi,hok⟩ hS;simp only [stSx] at hS;subst hS;have hw:=sW (i:=i) (by omega);repeat (first|simp|refine sR ?_|refine sC ?_)
     refine ⟨fun hlt=>?_,fun hge=>?_⟩
     ·have hx:=hc.exts _ (List.getElem_mem hlt);have hR:xtAt c i≠0→firstE (xtAt c) c.exts.length=xtAt c i:=fun h0=>firstE_stop hok h0 _ hlt
      have hnx:xtAt c i=0→firstE (xtAt c) (i+1)=0:=fun h0=>by simp only [firstE,hok,h0, ↓reduceIte]
      have hd:xtAt c i=xtE c.g c.exts[i]:=xtAt_at hlt
      unfold xtE at hd;have c1:=valid51_c c.g c.exts[i].g c.exts[i].m hc.g hx.g;have c2:=lrgK_c c.exts[i].g hx.g;have c3:=injective56_c c.g c.exts[i].g c.exts[i].m hc.g hx.g hx.m;generalize xtAt c i=E at *;repeat (first|simp [hlt]|refine sR ?_)
      refine Stop.of_d (c1 _ _) ?_;repeat (first|simp|refine sR ?_)
      by_cases f1:validM c.g c.exts[i].g c.exts[i].m=0
      ·rw [if_neg (by simp [f1])] at hd;simp only [f1];refine sC ?_;repeat (first|simp|refine sR ?_)
       refine Stop.of_d (c2 _ _) ?_;simp;cases f2:lrgB c.exts[i].g
       ·rw [f2,if_neg (by simp)] at hd;repeat (first|simp|refine sR ?_)
        refine sC ?_;repeat (first|simp|refine sR ?_)
        refine Stop.of_d (c3 _ _) ?_;simp;cases f3:injM c.g c.exts[i].g c.exts[i].m
        ·rw [f3,if_neg (by simp)] at hd;rw [hR (by rw [hd]; decide),hd] at hN;repeat (first|simp|refine sR ?_)
         refine sC ?_;repeat (first|simp|refine sR ?_)
         refine sT (sH hbox htok ?_);simp [packA,←hN]
        ·rw [f3,if_pos rfl] at hd;repeat (first|simp [hw]|refine sR ?_|refine sC ?_)
         refine sE ?_;exact ⟨i+1,⟨hlt,hnx hd⟩,by omega,wkA⟩
       ·rw [f2,if_pos rfl] at hd;rw [hR (by rw [hd]; decide),hd] at hN;repeat (first|simp|refine sR ?_)
        refine sC ?_;repeat (first|simp|refine sR ?_)
        refine sT (sH hbox htok ?_);simp [packA,←hN]
      ·rw [if_pos f1] at hd;have b1:(validM c.g c.exts[i].g c.exts[i].m != 0)=true:=by simp [f1]
       rw [hR (by rw [hd]; exact f1),hd] at hN;simp only [b1];refine sC ?_;repeat (first|simp|refine sR ?_)
       refine sT (sH hbox htok ?_);simp [packA,←hN]
     ·refine sX ?_;simp only [AU, ↓reduceIte];have:i=c.exts.length:=by omega
      subst this;rw [hok] at hN;repeat (first|simp|refine sR ?_)
      refine sT (sH hbox htok ?_);simp [packA,←hN]
    ·rw [if_pos rfl] at hN;repeat (first|simp|refine sR ?_)
     refine sC ?_;repeat (first|simp|refine sR ?_)
     refine sT (sH hbox htok ?_);simp [packA,←hN]
   ·have b0:(E2 != 0)=true:=by simp [v0]
    rw [if_pos v0] at hN;refine sC ?_;simp [v0,b0];repeat (first|simp|refine sR ?_)
    refine sT (sH hbox htok ?_);simp [packA,←hN]
  ·rw [if_pos (by rw [kd]; decide),kd] at hN;have x1':=xp x1
   refine sI Tryz.func60 Tryz.ntmps60 fun hbox htok=>?_
   repeat (first|simp|refine sR ?_)
   refine Stop.of_d (h1 _ _) ?_;simp;try (simp [k1,x1,x1'])
   repeat (first|(refine sR ?_; simp [k1,x1,x1'])|(refine sC ?_; simp [k1,x1,x1'])|(refine sX ?_; simp only [AU, ↓reduceIte]))
   refine sT (sH hbox htok ?_);simp [packA,←hN]
  ·rw [if_pos (by rw [kd]; decide),kd] at hN;refine sI Tryz.func60 Tryz.ntmps60 fun hbox htok=>?_
   repeat (first|simp|refine sR ?_)
   refine Stop.of_d (h1 _ _) ?_;simp;try (simp [k1,x1])
   repeat (first|(refine sR ?_; simp [k1,x1])|(refine sC ?_; simp [k1,x1])|(refine sX ?_; simp only [AU, ↓reduceIte]))
   refine sT (sH hbox htok ?_);simp [packA,←hN]
  ·rw [if_pos (by rw [kd]; decide),kd] at hN;have x2':(6:Int)<c.exts.length:=by omega
   refine sI Tryz.func60 Tryz.ntmps60 fun hbox htok=>?_
   repeat (first|simp|refine sR ?_)
   refine Stop.of_d (h1 _ _) ?_;simp;try (simp [k1,x1,x2,x2'])
   repeat (first|(refine sR ?_; simp [k1,x1,x2,x2'])|(refine sC ?_; simp [k1,x1,x2,x2'])|(refine sX ?_; simp only [AU, ↓reduceIte]))
   refine sT (sH hbox htok ?_);simp [packA,←hN]
  ·rw [if_neg (by rw [kd]; decide)] at hN;have x2':¬ (6:Int)<c.exts.length:=by omega
   refine sI Tryz.func60 Tryz.ntmps60 fun hbox htok=>?_
   repeat (first|simp|refine sR ?_)
   refine Stop.of_d (h1 _ _) ?_;simp;try (simp [k1,x1,x2,x2'])
   repeat (first|(refine sR ?_; simp [k1,x1,x2,x2'])|(refine sC ?_; simp [k1,x1,x2,x2'])|(refine sX ?_; simp only [AU, ↓reduceIte]))
   refine Stop.of_d (h2 _ _) ?_;repeat (first|simp|refine sR ?_)
   by_cases v0:E2=0
   ·rw [if_neg (by simp [v0])] at hN;refine sC ?_;simp [v0];repeat (first|simp|refine sR ?_)
    refine Stop.of_d (h3 _ _) ?_;simp;cases B3
    ·rw [if_neg (by simp)] at hN;repeat (first|simp|refine sR ?_)
     refine sC ?_;repeat (first|simp|refine sR ?_)
     refine sN ?_;refine AL.loopT (stSx c nb box tok nt) (fun i=>i≤c.exts.length∧firstE (xtAt c) i=0) (fun i=>c.exts.length - i) 0 ⟨Nat.zero_le _,rfl⟩ wkA ?_;rintro i S' ⟨hi,hok⟩ hS;simp only [stSx] at hS;subst hS;have hw:=sW (i:=i) (by omega);repeat (first|simp|refine sR ?_|refine sC ?_)
     refine ⟨fun hlt=>?_,fun hge=>?_⟩
     ·have hx:=hc.exts _ (List.getElem_mem hlt);have hR:xtAt c i≠0→firstE (xtAt c) c.exts.length=xtAt c i:=fun h0=>firstE_stop hok h0 _ hlt
      have hnx:xtAt c i=0→firstE (xtAt c) (i+1)=0:=fun h0=>by simp only [firstE,hok,h0, ↓reduceIte]
      have hd:xtAt c i=xtE c.g c.exts[i]:=xtAt_at hlt
      unfold xtE at hd;have c1:=valid51_c c.g c.exts[i].g c.exts[i].m hc.g hx.g;have c2:=lrgK_c c.exts[i].g hx.g;have c3:=injective56_c c.g c.exts[i].g c.exts[i].m hc.g hx.g hx.m;generalize xtAt c i=E at *;repeat (first|simp [hlt]|refine sR ?_)
      refine Stop.of_d (c1 _ _) ?_;repeat (first|simp|refine sR ?_)
      by_cases f1:validM c.g c.exts[i].g c.exts[i].m=0
      ·rw [if_neg (by simp [f1])] at hd;simp only [f1];refine sC ?_;repeat (first|simp|refine sR ?_)
       refine Stop.of_d (c2 _ _) ?_;simp;cases f2:lrgB c.exts[i].g
       ·rw [f2,if_neg (by simp)] at hd;repeat (first|simp|refine sR ?_)
        refine sC ?_;repeat (first|simp|refine sR ?_)
        refine Stop.of_d (c3 _ _) ?_;simp;cases f3:injM c.g c.exts[i].g c.exts[i].m
        ·rw [f3,if_neg (by simp)] at hd;rw [hR (by rw [hd]; decide),hd] at hN;repeat (first|simp|refine sR ?_)
         refine sC ?_;repeat (first|simp|refine sR ?_)
         refine sT (sH hbox htok ?_);simp [packA,←hN]
        ·rw [f3,if_pos rfl] at hd;repeat (first|simp [hw]|refine sR ?_|refine sC ?_)
         refine sE ?_;exact ⟨i+1,⟨hlt,hnx hd⟩,by omega,wkA⟩
       ·rw [f2,if_pos rfl] at hd;rw [hR (by rw [hd]; decide),hd] at hN;repeat (first|simp|refine sR ?_)
        refine sC ?_;repeat (first|simp|refine sR ?_)
        refine sT (sH hbox htok ?_);simp [packA,←hN]
      ·rw [if_pos f1] at hd;have b1:(validM c.g c.exts[i].g c.exts[i].m != 0)=true:=by simp [f1]
       rw [hR (by rw [hd]; exact f1),hd] at hN;simp only [b1];refine sC ?_;repeat (first|simp|refine sR ?_)
       refine sT (sH hbox htok ?_);simp [packA,←hN]
     ·refine sX ?_;simp only [AU, ↓reduceIte];have:i=c.exts.length:=by omega
      subst this;rw [hok] at hN;repeat (first|simp|refine sR ?_)
      refine sT (sH hbox htok ?_);simp [packA,←hN]
    ·rw [if_pos rfl] at hN;repeat (first|simp|refine sR ?_)
     refine sC ?_;repeat (first|simp|refine sR ?_)
     refine sT (sH hbox htok ?_);simp [packA,←hN]
   ·have b0:(E2 != 0)=true:=by simp [v0]
    rw [if_pos v0] at hN;refine sC ?_;simp [v0,b0];repeat (first|simp|refine sR ?_)
    refine sT (sH hbox htok ?_);simp [packA,←hN]
  ·rw [if_pos (by rw [kd]; decide),kd] at hN;have b1:(c.kind==1)=false:=by simp [k1]
   have b2:(c.kind==2)=false:=by simp [k2]
   have b3:(c.kind != 1)=true:=by simp [k1]
   have b4:(c.kind != 2)=true:=by simp [k2]
   refine sI Tryz.func60 Tryz.ntmps60 fun hbox htok=>?_
   repeat (first|simp|refine sR ?_)
   refine Stop.of_d (h1 _ _) ?_;simp;try (simp [k1,k2,b1,b2,b3,b4])
   repeat (first|(refine sR ?_; simp [k1,k2,b1,b2,b3,b4])|(refine sC ?_; simp [k1,k2,b1,b2,b3,b4])|(refine sX ?_; simp only [AU, ↓reduceIte]))
   refine sT (sH hbox htok ?_);simp [packA,←hN]
theorem validK1_c (t:Ty) (ht:t.Fit) (x:Xt) (hx:x.g.Fit) (hv:∀ e∈x.g.edges,0≤e.fr∧e.fr<x.g.nodes.length∧0≤e.to∧e.to<x.g.nodes.length) (box:Bxs) (nb k1:Nat) (tok:Tks) (nt:Nat) (h1:box k1=some [[.d (nts t.nodes),.d (ets t.edges)]]) :
  ACalls Tryz.prog 69 [x.av,.ptr k1 0 0] ⟨box,nb,tok,nt⟩ fun v m=>v=B (!lvsB t x.g)∧m=⟨box,nb,tok,nt⟩:=by
 have hc:=leavesK_c t ht x.g hx hv;generalize lvsB t x.g=R at *;refine sI Tryz.func69 Tryz.ntmps69 fun hbox htok=>?_
 have k1n:=key_lt hbox h1;repeat (first|simp [lb_out k1n,h1]|refine sR ?_)
 refine Stop.of_d (hc _ _) ?_;repeat (first|simp|refine sR ?_)
 refine sT (sH hbox htok ?_);simp [packA]
theorem validK_c (t:Ty) (ht:t.Fit) (c:Co) (hc:c.Fit) (tok:Tks) (nt:Nat):DCall Tryz.prog 17 [t.av,c.av] tok nt (I (cnE t c)) tok nt:=by
 intro box nb;have h1:=valid_c4 t ht ht.hM;have h2:=shpK_c c hc;have hv:=@shpE_zero c;obtain ⟨N,hN⟩:∃ N,cnE t c=N:=⟨_,rfl⟩
 rw [hN];unfold cnE at hN;generalize tyE t=E at *;generalize tyN t=Z at *;generalize shpE c=S at *;refine sI Tryz.func17 Tryz.ntmps17 fun hbox htok=>?_
 repeat (first|simp|refine sR ?_)
 refine Stop.of_d (h1 _ _) ?_;repeat (first|simp|refine sR ?_)
 by_cases e1:E=0
 ·rw [if_neg (by simp [e1])] at hN;refine sC ?_;simp [e1];repeat (first|simp|refine sR ?_)
  refine Stop.of_d (h2 _ _) ?_;repeat (first|simp|refine sR ?_)
  by_cases e2:S=0
  ·rw [if_neg (by simp [e2])] at hN;obtain ⟨_,_,v1,_,v2⟩:=hv e2;have l1:=leavesK_c t ht c.g hc.g (validG_edges v1);have l2:=fun x (hx:x∈c.exts)=>validK1_c t ht x (hc.exts x hx).g (validG_edges (validM_VM (v2 x hx).1).vb)
   unfold lvX at hN;refine sC ?_;simp [e2];repeat (first|simp|refine sR ?_)
   refine Stop.of_d (l1 _ _) ?_;simp;cases e3:lvsB t c.g
   ·rw [e3,if_neg (by simp)] at hN;repeat (first|simp|refine sR ?_)
    refine sC ?_;repeat (first|simp|refine sR ?_)
    refine sT (sH hbox htok ?_);simp [packA,←hN]
   ·rw [e3,if_pos rfl] at hN;obtain ⟨p,hpp⟩:∃ p:Xt→Bool,(fun x:Xt=>!lvsB t x.g)=p:=⟨_,rfl⟩
    have hpy:∀ y:Xt,(!lvsB t y.g)=p y:=fun y=>by rw [←hpp]
    simp only [hpy] at l2;have hN2:(!anyB p c.exts)=allP (fun x:Xt=>lvsB t x.g) c.exts:=by
     rw [←hpp,allP,anyB,List.any_eq_not_all_not,Bool.not_not];simp
    rw [←hN2] at hN;repeat (first|simp|refine sR ?_)
    refine Stop.of_b (containsFuncX_c c.exts 69 [.ptr (nb+2) 0 0] p hc.n _ _ _ _ (fun c hc=>by rw [List.mem_singleton.1 hc]; simp [lb_at]) (fun y hy box' nb' he=>l2 y hy box' nb' _ _ _ (he _ _ (by simp [lb_at])))) ?_;simp;cases e4:anyB p c.exts
    ·rw [e4,Bool.not_false,if_pos rfl] at hN;repeat (first|simp|refine sR ?_)
     refine sC ?_;repeat (first|simp|refine sR ?_)
     refine sT (sH hbox htok ?_);simp [packA,←hN]
    ·rw [e4,Bool.not_true,if_neg (by simp)] at hN;repeat (first|simp|refine sR ?_)
     refine sC ?_;repeat (first|simp|refine sR ?_)
     refine sT (sH hbox htok ?_);simp [packA,←hN]
  ·rw [if_pos e2] at hN;have b2:(S != 0)=true:=by simp [e2]
   refine sC ?_;simp [b2];repeat (first|simp|refine sR ?_)
   refine sT (sH hbox htok ?_);simp [packA,←hN]
 ·rw [if_pos e1] at hN;have b1:(E != 0)=true:=by simp [e1]
  refine sC ?_;simp [b1];repeat (first|simp|refine sR ?_)
  refine sT (sH hbox htok ?_);simp [packA,←hN]
def xC (m:Mo) (g:Gr) (k:Cd):Cd:=.mk 5 [k] m g [] 0 []
def cndC (c:Co):Cd:=cdOf 2 [xC ⟨[],[]⟩ c.g (if c.kind=1 then cdOf 1 [] else cdOf 2 [cdOf 4 (c.exts.map fun x=>xC x.m x.g (cdOf 1 []))])]
def condR (c:Co):Cd × Int:=if shpE c≠0 then (cdOf 0 [],shpE c) else (cndC c,0)
theorem lrgS_c (g:Gr) (hg:g.Fit) (tok:Tks) (nt:Nat):DCall Tryz.prog 130 [g.av] tok nt (B (lrgB g)) tok nt:=by
 intro box nb;have hn:=hg.n;have he:=hg.e;obtain ⟨N,hN⟩:∃ N,lrgB g=N:=⟨_,rfl⟩
 rw [hN];unfold lrgB at hN;by_cases e1:6<g.nodes.length
 ·have e1':(6:Int)<g.nodes.length:=by omega
  rw [if_pos e1] at hN;refine sI Tryz.func130 Tryz.ntmps130 fun hbox htok=>?_
  try (simp [e1,e1'])
  repeat (first|(refine sR ?_; simp [e1,e1'])|(refine sC ?_; simp [e1,e1'])|(refine sX ?_; simp only [AU, ↓reduceIte]))
  refine sT (sH hbox htok ?_);simp [packA,←hN]
 ·have e1':¬ (6:Int)<g.nodes.length:=by omega
  rw [if_neg e1] at hN;by_cases e2:8<g.edges.length
  ·have e2':(8:Int)<g.edges.length:=by omega
   rw [decide_eq_true e2] at hN;refine sI Tryz.func130 Tryz.ntmps130 fun hbox htok=>?_
   try (simp [e1,e1',e2,e2'])
   repeat (first|(refine sR ?_; simp [e1,e1',e2,e2'])|(refine sC ?_; simp [e1,e1',e2,e2'])|(refine sX ?_; simp only [AU, ↓reduceIte]))
   refine sT (sH hbox htok ?_);simp [packA,←hN,e2']
  ·have e2':¬ (8:Int)<g.edges.length:=by omega
   rw [decide_eq_false e2] at hN;refine sI Tryz.func130 Tryz.ntmps130 fun hbox htok=>?_
   try (simp [e1,e1',e2,e2'])
   repeat (first|(refine sR ?_; simp [e1,e1',e2,e2'])|(refine sC ?_; simp [e1,e1',e2,e2'])|(refine sX ?_; simp only [AU, ↓reduceIte]))
   refine sT (sH hbox htok ?_);simp [packA,←hN,e2']
def stSy (c:Co) (nb:Nat) (box:Bxs) (tok:Tks) (nt:Nat) (i:Nat):AState :=
 ⟨tl [(4,I i),(1,.ptr (nb+1) 0 0)],lb nb box [(1,[c.row])],tok,nt⟩
theorem shpS_c (c:Co) (hc:c.Fit) (tok:Tks) (nt:Nat):DCall Tryz.prog 63 [c.av] tok nt (I (shpE c)) tok nt:=by
 intro box nb;have h1:=isName01_c c.name hc.name;have h2:=valid05_c c.g hc.g;have h3:=lrgS_c c.g hc.g;have hxn:=hc.n;obtain ⟨N,hN⟩:∃ N,shpE c=N:=⟨_,rfl⟩
 rw [hN];unfold shpE at hN;generalize nameB c.name=B1 at *;generalize validG c.g=E2 at *;generalize lrgB c.g=B3 at *;cases B1
 ·rw [if_pos rfl] at hN;refine sI Tryz.func63 Tryz.ntmps63 fun hbox htok=>?_
  repeat (first|simp|refine sR ?_)
  refine Stop.of_d (h1 _ _) ?_;simp;try (simp)
  repeat (first|(refine sR ?_; simp)|(refine sC ?_; simp)|(refine sX ?_; simp only [AU, ↓reduceIte]))
  refine sT (sH hbox htok ?_);simp [packA,←hN]
 ·rw [if_neg (by simp)] at hN;have xp:=fun (h:c.exts≠[])=>List.length_pos_iff.2 h
  rcases kd_cases c with ⟨k1,x1,kd⟩|⟨k1,x1,kd⟩|⟨k1,x1,kd⟩|⟨k1,x1,x2,kd⟩|⟨k1,x1,x2,kd⟩|⟨k1,k2,kd⟩
  ·rw [if_neg (by rw [kd]; decide)] at hN;refine sI Tryz.func63 Tryz.ntmps63 fun hbox htok=>?_
   repeat (first|simp|refine sR ?_)
   refine Stop.of_d (h1 _ _) ?_;simp;try (simp [k1,x1])
   repeat (first|(refine sR ?_; simp [k1,x1])|(refine sC ?_; simp [k1,x1])|(refine sX ?_; simp only [AU, ↓reduceIte]))
   refine Stop.of_d (h2 _ _) ?_;repeat (first|simp|refine sR ?_)
   by_cases v0:E2=0
   ·rw [if_neg (by simp [v0])] at hN;refine sC ?_;simp [v0];repeat (first|simp|refine sR ?_)
    refine Stop.of_d (h3 _ _) ?_;simp;cases B3
    ·rw [if_neg (by simp)] at hN;repeat (first|simp|refine sR ?_)
     refine sC ?_;repeat (first|simp|refine sR ?_)
     refine sN ?_;refine AL.loopT (stSy c nb box tok nt) (fun i=>i≤c.exts.length∧firstE (xtAt c) i=0) (fun i=>c.exts.length - i) 0 ⟨Nat.zero_le _,rfl⟩ wkA ?_;rintro i S' ⟨hi,hok⟩ hS;simp only [stSy] at hS;subst hS;have hw:=sW (i:=i) (by omega);repeat (first|simp|refine sR ?_|refine sC ?_)
     refine ⟨fun hlt=>?_,fun hge=>?_⟩
     ·have hx:=hc.exts _ (List.getElem_mem hlt);have hR:xtAt c i≠0→firstE (xtAt c) c.exts.length=xtAt c i:=fun h0=>firstE_stop hok h0 _ hlt
      have hnx:xtAt c i=0→firstE (xtAt c) (i+1)=0:=fun h0=>by simp only [firstE,hok,h0, ↓reduceIte]
      have hd:xtAt c i=xtE c.g c.exts[i]:=xtAt_at hlt
      unfold xtE at hd;have c1:=valid53_c c.g c.exts[i].g c.exts[i].m hc.g hx.g;have c2:=lrgS_c c.exts[i].g hx.g;have c3:=injective26_c c.g c.exts[i].g c.exts[i].m hc.g hx.g hx.m;generalize xtAt c i=E at *;repeat (first|simp [hlt]|refine sR ?_)
      refine Stop.of_d (c1 _ _) ?_;repeat (first|simp|refine sR ?_)
      by_cases f1:validM c.g c.exts[i].g c.exts[i].m=0
      ·rw [if_neg (by simp [f1])] at hd;simp only [f1];refine sC ?_;repeat (first|simp|refine sR ?_)
       refine Stop.of_d (c2 _ _) ?_;simp;cases f2:lrgB c.exts[i].g
       ·rw [f2,if_neg (by simp)] at hd;repeat (first|simp|refine sR ?_)
        refine sC ?_;repeat (first|simp|refine sR ?_)
        refine Stop.of_d (c3 _ _) ?_;simp;cases f3:injM c.g c.exts[i].g c.exts[i].m
        ·rw [f3,if_neg (by simp)] at hd;rw [hR (by rw [hd]; decide),hd] at hN;repeat (first|simp|refine sR ?_)
         refine sC ?_;repeat (first|simp|refine sR ?_)
         refine sT (sH hbox htok ?_);simp [packA,←hN]
        ·rw [f3,if_pos rfl] at hd;repeat (first|simp [hw]|refine sR ?_|refine sC ?_)
         refine sE ?_;exact ⟨i+1,⟨hlt,hnx hd⟩,by omega,wkA⟩
       ·rw [f2,if_pos rfl] at hd;rw [hR (by rw [hd]; decide),hd] at hN;repeat (first|simp|refine sR ?_)
        refine sC ?_;repeat (first|simp|refine sR ?_)
        refine sT (sH hbox htok ?_);simp [packA,←hN]
      ·rw [if_pos f1] at hd;have b1:(validM c.g c.exts[i].g c.exts[i].m != 0)=true:=by simp [f1]
       rw [hR (by rw [hd]; exact f1),hd] at hN;simp only [b1];refine sC ?_;repeat (first|simp|refine sR ?_)
       refine sT (sH hbox htok ?_);simp [packA,←hN]
     ·refine sX ?_;simp only [AU, ↓reduceIte];have:i=c.exts.length:=by omega
      subst this;rw [hok] at hN;repeat (first|simp|refine sR ?_)
      refine sT (sH hbox htok ?_);simp [packA,←hN]
    ·rw [if_pos rfl] at hN;repeat (first|simp|refine sR ?_)
     refine sC ?_;repeat (first|simp|refine sR ?_)
     refine sT (sH hbox htok ?_);simp [packA,←hN]
   ·have b0:(E2 != 0)=true:=by simp [v0]
    rw [if_pos v0] at hN;refine sC ?_;simp [v0,b0];repeat (first|simp|refine sR ?_)
    refine sT (sH hbox htok ?_);simp [packA,←hN]
  ·rw [if_pos (by rw [kd]; decide),kd] at hN;have x1':=xp x1
   refine sI Tryz.func63 Tryz.ntmps63 fun hbox htok=>?_
   repeat (first|simp|refine sR ?_)
   refine Stop.of_d (h1 _ _) ?_;simp;try (simp [k1,x1,x1'])
   repeat (first|(refine sR ?_; simp [k1,x1,x1'])|(refine sC ?_; simp [k1,x1,x1'])|(refine sX ?_; simp only [AU, ↓reduceIte]))
   refine sT (sH hbox htok ?_);simp [packA,←hN]
  ·rw [if_pos (by rw [kd]; decide),kd] at hN;refine sI Tryz.func63 Tryz.ntmps63 fun hbox htok=>?_
   repeat (first|simp|refine sR ?_)
   refine Stop.of_d (h1 _ _) ?_;simp;try (simp [k1,x1])
   repeat (first|(refine sR ?_; simp [k1,x1])|(refine sC ?_; simp [k1,x1])|(refine sX ?_; simp only [AU, ↓reduceIte]))
   refine sT (sH hbox htok ?_);simp [packA,←hN]
  ·rw [if_pos (by rw [kd]; decide),kd] at hN;have x2':(6:Int)<c.exts.length:=by omega
   refine sI Tryz.func63 Tryz.ntmps63 fun hbox htok=>?_
   repeat (first|simp|refine sR ?_)
   refine Stop.of_d (h1 _ _) ?_;simp;try (simp [k1,x1,x2,x2'])
   repeat (first|(refine sR ?_; simp [k1,x1,x2,x2'])|(refine sC ?_; simp [k1,x1,x2,x2'])|(refine sX ?_; simp only [AU, ↓reduceIte]))
   refine sT (sH hbox htok ?_);simp [packA,←hN]
  ·rw [if_neg (by rw [kd]; decide)] at hN;have x2':¬ (6:Int)<c.exts.length:=by omega
   refine sI Tryz.func63 Tryz.ntmps63 fun hbox htok=>?_
   repeat (first|simp|refine sR ?_)
   refine Stop.of_d (h1 _ _) ?_;simp;try (simp [k1,x1,x2,x2'])
   repeat (first|(refine sR ?_; simp [k1,x1,x2,x2'])|(refine sC ?_; simp [k1,x1,x2,x2'])|(refine sX ?_; simp only [AU, ↓reduceIte]))
   refine Stop.of_d (h2 _ _) ?_;repeat (first|simp|refine sR ?_)
   by_cases v0:E2=0
   ·rw [if_neg (by simp [v0])] at hN;refine sC ?_;simp [v0];repeat (first|simp|refine sR ?_)
    refine Stop.of_d (h3 _ _) ?_;simp;cases B3
    ·rw [if_neg (by simp)] at hN;repeat (first|simp|refine sR ?_)
     refine sC ?_;repeat (first|simp|refine sR ?_)
     refine sN ?_;refine AL.loopT (stSy c nb box tok nt) (fun i=>i≤c.exts.length∧firstE (xtAt c) i=0) (fun i=>c.exts.length - i) 0 ⟨Nat.zero_le _,rfl⟩ wkA ?_;rintro i S' ⟨hi,hok⟩ hS;simp only [stSy] at hS;subst hS;have hw:=sW (i:=i) (by omega);repeat (first|simp|refine sR ?_|refine sC ?_)
     refine ⟨fun hlt=>?_,fun hge=>?_⟩
     ·have hx:=hc.exts _ (List.getElem_mem hlt);have hR:xtAt c i≠0→firstE (xtAt c) c.exts.length=xtAt c i:=fun h0=>firstE_stop hok h0 _ hlt
      have hnx:xtAt c i=0→firstE (xtAt c) (i+1)=0:=fun h0=>by simp only [firstE,hok,h0, ↓reduceIte]
      have hd:xtAt c i=xtE c.g c.exts[i]:=xtAt_at hlt
      unfold xtE at hd;have c1:=valid53_c c.g c.exts[i].g c.exts[i].m hc.g hx.g;have c2:=lrgS_c c.exts[i].g hx.g;have c3:=injective26_c c.g c.exts[i].g c.exts[i].m hc.g hx.g hx.m;generalize xtAt c i=E at *;repeat (first|simp [hlt]|refine sR ?_)
      refine Stop.of_d (c1 _ _) ?_;repeat (first|simp|refine sR ?_)
      by_cases f1:validM c.g c.exts[i].g c.exts[i].m=0
      ·rw [if_neg (by simp [f1])] at hd;simp only [f1];refine sC ?_;repeat (first|simp|refine sR ?_)
       refine Stop.of_d (c2 _ _) ?_;simp;cases f2:lrgB c.exts[i].g
       ·rw [f2,if_neg (by simp)] at hd;repeat (first|simp|refine sR ?_)
        refine sC ?_;repeat (first|simp|refine sR ?_)
        refine Stop.of_d (c3 _ _) ?_;simp;cases f3:injM c.g c.exts[i].g c.exts[i].m
        ·rw [f3,if_neg (by simp)] at hd;rw [hR (by rw [hd]; decide),hd] at hN;repeat (first|simp|refine sR ?_)
         refine sC ?_;repeat (first|simp|refine sR ?_)
         refine sT (sH hbox htok ?_);simp [packA,←hN]
        ·rw [f3,if_pos rfl] at hd;repeat (first|simp [hw]|refine sR ?_|refine sC ?_)
         refine sE ?_;exact ⟨i+1,⟨hlt,hnx hd⟩,by omega,wkA⟩
       ·rw [f2,if_pos rfl] at hd;rw [hR (by rw [hd]; decide),hd] at hN;repeat (first|simp|refine sR ?_)
        refine sC ?_;repeat (first|simp|refine sR ?_)
        refine sT (sH hbox htok ?_);simp [packA,←hN]
      ·rw [if_pos f1] at hd;have b1:(validM c.g c.exts[i].g c.exts[i].m != 0)=true:=by simp [f1]
       rw [hR (by rw [hd]; exact f1),hd] at hN;simp only [b1];refine sC ?_;repeat (first|simp|refine sR ?_)
       refine sT (sH hbox htok ?_);simp [packA,←hN]
     ·refine sX ?_;simp only [AU, ↓reduceIte];have:i=c.exts.length:=by omega
      subst this;rw [hok] at hN;repeat (first|simp|refine sR ?_)
      refine sT (sH hbox htok ?_);simp [packA,←hN]
    ·rw [if_pos rfl] at hN;repeat (first|simp|refine sR ?_)
     refine sC ?_;repeat (first|simp|refine sR ?_)
     refine sT (sH hbox htok ?_);simp [packA,←hN]
   ·have b0:(E2 != 0)=true:=by simp [v0]
    rw [if_pos v0] at hN;refine sC ?_;simp [v0,b0];repeat (first|simp|refine sR ?_)
    refine sT (sH hbox htok ?_);simp [packA,←hN]
  ·rw [if_pos (by rw [kd]; decide),kd] at hN;have b1:(c.kind==1)=false:=by simp [k1]
   have b2:(c.kind==2)=false:=by simp [k2]
   have b3:(c.kind != 1)=true:=by simp [k1]
   have b4:(c.kind != 2)=true:=by simp [k2]
   refine sI Tryz.func63 Tryz.ntmps63 fun hbox htok=>?_
   repeat (first|simp|refine sR ?_)
   refine Stop.of_d (h1 _ _) ?_;simp;try (simp [k1,k2,b1,b2,b3,b4])
   repeat (first|(refine sR ?_; simp [k1,k2,b1,b2,b3,b4])|(refine sC ?_; simp [k1,k2,b1,b2,b3,b4])|(refine sX ?_; simp only [AU, ↓reduceIte]))
   refine sT (sH hbox htok ?_);simp [packA,←hN]
def belR (t:Ty) (a:Int):List Int × Int:=if givE t [a]≠0 then ([],givE t [a]) else (belK t a t.nodes.length,0)
theorem givE_leaf {t:Ty} (h:tyE t=0) {a:Int} (h0:0≤a):givE t [a]=if (t.nodes.length:Int)≤a then 6 else 0:=by
 unfold givE;rw [if_pos h];by_cases h1:(t.nodes.length:Int)≤a
 ·have:¬ a<t.nodes.length:=by omega
  simp [anyB,insB,h1,this]
 ·have:a<t.nodes.length:=by omega
  simp [anyB,insB,h1,this,h0]
def stBw (t:Ty) (a:Int) (nb:Nat) (box:Bxs) (x:Acc):AState :=
 ⟨tl [(19,I x.i),(18,I t.nodes.length),(7,.osl 1 (rI (belK t a x.i)) x.own),(1,I a),(2,.ptr (nb+2) 0 0)],lb nb box [(2,[[.d (nts t.nodes),.d (ets t.edges)]])],x.tok,x.nt⟩
theorem below_c (t:Ty) (ht:t.Fit) (a:Int) (tok:Tks) (nt:Nat):DCall Tryz.prog 304 [t.av,I a] tok nt (.tup [.d (ints (belR t a).1),I (belR t a).2]) tok nt:=by
 intro box nb;have htn:=ht.n;have h1:=given_c t ht [a] (by simp);have hin:=@givE_in t [a];obtain ⟨N,hN⟩:∃ N,belR t a=N:=⟨_,rfl⟩
 rw [hN];unfold belR at hN;generalize givE t [a]=E at *;refine sI Tryz.func304 Tryz.ntmps304 fun hbox htok=>?_
 repeat (first|simp|refine sR ?_)
 refine Stop.data ?_;refine Stop.of_d (h1 _ _) ?_;repeat (first|simp|refine sR ?_)
 by_cases e1:E=0
 ·rw [if_neg (by simp [e1])] at hN;have hp:=tyE_par (hin e1).1;refine sC ?_;simp [e1];repeat (first|simp|refine sR ?_)
  refine sN ?_;refine AL.loopT (stBw t a nb box) (fun x=>x.i≤t.nodes.length∧TK tok nt x.tok x.nt [x.own]) (fun x=>t.nodes.length - x.i) ⟨0,.full,tok,nt⟩ ⟨Nat.zero_le _,(TK.start htok).full⟩ (Weaks.mk (Nat.le_refl _) rfl (by simp [ToL,lk,belK_zero]) (by simp [BoxL,lk])) ?_;rintro ⟨i,own,tok',nt'⟩ S ⟨hi,htk⟩ hS;simp only [stBw] at hS hi htk;subst hS;have hw:=sW (i:=i) (by omega);have hlen:=belK_len t a i;have hsc:=belK_succ t a i;repeat (first|simp|refine sR ?_|refine sC ?_)
  refine ⟨fun hlt=>?_,fun hge=>?_⟩
  ·have hc:=is_c t ht i a (by omega) (by omega) hp;generalize belK t a i=L at *;repeat (first|simp [hlt]|refine sR ?_)
   refine Stop.of_d (hc _ _) ?_;simp;cases e2:isB t i a
   ·rw [e2,if_neg (by simp)] at hsc;repeat (first|simp [hw]|refine sR ?_|refine sC ?_)
    refine sE ?_;exact ⟨⟨i+1,own,tok',nt'⟩,⟨hlt,htk⟩,by simp only; omega,Weaks.mk htk.le rfl (by simp [ToL,lk,hsc]) (by simp [BoxL,lk])⟩
   ·rw [e2,if_pos rfl] at hsc;repeat (first|simp|refine sR ?_)
    refine sC ?_;repeat (first|simp|refine sR ?_)
    refine ⟨⟨by omega,htk.live⟩,?_⟩;repeat (first|simp [hw]|refine sR ?_)
    refine sE ?_;exact ⟨⟨i+1,_,_,_⟩,⟨hlt,htk.app⟩,by simp only; omega,Weaks.mk htk.app.le rfl (by simp [ToL,lk,hsc]) (by simp [BoxL,lk])⟩
  ·refine sX ?_;simp only [AU, ↓reduceIte];have:i=t.nodes.length:=by omega
   subst this;repeat (first|simp|refine sR ?_)
   refine sT (sG hbox htok htk.old htk.le ?_);simp [packA,←hN]
 ·rw [if_pos e1] at hN;have b1:(E != 0)=true:=by simp [e1]
  refine sC ?_;simp [b1];repeat (first|simp|refine sR ?_)
  refine sT (sH hbox htok ?_);simp [packA,←hN,ints]
abbrev blB (l:List Bool):D:=.sl 1 (l.map fun b=>[D.raw (.bool b)])
def isRow (t:Ty) (a:Nat):List Bool:=(List.range t.nodes.length).map fun (b:Nat)=>isB t (b:Int) (a:Int)
def isTb (t:Ty):List (List Bool):=(List.range t.nodes.length).map (isRow t)
def isD (t:Ty):D:=.sl 1 ((isTb t).map fun r=>[blB r])
def ptD (nl:Bool) (l:List Int):D:=if nl=true then .raw nilV else ints l
structure Sr.Nl (s:Sr) (nl:Bool):Prop where
 n:nl=true→∀ x∈s.pt.nodes,x = -1
 e:nl=true→∀ x∈s.pt.edges,x = -1
def Sr.rowD (s:Sr) (nl:Bool) (fm:Nat) (N E:List Int) (out:List Mo):List D :=
 [ints s.p.nodes,AM.edges s.p.edges,ints s.g.nodes,AM.edges s.g.edges,isD s.t,ptD nl s.pt.nodes,ptD nl s.pt.edges,.raw (.bool s.inj),.raw (.int .i64 fm),ints N,ints E,.sl 2 (mosR out)]
abbrev Sr.rowF (s:Sr) (nl:Bool) (fm:Nat) (N:List Int) (a:Nat) (E:List Int) (b:Nat) (out:List Mo) (own:Own):List AV :=
 [.d (ints s.p.nodes),.d (AM.edges s.p.edges),.d (ints s.g.nodes),.d (AM.edges s.g.edges),.d (isD s.t),.d (ptD nl s.pt.nodes),.d (ptD nl s.pt.edges),B s.inj,I fm,.stk a 1 (rI N),.stk b 1 (rI E),.osl 2 (mosR out) own]
theorem Sr.row_cds {s:Sr} {nl:Bool} {fm:Nat} {N:List Int} {a:Nat} {E:List Int} {b:Nat} {out:List Mo} {own:Own} {tok:Nat→Bool} (ha:tok a=true) (hb:tok b=true):CellDs tok (s.rowF nl fm N a E b out own) (s.rowD nl fm N E out) :=
 ⟨.d,.d,.d,.d,.d,.d,.d,.d,.d,.stk ha,.stk hb,.osl,trivial⟩
def gvI (nl:Bool) (l:List Int) (i:Nat):Int:=if nl=true then -1 else l.getD i 0
theorem gvB_gvI {nl:Bool} {l:List Int} {i:Nat} (h:nl=true→∀ x∈l,x = -1) (hi:i<l.length) (k:Nat):gvB l i k=if 0≤gvI nl l i then decide (gvI nl l i=(k:Int)) else true:=by
 unfold gvB gvI;cases nl
 ·simp
 ·have:l.getD i 0 = -1:=by
   have:=h rfl _ (List.getElem_mem hi)
   simp [hi,this]
  rw [this];simp
theorem givenF_c (nl:Bool) (l:List Int) (i:Nat) (hi:i<l.length) (hl:l.length≤1000000) (tok:Tks) (nt:Nat):DCall Tryz.prog 305 [.d (ptD nl l),I i] tok nt (I (gvI nl l i)) tok nt:=by
 intro box nb;cases nl
 ·refine sI Tryz.func305 Tryz.ntmps305 fun hbox htok=>?_
  simp only [ptD,Bool.false_eq_true,if_false];repeat (first|simp [hi]|refine sR ?_)
  refine ⟨?_,fun h=>by rw [h] at hi; simp at hi⟩;try (simp [hi])
  repeat (first|(refine sR ?_; simp [hi])|(refine sC ?_; simp [hi])|(refine sX ?_; simp only [AU, ↓reduceIte]))
  refine sT (sH hbox htok ?_);simp [packA,gvI,hi]
 ·refine sI Tryz.func305 Tryz.ntmps305 fun hbox htok=>?_
  simp only [ptD,if_true];try (simp)
  repeat (first|(refine sR ?_; simp)|(refine sC ?_; simp)|(refine sX ?_; simp only [AU, ↓reduceIte]))
  refine sT (sH hbox htok ?_);simp [packA,gvI]
theorem E.dec3 (e:E) (a b c:Int):decide (e=⟨a,b,c⟩)=(decide (e.ty=a)&&(decide (e.fr=b)&&decide (e.to=c))):=by
 cases e;simp
theorem fitsF_c (s:Sr) (h:s.Ok) (nl:Bool) (hnl:s.Nl nl) (fm:Nat) (N E:List Int) (out:List Mo) (i k:Nat) (hi:i<s.p.edges.length) (hk:k<s.g.edges.length)
  (hf:(s.p.edges.getD i default).fr<N.length) (ht:(s.p.edges.getD i default).to<N.length) (tok:Tks) (nt:Nat) :
  DCall Tryz.prog 307 [.cptr (s.rowD nl fm N E out) 0,I i,I k] tok nt (B (s.fitK N i k)) tok nt:=by
 intro box nb;have hpe:=h.p.e;have hpl:i<s.pt.edges.length:=by rw [h.pe]; exact hi
 have hg:=givenF_c nl s.pt.edges i hpl (by rw [h.pe]; omega);have hgv:=gvB_gvI hnl.e hpl k;obtain ⟨x1,x2,x3,x4⟩:=h.vp _ (List.getElem_mem hi);have hgd:s.p.edges.getD i default=s.p.edges[i]:=by simp [hi]
 rw [hgd] at hf ht;have y1:s.p.edges[i].fr.toNat<N.length:=by omega
 have y2:s.p.edges[i].to.toNat<N.length:=by omega
 have hwx:wantX s.p N i=⟨s.p.edges[i].ty,N[s.p.edges[i].fr.toNat],N[s.p.edges[i].to.toNat]⟩:=by simp [wantX,hi,y1,y2]
 have hgi:s.g.edges.getD k default=s.g.edges[k]:=by simp [hk]
 obtain ⟨R,hR⟩:∃ R,s.fitK N i k=R:=⟨_,rfl⟩
 rw [hR];unfold Sr.fitK at hR;rw [hgv,hwx,hgi] at hR;generalize gvI nl s.pt.edges i=W at *;refine sI Tryz.func307 Tryz.ntmps307 fun hbox htok=>?_
 repeat (first|simp [Sr.rowD,hi]|refine sR ?_)
 refine Stop.of_d (hg _ _) ?_;simp;by_cases p01:0≤W∧W≠(k:Int)
 ·obtain ⟨p0,p1⟩:=p01;have b1:(W != (k:Int))=true:=by simp [p1]
  rw [if_pos p0,if_neg (by simp [p1])] at hR;try (simp [p0,b1])
  repeat (first|(refine sR ?_; simp [p0,b1])|(refine sC ?_; simp [p0,b1])|(refine sX ?_; simp only [AU, ↓reduceIte]))
  refine sT (sH hbox htok ?_);simp [packA,←hR]
 ·have hW:(if 0≤W then decide (W=(k:Int)) else true)=true:=by
   by_cases p0:0≤W
   ·rw [if_pos p0];by_cases p1:W=(k:Int)
    ·simp [p1]
    ·exact absurd ⟨p0,p1⟩ p01
   ·rw [if_neg p0]
  rw [if_pos hW,_root_.Go.AM.E.dec3] at hR;have hst:∀ Q,(0≤W→(W != (k:Int))=false→Q)→(¬ 0≤W→Q)→Q:=by
   intro Q h1 h2;by_cases p0:0≤W
   ·refine h1 p0 ?_;by_cases p1:W=(k:Int)
    ·simp [p1]
    ·exact absurd ⟨p0,p1⟩ p01
   ·exact h2 p0
  refine hst _ (fun p0 b1=>?_) (fun p0=>?_)
  ·try (simp [p0,b1,hk,x1,x3,y1,y2,hf,ht,Sr.rowD])
   repeat (first|(refine sR ?_; simp [p0,b1,hk,x1,x3,y1,y2,hf,ht,Sr.rowD])|(refine sC ?_; simp [p0,b1,hk,x1,x3,y1,y2,hf,ht,Sr.rowD])|(refine sX ?_; simp only [AU, ↓reduceIte]))
   refine sT (sH hbox htok ?_);simp [packA,←hR]
  ·try (simp [p0,hk,x1,x3,y1,y2,hf,ht,Sr.rowD])
   repeat (first|(refine sR ?_; simp [p0,hk,x1,x3,y1,y2,hf,ht,Sr.rowD])|(refine sC ?_; simp [p0,hk,x1,x3,y1,y2,hf,ht,Sr.rowD])|(refine sX ?_; simp only [AU, ↓reduceIte]))
   refine sT (sH hbox htok ?_);simp [packA,←hR]
def stPo1 (s:Sr) (nl:Bool) (fm:Nat) (N E:List Int) (out:List Mo) (nb:Nat) (box:Bxs) (tok:Tks) (nt:Nat) (i:Nat):AState :=
 ⟨tl [(20,I i),(19,I s.p.edges.length),(18,.d (AM.edges s.p.edges)),(3,I ((N.length:Int) - 1)),(0,.cptr (s.rowD nl fm N E out) 0)],lb nb box [],tok,nt⟩
def stPo2 (s:Sr) (nl:Bool) (fm:Nat) (N E:List Int) (out:List Mo) (nb:Nat) (box:Bxs) (tok:Tks) (nt:Nat) (i:Nat) (q:Nat):AState :=
 ⟨tl [(38,I q),(37,I s.g.edges.length),(6,B false),(5,.ptr (nb+5) 0 0),(4,I i),(20,I i),(19,I s.p.edges.length),(18,.d (AM.edges s.p.edges)),(3,I ((N.length:Int) - 1)),(0,.cptr (s.rowD nl fm N E out) 0)],
  lb nb box [(5,[[I (s.p.edges.getD i default).ty,I (s.p.edges.getD i default).fr,I (s.p.edges.getD i default).to]])],tok,nt⟩
theorem possibleF_c (s:Sr) (h:s.Ok) (nl:Bool) (hnl:s.Nl nl) (fm:Nat) (N E:List Int) (hN:N.length≤s.p.nodes.length) (out:List Mo) (tok:Tks) (nt:Nat) :
  DCall Tryz.prog 306 [.cptr (s.rowD nl fm N E out) 0] tok nt (B (s.pos N)) tok nt:=by
 intro box nb;have hpe:=h.p.e;have hpn:=h.p.n;have hge:=h.g.e;have hw0:IntKind.i64.wrap (↑N.length - 1)=(N.length:Int) - 1:=wrap_in (by omega) (by omega)
 have hfit:=fun i k hi hk hf ht=>fitsF_c s h nl hnl fm N E out i k hi hk hf ht
 obtain ⟨R,hR⟩:∃ R,s.pos N=R:=⟨_,rfl⟩
 rw [hR];refine sI Tryz.func306 Tryz.ntmps306 fun hbox htok=>?_
 repeat (first|simp [Sr.rowD,hw0]|refine sR ?_)
 refine sN ?_;refine AL.loopT (stPo1 s nl fm N E out nb box tok nt) (fun i=>i≤s.p.edges.length∧∀ j,j<i→s.posE N j=true) (fun i=>s.p.edges.length - i) 0 ⟨Nat.zero_le _,fun j hj=>absurd hj (Nat.not_lt_zero _)⟩ (Weaks.mk (Nat.le_refl _) rfl (by simp [ToL,lk,Sr.rowD]) (by simp [BoxL,lk])) ?_;rintro i S' ⟨hi,hall⟩ hS;simp only [stPo1] at hS;subst hS;have hw:=sW (i:=i) (by omega);by_cases hlt:i<s.p.edges.length
 ·have hgd:s.p.edges.getD i default=s.p.edges[i]:=by simp [hlt]
  have hfit:=fun k hk=>hfit i k hlt hk
  obtain ⟨x1,x2,x3,x4⟩:=h.vp _ (List.getElem_mem hlt);by_cases hmx:max s.p.edges[i].fr s.p.edges[i].to=(N.length:Int) - 1
  ·have b1:(max s.p.edges[i].fr s.p.edges[i].to != (N.length:Int) - 1)=false:=by simp [hmx]
   have hpe0:s.posE N i=(List.range s.g.edges.length).any (s.fitK N i):=by unfold Sr.posE; rw [hgd,if_pos hmx]
   have hfit:=fun k hk=>hfit k hk (by rw [hgd]; omega) (by rw [hgd]; omega)
   try (simp [hlt,b1,Sr.rowD])
   repeat (first|(refine sR ?_; simp [hlt,b1,Sr.rowD])|(refine sC ?_; simp [hlt,b1,Sr.rowD])|(refine sX ?_; simp only [AU, ↓reduceIte]))
   refine sN ?_;refine AL.loopT (stPo2 s nl fm N E out nb box tok nt i) (fun q=>q≤s.g.edges.length∧∀ j,j<q→s.fitK N i j=false) (fun q=>s.g.edges.length - q) 0 ⟨Nat.zero_le _,fun j hj=>absurd hj (Nat.not_lt_zero _)⟩ (Weaks.mk (Nat.le_refl _) rfl (by simp [ToL,lk,hlt,Sr.rowD]) (by simp [BoxL,lk,hlt])) ?_;rintro q S' ⟨hq0,hno⟩ hS;simp only [stPo2] at hS;subst hS;have hwq:=sW (i:=q) (by omega);by_cases hq:q<s.g.edges.length
   ·have hc:=hfit q hq;try (simp [hq])
    repeat (first|(refine sR ?_; simp [hq])|(refine sC ?_; simp [hq])|(refine sX ?_; simp only [AU, ↓reduceIte]))
    refine Stop.of_d (hc _ _) ?_;cases e:s.fitK N i q
    ·try (simp [hwq])
     repeat (first|(refine sR ?_; simp [hwq])|(refine sC ?_; simp [hwq])|(refine sX ?_; simp only [AU, ↓reduceIte]))
     refine sE ?_;exact ⟨q+1,⟨hq,fun j hj=>(Nat.lt_or_ge j q).elim (hno j) fun hh=>by rw [show j=q by omega]; exact e⟩,by omega,Weaks.mk (Nat.le_refl _) rfl (by simp [ToL,lk,hlt]) (by simp [BoxL,lk,hlt])⟩
    ·have hp:s.posE N i=true:=by
      rw [hpe0,List.any_eq_true];exact ⟨q,List.mem_range.2 hq,e⟩
     try (simp [hw])
     repeat (first|(refine sR ?_; simp [hw])|(refine sC ?_; simp [hw])|(refine sX ?_; simp only [AU, ↓reduceIte]))
     refine sE ?_;exact ⟨i+1,⟨hlt,fun j hj=>(Nat.lt_or_ge j i).elim (hall j) fun hh=>by rw [show j=i by omega]; exact hp⟩,by omega,wkA⟩
   ·have:q=s.g.edges.length:=by omega
    subst this;have hp:s.posE N i=false:=by
     rw [hpe0,List.any_eq_false];exact fun j hj=>by simp [hno j (List.mem_range.1 hj)]
    rw [Sr.pos_false hlt hp] at hR;try (simp)
    repeat (first|(refine sR ?_; simp)|(refine sC ?_; simp)|(refine sX ?_; simp only [AU, ↓reduceIte]))
    refine sT (sH hbox htok ?_);simp [packA,←hR]
  ·have b1:(max s.p.edges[i].fr s.p.edges[i].to != (N.length:Int) - 1)=true:=by simp [hmx]
   have hp:s.posE N i=true:=by unfold Sr.posE; rw [hgd,if_neg hmx]
   try (simp [hlt,b1,hw])
   repeat (first|(refine sR ?_; simp [hlt,b1,hw])|(refine sC ?_; simp [hlt,b1,hw])|(refine sX ?_; simp only [AU, ↓reduceIte]))
   refine sE ?_;exact ⟨i+1,⟨hlt,fun j hj=>(Nat.lt_or_ge j i).elim (hall j) fun hh=>by rw [show j=i by omega]; exact hp⟩,by omega,wkA⟩
 ·have:i=s.p.edges.length:=by omega
  subst this;rw [Sr.pos_true hall] at hR;try (simp)
  repeat (first|(refine sR ?_; simp)|(refine sC ?_; simp)|(refine sX ?_; simp only [AU, ↓reduceIte]))
  refine sT (sH hbox htok ?_);simp [packA,←hR]
end Go.AM
