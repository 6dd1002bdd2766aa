/-
 Parts of the proof, as merged from many texts: a machine over data, what the functions compute, plain laws.
-/
import Derived.Test.YtainalmfffjnjaaGreatDoorPTV11
set_option linter.unusedSimpArgs false
set_option linter.unusedVariables false
namespace Go.AM
open Go Go.Proofs
def QFd (s:Sr) (nl:Bool) (fm:Nat) (box:Bxs) (nb k:Nat) (mtok:Tks) (nt0 nt:Nat) (N E:List Int) (R:List Mo) (v:AV) (m:AMem):Prop :=
 v=.tup []∧∃ a b own tok nt',m=⟨upd box k (some [s.rowF nl fm N a E b R own]),nb,tok,nt'⟩∧TK mtok nt0 tok nt' [.tok a,.tok b,own]∧nt≤nt'
theorem outFd {s:Sr} {nl:Bool} {fm:Nat} {N E:List Int} {a b:Nat} {out:List Mo} {own:Own} {box:Bxs} {k base:Nat} {p q:Nat→Prop} (hq:q=fun _=>True):∀ k' rows,k'<base→(upd box k (some [s.rowF nl fm N a E b out own])) k'=some rows→box k'=some rows∨∀ r∈rows,∀ x∈r,OkIn p q x:=by
 subst hq;intro k' rows hk' hr;by_cases e:k'=k
 ·subst e;rw [upd_same] at hr;cases hr;exact .inr (by simp)
 ·rw [upd_other _ _ e] at hr;exact .inl hr
theorem flat_ints {c:Addr→Option Value} {ps:Addr→Prop} {xs:List Int} {vs:List Value} (h:FlatV c ps 1 (rI xs) vs):∀ j,j<xs.length→vs[j]?=some (.int .i64 (xs.getD j 0)):=by
 intro j hj;have hj':j<(rI xs).length:=by simpa using hj
 obtain ⟨u,h1,h2⟩:=h.read j 0 hj' (by simp);rw [Nat.mul_one,Nat.add_zero] at h1;have e:(rI xs)[j][0]'(by simp)=D.raw (.int .i64 xs[j]):=by simp
 rw [e] at h2;cases h2;rw [h1];simp [hj]
theorem cloneS_c (xs:List Int) (hx:xs.length≤1000000) (t:Nat) (tok:Tks) (nt:Nat) (ht:tok t=true):DCall Tryz.prog 126 [.stk t 1 (rI xs)] tok nt (.d (ints xs)) tok nt:=by
 intro box nb;refine ⟨Enters.mk Tryz.func126 rfl (by kernel_rfl),fun G w vals hm hr=>?_⟩;obtain ⟨hlen,hrv⟩:=hr
 match vals,hlen with
 | [v],_ =>
  have h0:=hrv 0 (by simp) (by simp);simp only [List.getElem_cons_zero] at h0;cases h0 with|stk h0 =>
  obtain ⟨h1,A,cap,rfl,hcap,hmax,h2⟩:=h0;obtain ⟨_,x,hx2⟩:=hm.toks t ht;have h3:=h2 x hx2;have hl:(rI xs).length=xs.length:=by simp
  rw [hl] at hcap ⊢;cases A with
  | none =>
   have he:xs=[]:=by
    cases x with
    | none=>exact List.length_eq_zero_iff.1 (by simp only at h3; omega)
    | some g=>cases h3.1
   subst he;refine (Tryz.slices_Clone_int_nil _ cap w).mono ?_;rintro e w' ⟨rfl,rfl⟩;exact ⟨_,_,_,G,rfl,⟨rfl,rfl⟩,rfl,hm,.d (.sl (es:=[]) (fun _ _=>default) (Nat.le_refl _) (by decide) (by simp) (by simp) (by simp) (by simp)),Le.refl _ _,fun k hk=>⟨hk,rfl⟩⟩
  | some a =>
   by_cases e:xs=[]
   ·subst e;refine (Tryz.slices_Clone_int_zero a cap w).mono ?_;rintro e w' ⟨v,rfl,hown,hnn,hb⟩;exact ⟨v,_,_,G,rfl,⟨rfl,rfl⟩,rfl,relM_below hm hb,.d (rvd_owns hm hown),le_below hm hb,fun k hk=>⟨hk,rfl⟩⟩
   ·have hne:xs.length≠0:=fun h=>e (List.length_eq_zero_iff.1 h)
    cases x with
    | none=>simp only at h3; omega
    | some g =>
     obtain ⟨hA,vs,sp,et,hg,hh,hln,hfl,_⟩:=h3;cases hA;have hc:∀ j,j<xs.length→w.cell? ⟨g,0+j,none⟩=some (.int .i64 (xs.getD j 0)):=by
      intro j hj;have:=flat_ints hfl j hj
      rw [Nat.zero_add,cell_of_row w g _ _ et (0,0) hh];have hj2:j<vs.length:=by rw [hfl.len]; simpa using hj
      simp only [List.getElem?_toArray,List.getElem?_append_left hj2];exact this
     have:=Tryz.slices_Clone_int g 0 xs.length cap xs w (Nat.le_refl _) (by omega) hc
     rw [List.take_length] at this;refine this.mono ?_;rintro e w' ⟨v,rfl,hown,hnn,hb⟩;exact ⟨v,_,_,G,rfl,⟨rfl,rfl⟩,rfl,relM_below hm hb,.d (rvd_owns hm hown),le_below hm hb,fun k hk=>⟨hk,rfl⟩⟩
structure AccK where
 i:Nat
 out:List Mo
 a:Nat
 b:Nat
 own:Own
 tok:Nat→Bool
 nt:Nat
def Sr.stEp (s:Sr) (fm:Nat) (N E:List Int) (n:Nat) (out:List Mo) (k:Nat):List Mo:=if s.okE N E k=true then fndE fm (s.okE N) s.g.edges.length N n (E++[(k:Int)]) out else out
def stFdE (s:Sr) (nl:Bool) (fm:Nat) (N E:List Int) (nb k:Nat) (box:Bxs) (x:AccK):AState :=
 ⟨tl [(164,I x.i),(163,I s.g.edges.length),(162,.d (AM.edges s.g.edges)),(6,I E.length),(0,.ptr k 0 0)],lb nb (upd box k (some [s.rowF nl fm N x.a E x.b x.out x.own])) [],x.tok,x.nt⟩
theorem rI_cut (E:List Int) (v:Int):List.take E.length (rI (E++[v]))=rI E:=by
 unfold rI;rw [List.map_append,List.take_append_of_le_length (by simp),List.take_of_length_le (by simp)]
set_option maxRecDepth 100000 in
theorem findE_c (s:Sr) (h:s.Ok) (nl:Bool) (hnl:s.Nl nl) (fm:Nat) (hfm:fm≤1000000) (N:List Int) (hN:N.length=s.p.nodes.length) (mtok:Tks) (nt0:Nat):∀ (n:Nat) (E:List Int) (out:List Mo) (a b:Nat) (own:Own) (box:Bxs) (nb k:Nat) (tok:Tks) (nt:Nat),E.length+n=s.p.edges.length→out.length≤fm →
  box k=some [s.rowF nl fm N a E b out own]→TK mtok nt0 tok nt [.tok a,.tok b,own]→ACalls Tryz.prog 286 [.ptr k 0 0] ⟨box,nb,tok,nt⟩ (QFd s nl fm box nb k mtok nt0 nt N E (fndE fm (s.okE N) s.g.edges.length N n E out)):=by
 have hpn:=h.p.n;have hpe:=h.p.e;have hgn:=h.g.n;have hge:=h.g.e;intro n;induction n with
 | zero =>
  intro E out a b own box nb k tok nt hE ho hk htk;have hself:box=upd box k (some [s.rowF nl fm N a E b out own]):=(upd_self box k _ hk).symm
  refine sI Tryz.func286 Tryz.ntmps286 fun hbox htok=>?_
  have hkn:=key_lt hbox hk;have hEl:E.length=s.p.edges.length:=by omega
  repeat (first|simp [lb_out hkn,hk]|refine sR ?_)
  by_cases hbig:out.length=fm
  ·have b1:((out.length:Int)==(fm:Int))=true:=by simp [hbig]
   try (simp [lb_out hkn,hk,b1])
   repeat (first|(refine sR ?_; simp [lb_out hkn,hk,b1])|(refine sC ?_; simp [lb_out hkn,hk,b1])|(refine sX ?_; simp only [AU, ↓reduceIte]))
   refine sN ?_;refine sE ?_;refine ⟨by simp,(Fin.own (vs:=[]) (av:=.tup []) (by simp [resAs,resA]) hbox rfl (Nat.le_refl _) (by simp [packA])).mono fun v m hq=>⟨hq.1,a,b,own,tok,nt,?_,htk,Nat.le_refl _⟩⟩;rw [hq.2,fndE,if_pos hbig,←hself]
  ·have b1:((out.length:Int)==(fm:Int))=false:=by simp; omega
   have hta:tok a=true:=htk.live
   have htb:tok b=true:=htk.swap.live
   try (simp [lb_out hkn,hk,b1,hN,hEl])
   repeat (first|(refine sR ?_; simp [lb_out hkn,hk,b1,hN,hEl])|(refine sC ?_; simp [lb_out hkn,hk,b1,hN,hEl])|(refine sX ?_; simp only [AU, ↓reduceIte]))
   refine Stop.of_d (cloneS_c N (by omega) a _ _ hta) ?_;simp [lb_out hkn,hk];refine Stop.of_d (cloneS_c E (by omega) b _ _ htb) ?_;simp [lb_out hkn,hk];refine ⟨⟨by omega,htk.pick3.live⟩,?_⟩;simp only [upd_lb_out hkn];refine sN ?_;refine sE ?_;have htk2:=htk.pick3.app.put3;refine ⟨by simp,(Fin.gen (vs:=[]) (av:=.tup []) (tok':=upd (own.kill tok) nt true) (nt':=nt+1) (by simp [resAs,resA]) ?_ (by omega) (Nat.le_refl _) (fun t h=>⟨h,.inl rfl⟩) ?_ (by simp [packA])).mono fun v m hq=>⟨hq.1,a,b,.tok nt,_,nt+1,?_,htk2,by omega⟩⟩
   ·rw [←upd_lb_out hkn,hbox]
   ·intro k' rows hk' hr;by_cases e:k'=k
    ·subst e;rw [upd_same] at hr;cases hr;exact .inr (by simp)
    ·rw [upd_other _ _ e] at hr;exact .inl hr
   ·rw [hq.2,fndE,if_neg hbig];simp [Sr.rowF]
 | succ n ih =>
  intro E out a b own box nb k tok nt hE ho hk htk;have hself:box=upd box k (some [s.rowF nl fm N a E b out own]):=(upd_self box k _ hk).symm
  have hlt:E.length<s.p.edges.length:=by omega
  refine sI Tryz.func286 Tryz.ntmps286 fun hbox htok=>?_
  have hkn:=key_lt hbox hk;repeat (first|simp [lb_out hkn,hk]|refine sR ?_)
  by_cases hbig:out.length=fm
  ·have b1:((out.length:Int)==(fm:Int))=true:=by simp [hbig]
   try (simp [lb_out hkn,hk,b1])
   repeat (first|(refine sR ?_; simp [lb_out hkn,hk,b1])|(refine sC ?_; simp [lb_out hkn,hk,b1])|(refine sX ?_; simp only [AU, ↓reduceIte]))
   refine sN ?_;refine sE ?_;refine ⟨by simp,(Fin.own (vs:=[]) (av:=.tup []) (by simp [resAs,resA]) hbox rfl (Nat.le_refl _) (by simp [packA])).mono fun v m hq=>⟨hq.1,a,b,own,tok,nt,?_,htk,Nat.le_refl _⟩⟩;rw [hq.2,fndE,if_pos hbig,←hself]
  ·have b1:((out.length:Int)==(fm:Int))=false:=by simp; omega
   try (simp [lb_out hkn,hk,b1,hN,hlt])
   repeat (first|(refine sR ?_; simp [lb_out hkn,hk,b1,hN,hlt])|(refine sC ?_; simp [lb_out hkn,hk,b1,hN,hlt])|(refine sX ?_; simp only [AU, ↓reduceIte]))
   refine sN ?_;have hlb:∀ loc,lb nb box loc=lb nb (upd box k (some [s.rowF nl fm N a E b out own])) loc:=fun loc=>by rw [←hself]
   rw [hlb];refine AL.loopT (stFdE s nl fm N E nb k box) (fun x=>x.i≤s.g.edges.length∧x.out=(List.range x.i).foldl (s.stEp fm N E n) out∧x.out.length≤fm∧TK mtok nt0 x.tok x.nt [.tok x.a,.tok x.b,x.own]∧nt≤x.nt) (fun x=>s.g.edges.length - x.i)
    ⟨0,out,a,b,own,tok,nt⟩ ⟨Nat.zero_le _,rfl,ho,htk,Nat.le_refl _⟩ (Weaks.mk' (Nat.le_refl _) (by simp [ToL,lk]; exact to_ptr (by rw [lb_out hkn,upd_same]; simp)) (by simp [BoxL,lk]) (outFd rfl)) ?_
   rintro ⟨i,out2,a2,b2,own2,tok2,nt2⟩ S ⟨hi,hout,ho2,htk2,hnt2⟩ hS;simp only [stFdE] at hS hi hout ho2 htk2 hnt2;subst hS;have hw:IntKind.i64.wrap (↑i+1)=((i+1:Nat):Int):=by rw [wrap_in (by omega) (by omega)]; omega
   have hfold:(List.range (i+1)).foldl (s.stEp fm N E n) out=s.stEp fm N E n out2 i:=by
    rw [hout,List.range_succ,List.foldl_append]; rfl
   have hta:tok2 a2=true:=htk2.live
   have htb:tok2 b2=true:=htk2.swap.live
   by_cases hli:i<s.g.edges.length
   ·obtain ⟨x1,x2,x3,x4⟩:=h.vp _ (List.getElem_mem hlt);have hgd:s.p.edges.getD E.length default=s.p.edges[E.length]:=by simp [hlt]
    have hfit:=fitsF_c s h nl hnl fm N E out2 E.length i hlt hli (by rw [hgd]; omega) (by rw [hgd]; omega);have hoke:=s.okE_eq N E i;try (simp [lb_out hkn,upd_same,hli])
    repeat (first|(refine sR ?_; simp [lb_out hkn,upd_same,hli])|(refine sC ?_; simp [lb_out hkn,upd_same,hli])|(refine sX ?_; simp only [AU, ↓reduceIte]))
    refine Stop.of_r (RCall.lends rfl (fun tok=>hfit tok nt2) ⟨.ptr (by simp only [lb_out hkn,upd_same]) (Sr.row_cds (own:=own2) hta htb),.same (by simp),.same (by simp),trivial⟩) ?_;cases e1:s.fitK N E.length i
    ·have hok:s.okE N E i=false:=by rw [hoke,e1]; rfl
     try (simp [lb_out hkn,upd_same,hw])
     repeat (first|(refine sR ?_; simp [lb_out hkn,upd_same,hw])|(refine sC ?_; simp [lb_out hkn,upd_same,hw])|(refine sX ?_; simp only [AU, ↓reduceIte]))
     refine sE ?_;exact ⟨⟨i+1,out2,a2,b2,own2,tok2,nt2⟩,⟨hli,by rw [hfold,Sr.stEp,hok]; simp,ho2,htk2,hnt2⟩,by simp only; omega,Weaks.mk' (by have:=htk2.le; omega) (by simp [ToL,lk]; exact to_ptr (by rw [lb_out hkn,upd_same]; simp)) (by simp [BoxL,lk]) (outFd rfl)⟩
    ·have hoke:s.okE N E i=!usB s.inj E i:=by rw [hoke,e1]; simp
     have skip:∀ Q:Prop,(s.inj=true→decide ((i:Int)∈E)=true→Q)→(s.inj=true→decide ((i:Int)∈E)=false→Q)→(s.inj=false→Q)→Q:=by
      intro Q h1 h2 h3;cases ei:s.inj
      ·exact h3 ei
      ·cases ed:decide ((i:Int)∈E)
       ·exact h2 ei ed
       ·exact h1 ei ed
     refine skip _ (fun ei ed=>?_) (fun ei ed=>?_) (fun ei=>?_)
     ·have hok:s.okE N E i=false:=by rw [hoke,usB,if_pos ei,ed]; rfl
      simp [lb_out hkn,upd_same,ei];refine Stop.of_r (RCall.lends rfl (fun tok=>contains_c E i (by omega) tok nt2) ⟨.stk htb,.same (by simp),trivial⟩) ?_;rw [ed];try (simp [hw])
      repeat (first|(refine sR ?_; simp [hw])|(refine sC ?_; simp [hw])|(refine sX ?_; simp only [AU, ↓reduceIte]))
      refine sE ?_;exact ⟨⟨i+1,out2,a2,b2,own2,tok2,nt2⟩,⟨hli,by rw [hfold,Sr.stEp,hok]; simp,ho2,htk2,hnt2⟩,by simp only; omega,Weaks.mk' (by have:=htk2.le; omega) (by simp [ToL,lk]; exact to_ptr (by rw [lb_out hkn,upd_same]; simp)) (by simp [BoxL,lk]) (outFd rfl)⟩
     ·have hok:s.okE N E i=true:=by rw [hoke,usB,if_pos ei,ed]; rfl
      simp [lb_out hkn,upd_same,ei];refine Stop.of_r (RCall.lends rfl (fun tok=>contains_c E i (by omega) tok nt2) ⟨.stk htb,.same (by simp),trivial⟩) ?_;rw [ed];try (simp [lb_out hkn,upd_same])
      repeat (first|(refine sR ?_; simp [lb_out hkn,upd_same])|(refine sC ?_; simp [lb_out hkn,upd_same])|(refine sX ?_; simp only [AU, ↓reduceIte]))
      refine ⟨⟨by omega,htb⟩,?_⟩;have htk3:=htk2.swap.app.swap;simp only [upd_lb_out hkn,upd_upd];try (simp [lb_out hkn,upd_same])
      repeat (first|(refine sR ?_; simp [lb_out hkn,upd_same])|(refine sC ?_; simp [lb_out hkn,upd_same])|(refine sX ?_; simp only [AU, ↓reduceIte]))
      refine Stop.of_a (ih (E++[(i:Int)]) out2 a2 nt2 own2 _ _ k _ _ (by simp; omega) ho2 (by simp [lb_out hkn,upd_same]) htk3) ?_;rintro v m' ⟨rfl,a3,b3,own3,tok3,nt3,rfl,htk4,hle4⟩;have hle4:nt2+1≤nt3:=hle4
      have hle5:nt≤nt3:=by omega
      simp [upd_lb_out hkn,upd_upd];try (simp [lb_out hkn,upd_same,rI_cut,hw])
      repeat (first|(refine sR ?_; simp [lb_out hkn,upd_same,rI_cut,hw])|(refine sC ?_; simp [lb_out hkn,upd_same,rI_cut,hw])|(refine sX ?_; simp only [AU, ↓reduceIte]))
      simp only [upd_lb_out hkn,upd_upd];refine sE ?_;exact ⟨⟨i+1,fndE fm (s.okE N) s.g.edges.length N n (E++[(i:Int)]) out2,a3,b3,own3,tok3,nt3⟩,⟨hli,by rw [hfold,Sr.stEp,hok]; simp,fndE_len ho2,htk4,by omega⟩,by simp only; omega,Weaks.mk' hle5 (by simp [ToL,lk]; exact to_ptr (by rw [lb_out hkn,upd_same]; simp)) (by simp [BoxL,lk]) (outFd rfl)⟩
     ·have hok:s.okE N E i=true:=by rw [hoke,usB,if_neg (by simp [ei])]; rfl
      simp [lb_out hkn,upd_same,ei];try (simp [lb_out hkn,upd_same])
      repeat (first|(refine sR ?_; simp [lb_out hkn,upd_same])|(refine sC ?_; simp [lb_out hkn,upd_same])|(refine sX ?_; simp only [AU, ↓reduceIte]))
      refine ⟨⟨by omega,htb⟩,?_⟩;have htk3:=htk2.swap.app.swap;simp only [upd_lb_out hkn,upd_upd];try (simp [lb_out hkn,upd_same])
      repeat (first|(refine sR ?_; simp [lb_out hkn,upd_same])|(refine sC ?_; simp [lb_out hkn,upd_same])|(refine sX ?_; simp only [AU, ↓reduceIte]))
      refine Stop.of_a (ih (E++[(i:Int)]) out2 a2 nt2 own2 _ _ k _ _ (by simp; omega) ho2 (by simp [lb_out hkn,upd_same]) htk3) ?_;rintro v m' ⟨rfl,a3,b3,own3,tok3,nt3,rfl,htk4,hle4⟩;have hle4:nt2+1≤nt3:=hle4
      have hle5:nt≤nt3:=by omega
      simp [upd_lb_out hkn,upd_upd];try (simp [lb_out hkn,upd_same,rI_cut,hw])
      repeat (first|(refine sR ?_; simp [lb_out hkn,upd_same,rI_cut,hw])|(refine sC ?_; simp [lb_out hkn,upd_same,rI_cut,hw])|(refine sX ?_; simp only [AU, ↓reduceIte]))
      simp only [upd_lb_out hkn,upd_upd];refine sE ?_;exact ⟨⟨i+1,fndE fm (s.okE N) s.g.edges.length N n (E++[(i:Int)]) out2,a3,b3,own3,tok3,nt3⟩,⟨hli,by rw [hfold,Sr.stEp,hok]; simp,fndE_len ho2,htk4,by omega⟩,by simp only; omega,Weaks.mk' hle5 (by simp [ToL,lk]; exact to_ptr (by rw [lb_out hkn,upd_same]; simp)) (by simp [BoxL,lk]) (outFd rfl)⟩
   ·have:i=s.g.edges.length:=by omega
    subst this;try (simp [lb_out hkn,upd_same])
    repeat (first|(refine sR ?_; simp [lb_out hkn,upd_same])|(refine sC ?_; simp [lb_out hkn,upd_same])|(refine sX ?_; simp only [AU, ↓reduceIte]))
    refine sN ?_;refine sE ?_;refine ⟨by simp,(Fin.gen (vs:=[]) (av:=.tup []) (tok':=tok2) (nt':=nt2) (by simp [resAs,resA]) ?_ hnt2 (Nat.le_refl _) (fun t h=>⟨h,.inl rfl⟩) (outFd (by simp)) (by simp [packA])).mono fun v m hq=>⟨hq.1,a2,b2,own2,tok2,nt2,?_,htk2,hnt2⟩⟩
    ·rw [←upd_lb_out hkn,hbox]
    ·rw [hq.2,fndE,if_neg hbig,hout]; rfl
def Sr.stNp (s:Sr) (fm:Nat) (N:List Int) (r:Nat) (out:List Mo) (k:Nat):List Mo :=
 if s.okN N k=true then (if s.pos (N++[(k:Int)])=true then s.fnP fm r (N++[(k:Int)]) out else out) else out
def stFdN (s:Sr) (nl:Bool) (fm:Nat) (N:List Int) (nb k:Nat) (box:Bxs) (x:AccK):AState :=
 ⟨tl [(63,I x.i),(62,I s.g.nodes.length),(61,.d (ints s.g.nodes)),(2,I N.length),(0,.ptr k 0 0)],lb nb (upd box k (some [s.rowF nl fm N x.a [] x.b x.out x.own])) [],x.tok,x.nt⟩
theorem isD_row {t:Ty} {a:Nat} (h:a<t.nodes.length):(isTb t)[a]'(by simp [isTb]; exact h)=isRow t a:=by simp [isTb]
set_option maxRecDepth 100000 in
theorem findN_c (s:Sr) (h:s.Ok) (nl:Bool) (hnl:s.Nl nl) (fm:Nat) (hfm:fm≤1000000) (mtok:Tks) (nt0:Nat):∀ (r:Nat) (N:List Int) (out:List Mo) (a b:Nat) (own:Own) (box:Bxs) (nb k:Nat) (tok:Tks) (nt:Nat),N.length+r=s.p.nodes.length→out.length≤fm →
  box k=some [s.rowF nl fm N a [] b out own]→TK mtok nt0 tok nt [.tok a,.tok b,own]→ACalls Tryz.prog 286 [.ptr k 0 0] ⟨box,nb,tok,nt⟩ (QFd s nl fm box nb k mtok nt0 nt N [] (s.fnP fm r N out)):=by
 have hpn:=h.p.n;have hpe:=h.p.e;have hgn:=h.g.n;have hge:=h.g.e;have htn:=h.t.n;intro r;induction r with
 | zero =>
  intro N out a b own box nb k tok nt hN ho hk htk;exact findE_c s h nl hnl fm hfm N (by omega) mtok nt0 s.p.edges.length [] out a b own box nb k tok nt (by simp) ho hk htk
 | succ r ih =>
  intro N out a b own box nb k tok nt hN ho hk htk;have hself:box=upd box k (some [s.rowF nl fm N a [] b out own]):=(upd_self box k _ hk).symm
  have hlt:N.length<s.p.nodes.length:=by omega
  refine sI Tryz.func286 Tryz.ntmps286 fun hbox htok=>?_
  have hkn:=key_lt hbox hk;repeat (first|simp [lb_out hkn,hk]|refine sR ?_)
  by_cases hbig:out.length=fm
  ·have b1:((out.length:Int)==(fm:Int))=true:=by simp [hbig]
   try (simp [lb_out hkn,hk,b1])
   repeat (first|(refine sR ?_; simp [lb_out hkn,hk,b1])|(refine sC ?_; simp [lb_out hkn,hk,b1])|(refine sX ?_; simp only [AU, ↓reduceIte]))
   refine sN ?_;refine sE ?_;refine ⟨by simp,(Fin.own (vs:=[]) (av:=.tup []) (by simp [resAs,resA]) hbox rfl (Nat.le_refl _) (by simp [packA])).mono fun v m hq=>⟨hq.1,a,b,own,tok,nt,?_,htk,Nat.le_refl _⟩⟩;rw [hq.2,Sr.fnP,fndN,if_pos hbig,←hself]
  ·have b1:((out.length:Int)==(fm:Int))=false:=by simp; omega
   try (simp [lb_out hkn,hk,b1,hlt])
   repeat (first|(refine sR ?_; simp [lb_out hkn,hk,b1,hlt])|(refine sC ?_; simp [lb_out hkn,hk,b1,hlt])|(refine sX ?_; simp only [AU, ↓reduceIte]))
   refine sN ?_;have hlb:∀ loc,lb nb box loc=lb nb (upd box k (some [s.rowF nl fm N a [] b out own])) loc:=fun loc=>by rw [←hself]
   rw [hlb];refine AL.loopT (stFdN s nl fm N nb k box) (fun x=>x.i≤s.g.nodes.length∧x.out=(List.range x.i).foldl (s.stNp fm N r) out∧x.out.length≤fm∧TK mtok nt0 x.tok x.nt [.tok x.a,.tok x.b,x.own]∧nt≤x.nt) (fun x=>s.g.nodes.length - x.i)
    ⟨0,out,a,b,own,tok,nt⟩ ⟨Nat.zero_le _,rfl,ho,htk,Nat.le_refl _⟩ (Weaks.mk' (Nat.le_refl _) (by simp [ToL,lk]; exact to_ptr (by rw [lb_out hkn,upd_same]; simp)) (by simp [BoxL,lk]) (outFd rfl)) ?_
   rintro ⟨i,out2,a2,b2,own2,tok2,nt2⟩ S ⟨hi,hout,ho2,htk2,hnt2⟩ hS;simp only [stFdN] at hS hi hout ho2 htk2 hnt2;subst hS;have hw:IntKind.i64.wrap (↑i+1)=((i+1:Nat):Int):=by rw [wrap_in (by omega) (by omega)]; omega
   have hfold:(List.range (i+1)).foldl (s.stNp fm N r) out=s.stNp fm N r out2 i:=by
    rw [hout,List.range_succ,List.foldl_append]; rfl
   have hta:tok2 a2=true:=htk2.live
   have htb:tok2 b2=true:=htk2.swap.live
   by_cases hli:i<s.g.nodes.length
   ·have hlp:N.length<s.pt.nodes.length:=by rw [h.pn]; exact hlt
    have hgv:=gvB_gvI hnl.n hlp i;have hgiv:=givenF_c nl s.pt.nodes N.length hlp (by rw [h.pn]; omega);obtain ⟨z1,z2⟩:=h.np _ (List.getElem_mem hlt);obtain ⟨z3,z4⟩:=h.ng _ (List.getElem_mem hli);have hgi:s.g.nodes.getD i 0=s.g.nodes[i]:=by simp [hli]
    have hpn2:s.p.nodes.getD N.length 0=s.p.nodes[N.length]:=by simp [hlt]
    obtain ⟨q,hq⟩:=Int.eq_ofNat_of_zero_le z1;obtain ⟨u,hu⟩:=Int.eq_ofNat_of_zero_le z3;have hq2:q<s.t.nodes.length:=by omega
    have hu2:u<s.t.nodes.length:=by omega
    have hokN:s.okN N i=if (if 0≤gvI nl s.pt.nodes N.length then decide (gvI nl s.pt.nodes N.length=(i:Int)) else true)=true then (if usB s.inj N i=true then false else isB s.t (u:Int) (q:Int)) else false:=by
     unfold Sr.okN;rw [hgv,hgi,hpn2,hq,hu]
    generalize gvI nl s.pt.nodes N.length=W at *;have hisD:D.sl 1 (List.map (fun r=>[blB r]) (isTb s.t))=isD s.t:=rfl
    have hlt1:(isTb s.t).length=s.t.nodes.length:=by simp [isTb]
    have hlt2:(isRow s.t q).length=s.t.nodes.length:=by simp [isRow]
    have hrow:(isTb s.t)[q]'(by rw [hlt1]; exact hq2)=isRow s.t q:=isD_row hq2
    have hcol:(isRow s.t q)[u]'(by rw [hlt2]; exact hu2)=isB s.t (u:Int) (q:Int):=by simp [isRow]
    try (simp [lb_out hkn,upd_same,hli])
    repeat (first|(refine sR ?_; simp [lb_out hkn,upd_same,hli])|(refine sC ?_; simp [lb_out hkn,upd_same,hli])|(refine sX ?_; simp only [AU, ↓reduceIte]))
    refine Stop.of_d (hgiv _ _) ?_;simp;by_cases p01:0≤W∧W≠(i:Int)
    ·obtain ⟨p0,p1⟩:=p01;have bw:(W != (i:Int))=true:=by simp [p1]
     have hok:s.okN N i=false:=by rw [hokN,if_pos p0]; simp [p1]
     try (simp [lb_out hkn,upd_same,p0,bw,hw])
     repeat (first|(refine sR ?_; simp [lb_out hkn,upd_same,p0,bw,hw])|(refine sC ?_; simp [lb_out hkn,upd_same,p0,bw,hw])|(refine sX ?_; simp only [AU, ↓reduceIte]))
     refine sE ?_;exact ⟨⟨i+1,out2,a2,b2,own2,tok2,nt2⟩,⟨hli,by rw [hfold,Sr.stNp,hok]; simp,ho2,htk2,hnt2⟩,by simp only; omega,Weaks.mk' (by have:=htk2.le; omega) (by simp [ToL,lk]; exact to_ptr (by rw [lb_out hkn,upd_same]; simp)) (by simp [BoxL,lk]) (outFd rfl)⟩
    ·have hW:(if 0≤W then decide (W=(i:Int)) else true)=true:=by
      by_cases p0:0≤W
      ·rw [if_pos p0];by_cases p1:W=(i:Int)
       ·simp [p1]
       ·exact absurd ⟨p0,p1⟩ p01
      ·rw [if_neg p0]
     rw [if_pos hW] at hokN;have hst:∀ Q,(0≤W→(W != (i:Int))=false→Q)→(¬ 0≤W→Q)→Q:=by
      intro Q h1 h2;by_cases p0:0≤W
      ·refine h1 p0 ?_;by_cases p1:W=(i:Int)
       ·simp [p1]
       ·exact absurd ⟨p0,p1⟩ p01
      ·exact h2 p0
     have skip:∀ Q:Prop,(s.inj=true→decide ((i:Int)∈N)=true→Q)→(s.inj=true→decide ((i:Int)∈N)=false→Q)→(s.inj=false→Q)→Q:=by
      intro Q h1 h2 h3;cases ei:s.inj
      ·exact h3 ei
      ·cases ed:decide ((i:Int)∈N)
       ·exact h2 ei ed
       ·exact h1 ei ed
     refine hst _ (fun p0 bw=>?_) (fun p0=>?_)
     ·cases hB:isB s.t (u:Int) (q:Int)
      ·have hok:s.okN N i=false:=by rw [hokN,hB]; simp
       try (simp [lb_out hkn,upd_same,p0,bw,hw,hlt,hq,hu,hq2,hu2,isD,hlt1,hlt2,hrow,hcol,hB])
       repeat (first|(refine sR ?_; simp [lb_out hkn,upd_same,p0,bw,hw,hlt,hq,hu,hq2,hu2,isD,hlt1,hlt2,hrow,hcol,hB])|(refine sC ?_; simp [lb_out hkn,upd_same,p0,bw,hw,hlt,hq,hu,hq2,hu2,isD,hlt1,hlt2,hrow,hcol,hB])|(refine sX ?_; simp only [AU, ↓reduceIte]))
       refine sE ?_;exact ⟨⟨i+1,out2,a2,b2,own2,tok2,nt2⟩,⟨hli,by rw [hfold,Sr.stNp,hok]; simp,ho2,htk2,hnt2⟩,by simp only; omega,Weaks.mk' (by have:=htk2.le; omega) (by simp [ToL,lk]; exact to_ptr (by rw [lb_out hkn,upd_same]; simp)) (by simp [BoxL,lk]) (outFd rfl)⟩
      ·rw [hB] at hokN;refine skip _ (fun ei ed=>?_) (fun ei ed=>?_) (fun ei=>?_)
       ·have hok:s.okN N i=false:=by rw [hokN,usB,if_pos ei,ed]; rfl
        try (simp [lb_out hkn,upd_same,p0,bw,hw,hlt,hq,hu,hq2,hu2,isD,hlt1,hlt2,hrow,hcol,hB,ei])
        repeat (first|(refine sR ?_; simp [lb_out hkn,upd_same,p0,bw,hw,hlt,hq,hu,hq2,hu2,isD,hlt1,hlt2,hrow,hcol,hB,ei])|(refine sC ?_; simp [lb_out hkn,upd_same,p0,bw,hw,hlt,hq,hu,hq2,hu2,isD,hlt1,hlt2,hrow,hcol,hB,ei])|(refine sX ?_; simp only [AU, ↓reduceIte]))
        refine Stop.of_r (RCall.lends rfl (fun tok=>contains_c N i (by omega) tok nt2) ⟨.stk hta,.same (by simp),trivial⟩) ?_;rw [ed];try (simp [hw])
        repeat (first|(refine sR ?_; simp [hw])|(refine sC ?_; simp [hw])|(refine sX ?_; simp only [AU, ↓reduceIte]))
        refine sE ?_;exact ⟨⟨i+1,out2,a2,b2,own2,tok2,nt2⟩,⟨hli,by rw [hfold,Sr.stNp,hok]; simp,ho2,htk2,hnt2⟩,by simp only; omega,Weaks.mk' (by have:=htk2.le; omega) (by simp [ToL,lk]; exact to_ptr (by rw [lb_out hkn,upd_same]; simp)) (by simp [BoxL,lk]) (outFd rfl)⟩
       ·have hok:s.okN N i=true:=by rw [hokN,usB,if_pos ei,ed]; rfl
        try (simp [lb_out hkn,upd_same,p0,bw,hw,hlt,hq,hu,hq2,hu2,isD,hlt1,hlt2,hrow,hcol,hB,ei])
        repeat (first|(refine sR ?_; simp [lb_out hkn,upd_same,p0,bw,hw,hlt,hq,hu,hq2,hu2,isD,hlt1,hlt2,hrow,hcol,hB,ei])|(refine sC ?_; simp [lb_out hkn,upd_same,p0,bw,hw,hlt,hq,hu,hq2,hu2,isD,hlt1,hlt2,hrow,hcol,hB,ei])|(refine sX ?_; simp only [AU, ↓reduceIte]))
        refine Stop.of_r (RCall.lends rfl (fun tok=>contains_c N i (by omega) tok nt2) ⟨.stk hta,.same (by simp),trivial⟩) ?_;rw [ed];try (simp [lb_out hkn,upd_same])
        repeat (first|(refine sR ?_; simp [lb_out hkn,upd_same])|(refine sC ?_; simp [lb_out hkn,upd_same])|(refine sX ?_; simp only [AU, ↓reduceIte]))
        refine ⟨⟨by omega,hta⟩,?_⟩;have htk3:=htk2.app;simp only [upd_lb_out hkn,upd_upd];have hta3:(upd (upd tok2 a2 false) nt2 true) nt2=true:=upd_same _ _ _
        have htb3:(upd (upd tok2 a2 false) nt2 true) b2=true:=htk3.swap.live
        have hpos:=possibleF_c s h nl hnl fm (N++[(i:Int)]) [] (by simp; omega) out2;try (simp [lb_out hkn,upd_same])
        repeat (first|(refine sR ?_; simp [lb_out hkn,upd_same])|(refine sC ?_; simp [lb_out hkn,upd_same])|(refine sX ?_; simp only [AU, ↓reduceIte]))
        refine Stop.of_r (RCall.lends rfl (fun tok=>hpos tok (nt2+1)) ⟨.ptr (row:=s.rowF nl fm (N++[(i:Int)]) nt2 [] b2 out2 own2) (by simp [lb_out hkn,upd_same]) (Sr.row_cds (own:=own2) hta3 htb3),trivial⟩) ?_;cases hP:s.pos (N++[(i:Int)])
        ·try (simp [lb_out hkn,upd_same,rI_cut,hw])
         repeat (first|(refine sR ?_; simp [lb_out hkn,upd_same,rI_cut,hw])|(refine sC ?_; simp [lb_out hkn,upd_same,rI_cut,hw])|(refine sX ?_; simp only [AU, ↓reduceIte]))
         simp only [upd_lb_out hkn,upd_upd];refine sE ?_;exact ⟨⟨i+1,out2,nt2,b2,own2,_,nt2+1⟩,⟨hli,by rw [hfold,Sr.stNp,hok,hP]; simp,ho2,htk3,Nat.le_succ_of_le hnt2⟩,by simp only; omega,Weaks.mk' (Nat.le_succ_of_le hnt2) (by simp [ToL,lk]; exact to_ptr (by rw [lb_out hkn,upd_same]; simp)) (by simp [BoxL,lk]) (outFd (s:=s) (nl:=nl) (fm:=fm) (N:=N) (E:=[]) (a:=nt2) (b:=b2) (out:=out2) (own:=own2) rfl)⟩
        ·try (simp [lb_out hkn,upd_same])
         repeat (first|(refine sR ?_; simp [lb_out hkn,upd_same])|(refine sC ?_; simp [lb_out hkn,upd_same])|(refine sX ?_; simp only [AU, ↓reduceIte]))
         refine Stop.of_a (ih (N++[(i:Int)]) out2 nt2 b2 own2 _ _ k _ _ (by simp; omega) ho2 (by simp [lb_out hkn,upd_same]) htk3) ?_;rintro v m' ⟨rfl,a3,b3,own3,tok3,nt3,rfl,htk4,hle4⟩;have hle4:nt2+1≤nt3:=hle4
         have hle5:nt≤nt3:=by omega
         simp [upd_lb_out hkn,upd_upd];try (simp [lb_out hkn,upd_same,rI_cut,hw])
         repeat (first|(refine sR ?_; simp [lb_out hkn,upd_same,rI_cut,hw])|(refine sC ?_; simp [lb_out hkn,upd_same,rI_cut,hw])|(refine sX ?_; simp only [AU, ↓reduceIte]))
         simp only [upd_lb_out hkn,upd_upd];refine sE ?_;exact ⟨⟨i+1,s.fnP fm r (N++[(i:Int)]) out2,a3,b3,own3,tok3,nt3⟩,⟨hli,by rw [hfold,Sr.stNp,hok,hP]; simp,Sr.fnP_len h ho2,htk4,by omega⟩,by simp only; omega,Weaks.mk' hle5 (by simp [ToL,lk]; exact to_ptr (by rw [lb_out hkn,upd_same]; simp)) (by simp [BoxL,lk]) (outFd (s:=s) (nl:=nl) (fm:=fm) (N:=N) (E:=[]) (a:=a3) (b:=b3) (out:=s.fnP fm r (N++[(i:Int)]) out2) (own:=own3) rfl)⟩
       ·have hok:s.okN N i=true:=by rw [hokN,usB,if_neg (by simp [ei])]
        refine sR ?_;simp [lb_out hkn,upd_same,p0,bw,hw,hlt,hq,hu,hq2,hu2,isD,hlt1,hlt2,hrow,hcol,hB,ei];refine sC ?_;simp;try (simp [lb_out hkn,upd_same])
        repeat (first|(refine sR ?_; simp [lb_out hkn,upd_same])|(refine sC ?_; simp [lb_out hkn,upd_same])|(refine sX ?_; simp only [AU, ↓reduceIte]))
        refine ⟨⟨by omega,hta⟩,?_⟩;have htk3:=htk2.app;simp only [upd_lb_out hkn,upd_upd];have hta3:(upd (upd tok2 a2 false) nt2 true) nt2=true:=upd_same _ _ _
        have htb3:(upd (upd tok2 a2 false) nt2 true) b2=true:=htk3.swap.live
        have hpos:=possibleF_c s h nl hnl fm (N++[(i:Int)]) [] (by simp; omega) out2;try (simp [lb_out hkn,upd_same])
        repeat (first|(refine sR ?_; simp [lb_out hkn,upd_same])|(refine sC ?_; simp [lb_out hkn,upd_same])|(refine sX ?_; simp only [AU, ↓reduceIte]))
        refine Stop.of_r (RCall.lends rfl (fun tok=>hpos tok (nt2+1)) ⟨.ptr (row:=s.rowF nl fm (N++[(i:Int)]) nt2 [] b2 out2 own2) (by simp [lb_out hkn,upd_same]) (Sr.row_cds (own:=own2) hta3 htb3),trivial⟩) ?_;cases hP:s.pos (N++[(i:Int)])
        ·try (simp [lb_out hkn,upd_same,rI_cut,hw])
         repeat (first|(refine sR ?_; simp [lb_out hkn,upd_same,rI_cut,hw])|(refine sC ?_; simp [lb_out hkn,upd_same,rI_cut,hw])|(refine sX ?_; simp only [AU, ↓reduceIte]))
         simp only [upd_lb_out hkn,upd_upd];refine sE ?_;exact ⟨⟨i+1,out2,nt2,b2,own2,_,nt2+1⟩,⟨hli,by rw [hfold,Sr.stNp,hok,hP]; simp,ho2,htk3,Nat.le_succ_of_le hnt2⟩,by simp only; omega,Weaks.mk' (Nat.le_succ_of_le hnt2) (by simp [ToL,lk]; exact to_ptr (by rw [lb_out hkn,upd_same]; simp)) (by simp [BoxL,lk]) (outFd (s:=s) (nl:=nl) (fm:=fm) (N:=N) (E:=[]) (a:=nt2) (b:=b2) (out:=out2) (own:=own2) rfl)⟩
        ·try (simp [lb_out hkn,upd_same])
         repeat (first|(refine sR ?_; simp [lb_out hkn,upd_same])|(refine sC ?_; simp [lb_out hkn,upd_same])|(refine sX ?_; simp only [AU, ↓reduceIte]))
         refine Stop.of_a (ih (N++[(i:Int)]) out2 nt2 b2 own2 _ _ k _ _ (by simp; omega) ho2 (by simp [lb_out hkn,upd_same]) htk3) ?_;rintro v m' ⟨rfl,a3,b3,own3,tok3,nt3,rfl,htk4,hle4⟩;have hle4:nt2+1≤nt3:=hle4
         have hle5:nt≤nt3:=by omega
         simp [upd_lb_out hkn,upd_upd];try (simp [lb_out hkn,upd_same,rI_cut,hw])
         repeat (first|(refine sR ?_; simp [lb_out hkn,upd_same,rI_cut,hw])|(refine sC ?_; simp [lb_out hkn,upd_same,rI_cut,hw])|(refine sX ?_; simp only [AU, ↓reduceIte]))
         simp only [upd_lb_out hkn,upd_upd];refine sE ?_;exact ⟨⟨i+1,s.fnP fm r (N++[(i:Int)]) out2,a3,b3,own3,tok3,nt3⟩,⟨hli,by rw [hfold,Sr.stNp,hok,hP]; simp,Sr.fnP_len h ho2,htk4,by omega⟩,by simp only; omega,Weaks.mk' hle5 (by simp [ToL,lk]; exact to_ptr (by rw [lb_out hkn,upd_same]; simp)) (by simp [BoxL,lk]) (outFd (s:=s) (nl:=nl) (fm:=fm) (N:=N) (E:=[]) (a:=a3) (b:=b3) (out:=s.fnP fm r (N++[(i:Int)]) out2) (own:=own3) rfl)⟩
     ·cases hB:isB s.t (u:Int) (q:Int)
      ·have hok:s.okN N i=false:=by rw [hokN,hB]; simp
       try (simp [lb_out hkn,upd_same,p0,hw,hlt,hq,hu,hq2,hu2,isD,hlt1,hlt2,hrow,hcol,hB])
       repeat (first|(refine sR ?_; simp [lb_out hkn,upd_same,p0,hw,hlt,hq,hu,hq2,hu2,isD,hlt1,hlt2,hrow,hcol,hB])|(refine sC ?_; simp [lb_out hkn,upd_same,p0,hw,hlt,hq,hu,hq2,hu2,isD,hlt1,hlt2,hrow,hcol,hB])|(refine sX ?_; simp only [AU, ↓reduceIte]))
       refine sE ?_;exact ⟨⟨i+1,out2,a2,b2,own2,tok2,nt2⟩,⟨hli,by rw [hfold,Sr.stNp,hok]; simp,ho2,htk2,hnt2⟩,by simp only; omega,Weaks.mk' (by have:=htk2.le; omega) (by simp [ToL,lk]; exact to_ptr (by rw [lb_out hkn,upd_same]; simp)) (by simp [BoxL,lk]) (outFd rfl)⟩
      ·rw [hB] at hokN;refine skip _ (fun ei ed=>?_) (fun ei ed=>?_) (fun ei=>?_)
       ·have hok:s.okN N i=false:=by rw [hokN,usB,if_pos ei,ed]; rfl
        try (simp [lb_out hkn,upd_same,p0,hw,hlt,hq,hu,hq2,hu2,isD,hlt1,hlt2,hrow,hcol,hB,ei])
        repeat (first|(refine sR ?_; simp [lb_out hkn,upd_same,p0,hw,hlt,hq,hu,hq2,hu2,isD,hlt1,hlt2,hrow,hcol,hB,ei])|(refine sC ?_; simp [lb_out hkn,upd_same,p0,hw,hlt,hq,hu,hq2,hu2,isD,hlt1,hlt2,hrow,hcol,hB,ei])|(refine sX ?_; simp only [AU, ↓reduceIte]))
        refine Stop.of_r (RCall.lends rfl (fun tok=>contains_c N i (by omega) tok nt2) ⟨.stk hta,.same (by simp),trivial⟩) ?_;rw [ed];try (simp [hw])
        repeat (first|(refine sR ?_; simp [hw])|(refine sC ?_; simp [hw])|(refine sX ?_; simp only [AU, ↓reduceIte]))
        refine sE ?_;exact ⟨⟨i+1,out2,a2,b2,own2,tok2,nt2⟩,⟨hli,by rw [hfold,Sr.stNp,hok]; simp,ho2,htk2,hnt2⟩,by simp only; omega,Weaks.mk' (by have:=htk2.le; omega) (by simp [ToL,lk]; exact to_ptr (by rw [lb_out hkn,upd_same]; simp)) (by simp [BoxL,lk]) (outFd rfl)⟩
       ·have hok:s.okN N i=true:=by rw [hokN,usB,if_pos ei,ed]; rfl
        try (simp [lb_out hkn,upd_same,p0,hw,hlt,hq,hu,hq2,hu2,isD,hlt1,hlt2,hrow,hcol,hB,ei])
        repeat (first|(refine sR ?_; simp [lb_out hkn,upd_same,p0,hw,hlt,hq,hu,hq2,hu2,isD,hlt1,hlt2,hrow,hcol,hB,ei])|(refine sC ?_; simp [lb_out hkn,upd_same,p0,hw,hlt,hq,hu,hq2,hu2,isD,hlt1,hlt2,hrow,hcol,hB,ei])|(refine sX ?_; simp only [AU, ↓reduceIte]))
        refine Stop.of_r (RCall.lends rfl (fun tok=>contains_c N i (by omega) tok nt2) ⟨.stk hta,.same (by simp),trivial⟩) ?_;rw [ed];try (simp [lb_out hkn,upd_same])
        repeat (first|(refine sR ?_; simp [lb_out hkn,upd_same])|(refine sC ?_; simp [lb_out hkn,upd_same])|(refine sX ?_; simp only [AU, ↓reduceIte]))
        refine ⟨⟨by omega,hta⟩,?_⟩;have htk3:=htk2.app;simp only [upd_lb_out hkn,upd_upd];have hta3:(upd (upd tok2 a2 false) nt2 true) nt2=true:=upd_same _ _ _
        have htb3:(upd (upd tok2 a2 false) nt2 true) b2=true:=htk3.swap.live
        have hpos:=possibleF_c s h nl hnl fm (N++[(i:Int)]) [] (by simp; omega) out2;try (simp [lb_out hkn,upd_same])
        repeat (first|(refine sR ?_; simp [lb_out hkn,upd_same])|(refine sC ?_; simp [lb_out hkn,upd_same])|(refine sX ?_; simp only [AU, ↓reduceIte]))
        refine Stop.of_r (RCall.lends rfl (fun tok=>hpos tok (nt2+1)) ⟨.ptr (row:=s.rowF nl fm (N++[(i:Int)]) nt2 [] b2 out2 own2) (by simp [lb_out hkn,upd_same]) (Sr.row_cds (own:=own2) hta3 htb3),trivial⟩) ?_;cases hP:s.pos (N++[(i:Int)])
        ·try (simp [lb_out hkn,upd_same,rI_cut,hw])
         repeat (first|(refine sR ?_; simp [lb_out hkn,upd_same,rI_cut,hw])|(refine sC ?_; simp [lb_out hkn,upd_same,rI_cut,hw])|(refine sX ?_; simp only [AU, ↓reduceIte]))
         simp only [upd_lb_out hkn,upd_upd];refine sE ?_;exact ⟨⟨i+1,out2,nt2,b2,own2,_,nt2+1⟩,⟨hli,by rw [hfold,Sr.stNp,hok,hP]; simp,ho2,htk3,Nat.le_succ_of_le hnt2⟩,by simp only; omega,Weaks.mk' (Nat.le_succ_of_le hnt2) (by simp [ToL,lk]; exact to_ptr (by rw [lb_out hkn,upd_same]; simp)) (by simp [BoxL,lk]) (outFd (s:=s) (nl:=nl) (fm:=fm) (N:=N) (E:=[]) (a:=nt2) (b:=b2) (out:=out2) (own:=own2) rfl)⟩
        ·try (simp [lb_out hkn,upd_same])
         repeat (first|(refine sR ?_; simp [lb_out hkn,upd_same])|(refine sC ?_; simp [lb_out hkn,upd_same])|(refine sX ?_; simp only [AU, ↓reduceIte]))
         refine Stop.of_a (ih (N++[(i:Int)]) out2 nt2 b2 own2 _ _ k _ _ (by simp; omega) ho2 (by simp [lb_out hkn,upd_same]) htk3) ?_;rintro v m' ⟨rfl,a3,b3,own3,tok3,nt3,rfl,htk4,hle4⟩;have hle4:nt2+1≤nt3:=hle4
         have hle5:nt≤nt3:=by omega
         simp [upd_lb_out hkn,upd_upd];try (simp [lb_out hkn,upd_same,rI_cut,hw])
         repeat (first|(refine sR ?_; simp [lb_out hkn,upd_same,rI_cut,hw])|(refine sC ?_; simp [lb_out hkn,upd_same,rI_cut,hw])|(refine sX ?_; simp only [AU, ↓reduceIte]))
         simp only [upd_lb_out hkn,upd_upd];refine sE ?_;exact ⟨⟨i+1,s.fnP fm r (N++[(i:Int)]) out2,a3,b3,own3,tok3,nt3⟩,⟨hli,by rw [hfold,Sr.stNp,hok,hP]; simp,Sr.fnP_len h ho2,htk4,by omega⟩,by simp only; omega,Weaks.mk' hle5 (by simp [ToL,lk]; exact to_ptr (by rw [lb_out hkn,upd_same]; simp)) (by simp [BoxL,lk]) (outFd (s:=s) (nl:=nl) (fm:=fm) (N:=N) (E:=[]) (a:=a3) (b:=b3) (out:=s.fnP fm r (N++[(i:Int)]) out2) (own:=own3) rfl)⟩
       ·have hok:s.okN N i=true:=by rw [hokN,usB,if_neg (by simp [ei])]
        refine sR ?_;simp [lb_out hkn,upd_same,p0,hw,hlt,hq,hu,hq2,hu2,isD,hlt1,hlt2,hrow,hcol,hB,ei];refine sC ?_;simp;try (simp [lb_out hkn,upd_same])
        repeat (first|(refine sR ?_; simp [lb_out hkn,upd_same])|(refine sC ?_; simp [lb_out hkn,upd_same])|(refine sX ?_; simp only [AU, ↓reduceIte]))
        refine ⟨⟨by omega,hta⟩,?_⟩;have htk3:=htk2.app;simp only [upd_lb_out hkn,upd_upd];have hta3:(upd (upd tok2 a2 false) nt2 true) nt2=true:=upd_same _ _ _
        have htb3:(upd (upd tok2 a2 false) nt2 true) b2=true:=htk3.swap.live
        have hpos:=possibleF_c s h nl hnl fm (N++[(i:Int)]) [] (by simp; omega) out2;try (simp [lb_out hkn,upd_same])
        repeat (first|(refine sR ?_; simp [lb_out hkn,upd_same])|(refine sC ?_; simp [lb_out hkn,upd_same])|(refine sX ?_; simp only [AU, ↓reduceIte]))
        refine Stop.of_r (RCall.lends rfl (fun tok=>hpos tok (nt2+1)) ⟨.ptr (row:=s.rowF nl fm (N++[(i:Int)]) nt2 [] b2 out2 own2) (by simp [lb_out hkn,upd_same]) (Sr.row_cds (own:=own2) hta3 htb3),trivial⟩) ?_;cases hP:s.pos (N++[(i:Int)])
        ·try (simp [lb_out hkn,upd_same,rI_cut,hw])
         repeat (first|(refine sR ?_; simp [lb_out hkn,upd_same,rI_cut,hw])|(refine sC ?_; simp [lb_out hkn,upd_same,rI_cut,hw])|(refine sX ?_; simp only [AU, ↓reduceIte]))
         simp only [upd_lb_out hkn,upd_upd];refine sE ?_;exact ⟨⟨i+1,out2,nt2,b2,own2,_,nt2+1⟩,⟨hli,by rw [hfold,Sr.stNp,hok,hP]; simp,ho2,htk3,Nat.le_succ_of_le hnt2⟩,by simp only; omega,Weaks.mk' (Nat.le_succ_of_le hnt2) (by simp [ToL,lk]; exact to_ptr (by rw [lb_out hkn,upd_same]; simp)) (by simp [BoxL,lk]) (outFd (s:=s) (nl:=nl) (fm:=fm) (N:=N) (E:=[]) (a:=nt2) (b:=b2) (out:=out2) (own:=own2) rfl)⟩
        ·try (simp [lb_out hkn,upd_same])
         repeat (first|(refine sR ?_; simp [lb_out hkn,upd_same])|(refine sC ?_; simp [lb_out hkn,upd_same])|(refine sX ?_; simp only [AU, ↓reduceIte]))
         refine Stop.of_a (ih (N++[(i:Int)]) out2 nt2 b2 own2 _ _ k _ _ (by simp; omega) ho2 (by simp [lb_out hkn,upd_same]) htk3) ?_;rintro v m' ⟨rfl,a3,b3,own3,tok3,nt3,rfl,htk4,hle4⟩;have hle4:nt2+1≤nt3:=hle4
         have hle5:nt≤nt3:=by omega
         simp [upd_lb_out hkn,upd_upd];try (simp [lb_out hkn,upd_same,rI_cut,hw])
         repeat (first|(refine sR ?_; simp [lb_out hkn,upd_same,rI_cut,hw])|(refine sC ?_; simp [lb_out hkn,upd_same,rI_cut,hw])|(refine sX ?_; simp only [AU, ↓reduceIte]))
         simp only [upd_lb_out hkn,upd_upd];refine sE ?_;exact ⟨⟨i+1,s.fnP fm r (N++[(i:Int)]) out2,a3,b3,own3,tok3,nt3⟩,⟨hli,by rw [hfold,Sr.stNp,hok,hP]; simp,Sr.fnP_len h ho2,htk4,by omega⟩,by simp only; omega,Weaks.mk' hle5 (by simp [ToL,lk]; exact to_ptr (by rw [lb_out hkn,upd_same]; simp)) (by simp [BoxL,lk]) (outFd (s:=s) (nl:=nl) (fm:=fm) (N:=N) (E:=[]) (a:=a3) (b:=b3) (out:=s.fnP fm r (N++[(i:Int)]) out2) (own:=own3) rfl)⟩
   ·have:i=s.g.nodes.length:=by omega
    subst this;try (simp [lb_out hkn,upd_same])
    repeat (first|(refine sR ?_; simp [lb_out hkn,upd_same])|(refine sC ?_; simp [lb_out hkn,upd_same])|(refine sX ?_; simp only [AU, ↓reduceIte]))
    refine sN ?_;refine sE ?_;refine ⟨by simp,(Fin.gen (vs:=[]) (av:=.tup []) (tok':=tok2) (nt':=nt2) (by simp [resAs,resA]) ?_ hnt2 (Nat.le_refl _) (fun t h=>⟨h,.inl rfl⟩) (outFd (by simp)) (by simp [packA])).mono fun v m hq=>⟨hq.1,a2,b2,own2,tok2,nt2,?_,htk2,hnt2⟩⟩
    ·rw [←upd_lb_out hkn,hbox]
    ·rw [hq.2,Sr.fnP,fndN,if_neg hbig,hout]; rfl
theorem to_frzW {p q:Nat→Prop} {k n:Nat} {L:List Bool} (h:L.length=n):To p q (some (k,1,L.map fun b=>[D.raw (.bool b)])) (.msl k 0 n 1) (.d (blB L)):=by
 have h2:=To.frz (p:=p) (q:=q) (fz:=some (k,1,L.map fun b=>[D.raw (.bool b)])) (k:=k) (sz:=1) (es:=L.map fun b=>[D.raw (.bool b)]) rfl;have:(L.map fun b=>[D.raw (.bool b)]).length=n:=by simp [h]
 rw [this] at h2;exact h2
def mkB (n:Nat) (l:List Int):List Bool:=(List.range n).map fun (b:Nat)=>decide ((b:Int)∈l)
theorem mkB_len (n:Nat) (l:List Int):(mkB n l).length=n:=by simp [mkB]
theorem mkB_nil (n:Nat):List.replicate n [B false]=rowsB (mkB n []):=by
 refine List.ext_getElem (by simp [mkB]) fun i h1 h2=>?_
 simp [rowsB,mkB]
theorem mkB_set {n:Nat} {l:List Int} {v:Int} (h0:0≤v):(mkB n l).set v.toNat true=mkB n (l++[v]):=by
 refine List.ext_getElem (by simp [mkB]) fun i h1 h2=>?_
 rw [List.getElem_set];simp only [mkB,List.getElem_map,List.getElem_range,List.mem_append,List.mem_singleton];by_cases e:v.toNat=i
 ·rw [if_pos e];have:(i:Int)=v:=by omega
  simp [this]
 ·rw [if_neg e];have:¬ (i:Int)=v:=by omega
  simp [this]
theorem mkB_row (t:Ty) (a:Nat):mkB t.nodes.length (belK t (a:Int) t.nodes.length)=isRow t a:=by
 refine List.ext_getElem (by simp [mkB,isRow]) fun i h1 h2=>?_
 simp only [mkB,isRow,List.getElem_map,List.getElem_range];have hi:i<t.nodes.length:=by simpa [mkB] using h1
 unfold belK;by_cases h:isB t (i:Int) (a:Int)=true
 ·rw [h,decide_eq_true_eq];exact List.mem_map.2 ⟨i,List.mem_filter.2 ⟨List.mem_range.2 hi,h⟩,rfl⟩
 ·simp only [Bool.not_eq_true] at h;rw [h,decide_eq_false_iff_not];intro hm;obtain ⟨x,hx,e⟩:=List.mem_map.1 hm;obtain ⟨_,hx⟩:=List.mem_filter.1 hx;have:x=i:=by omega
  subst this;rw [h] at hx;cases hx
theorem isTb_take {t:Ty} {i:Nat} (h:i<t.nodes.length):(isTb t).take (i+1)=(isTb t).take i++[isRow t i]:=by
 have hl:i<(isTb t).length:=by simp [isTb]; exact h
 rw [List.take_succ_eq_append_getElem hl,isD_row h]
def isRs (t:Ty) (i:Nat):List (List D):=((isTb t).take i).map fun r=>[blB r]
theorem isRs_succ {t:Ty} {i:Nat} (h:i<t.nodes.length):isRs t (i+1)=isRs t i++[[blB (isRow t i)]]:=by
 unfold isRs;rw [isTb_take h,List.map_append];rfl
theorem isRs_len (t:Ty) (i:Nat):(isRs t i).length≤i:=by unfold isRs; rw [List.length_map,List.length_take]; omega
def stBl (t:Ty) (nb:Nat) (box:Bxs) (x:Acc):AState :=
 ⟨tl [(13,I x.i),(12,I t.nodes.length),(11,.d (nts t.nodes)),(3,.osl 1 (isRs t x.i) x.own),(1,.ptr (nb+1) 0 0)],lb nb box [(1,[[.d (nts t.nodes),.d (ets t.edges)]])],x.tok,x.nt⟩
def stBm (t:Ty) (i:Nat) (L:List Int) (own:Own) (nb:Nat) (box:Bxs) (tok:Tks) (nt:Nat) (j:Nat):AState :=
 ⟨tl [(28,I j),(27,I L.length),(26,.d (ints L)),(5,.msl (nb+19) 0 t.nodes.length 1),(13,I i),(12,I t.nodes.length),(11,.d (nts t.nodes)),(3,.osl 1 (isRs t i) own),(1,.ptr (nb+1) 0 0)],
  lb nb box [(19,rowsB (mkB t.nodes.length (L.take j))),(1,[[.d (nts t.nodes),.d (ets t.edges)]])],tok,nt⟩
theorem belowF_c (t:Ty) (ht:t.Fit) (h0:tyE t=0) (tok:Tks) (nt:Nat):DCall Tryz.prog 285 [t.av] tok nt (.d (isD t)) tok nt:=by
 intro box nb;have htn:=ht.n;have hb:=fun a=>below_c t ht a
 refine sI Tryz.func285 Tryz.ntmps285 fun hbox htok=>?_
 repeat (first|simp|refine sR ?_)
 refine sN ?_;refine AL.loopT (stBl t nb box) (fun x=>x.i≤t.nodes.length∧TK tok nt x.tok x.nt [x.own]) (fun x=>t.nodes.length - x.i) ⟨0,.full,tok,nt⟩ ⟨Nat.zero_le _,(TK.start htok).full⟩ (Weaks.mk (Nat.le_refl _) rfl (by simp [ToL,lk,isRs]) (by simp [BoxL,lk])) ?_;rintro ⟨i,own,tok',nt'⟩ S ⟨hi,htk⟩ hS;simp only [stBl] at hS hi htk;subst hS;have hw:=sW (i:=i) (by omega);by_cases hlt:i<t.nodes.length
 ·have hrow:=mkB_row t i;have hs:=isRs_succ hlt;have hsl:=isRs_len t i;have hlR:belR t (i:Int)=(belK t (i:Int) t.nodes.length,0):=by
   unfold belR;rw [givE_leaf h0 (by omega),if_neg (by omega)]
  have hLn:∀ v∈belK t (i:Int) t.nodes.length,0≤v∧v<t.nodes.length:=by
   intro v hv;unfold belK at hv;simp only [List.mem_map,List.mem_filter,List.mem_range] at hv;obtain ⟨x,⟨hx,_⟩,rfl⟩:=hv;omega
  have hLl:=belK_len t (i:Int) t.nodes.length;have hbi:=hb (i:Int);rw [hlR] at hbi;generalize belK t (i:Int) t.nodes.length=L at *;try (simp [hlt])
  repeat (first|(refine sR ?_; simp [hlt])|(refine sC ?_; simp [hlt])|(refine sX ?_; simp only [AU, ↓reduceIte]))
  refine ⟨by omega,?_⟩;try (simp)
  repeat (first|(refine sR ?_; simp)|(refine sC ?_; simp)|(refine sX ?_; simp only [AU, ↓reduceIte]))
  refine Stop.of_d (hbi _ _) ?_;simp;try (simp)
  repeat (first|(refine sR ?_; simp)|(refine sC ?_; simp)|(refine sX ?_; simp only [AU, ↓reduceIte]))
  refine sN ?_;refine AL.loopT (stBm t i L own nb box tok' nt') (fun j=>j≤L.length) (fun j=>L.length - j) 0 (Nat.zero_le _) (Weaks.mk htk.le rfl (by simp [ToL,lk]) (by simp [BoxL,lk,mkB_nil])) ?_;rintro j S hj hS;simp only [stBm] at hS;subst hS;have hwj:=sW (i:=j) (by omega);by_cases hlj:j<L.length
  ·obtain ⟨v0,v1⟩:=hLn _ (List.getElem_mem hlj);have hset:(mkB t.nodes.length (L.take j)).set L[j].toNat true=mkB t.nodes.length (L.take (j+1)):=by
    rw [mkB_set v0,←List.take_succ_eq_append_getElem hlj]
   have hml:=mkB_len t.nodes.length (L.take j);have v2:L[j].toNat<t.nodes.length:=by omega
   try (simp [hlj,v0,v1,v2,hml,hwj])
   repeat (first|(refine sR ?_; simp [hlj,v0,v1,v2,hml,hwj])|(refine sC ?_; simp [hlj,v0,v1,v2,hml,hwj])|(refine sX ?_; simp only [AU, ↓reduceIte]))
   refine sE ?_;exact ⟨j+1,hlj,by omega,Weaks.mk htk.le rfl (by simp [ToL,lk]) (by simp [BoxL,lk,hset])⟩
  ·have:j=L.length:=by omega
   subst this;rw [List.take_length,hrow];refine sR ?_;simp;refine sC ?_;simp;refine sX ?_;simp only [AU, ↓reduceIte];have hrl:(isRow t i).length=t.nodes.length:=by simp [isRow]
   refine AL.weak (Weaks.frz (l':=[(5,.d (blB (isRow t i))),(13,I i),(12,I t.nodes.length),(11,.d (nts t.nodes)),(3,.osl 1 (isRs t i) own),(1,.ptr (nb+1) 0 0)]) (loc':=[(1,[[.d (nts t.nodes),.d (ets t.edges)]])]) 19 1 ((isRow t i).map fun b=>[D.raw (.bool b)]) htk.le rfl (by simp [lk,rowsB_eq]) (by simp [lk]) (fun e he=>by obtain ⟨b,_,rfl⟩:=List.mem_map.1 he; rfl) (by simp [ToL,lk,lb_at]; exact to_frzW hrl) (by simp [BoxL,lk])) ?_;try (simp)
   repeat (first|(refine sR ?_; simp)|(refine sC ?_; simp)|(refine sX ?_; simp only [AU, ↓reduceIte]))
   refine ⟨⟨by omega,htk.live⟩,?_⟩;try (simp [hw])
   repeat (first|(refine sR ?_; simp [hw])|(refine sC ?_; simp [hw])|(refine sX ?_; simp only [AU, ↓reduceIte]))
   refine sE ?_;exact ⟨⟨i+1,_,_,_⟩,⟨hlt,htk.app⟩,by simp only; omega,Weaks.mk htk.app.le rfl (by simp [ToL,lk,hs]) (by simp [BoxL,lk])⟩
 ·have:i=t.nodes.length:=by omega
  subst this;have htl:isRs t t.nodes.length=(isTb t).map fun r=>[blB r]:=by unfold isRs; rw [List.take_of_length_le (by simp [isTb])]
  rw [htl];try (simp)
  repeat (first|(refine sR ?_; simp)|(refine sC ?_; simp)|(refine sX ?_; simp only [AU, ↓reduceIte]))
  refine sN ?_;refine AL.ret ?_;try simp only [AU]
  exact ⟨by simp,Fin.data (av:=.d (isD t)) (by simp [resAs,resA]; rfl) hbox rfl htok htk.old htk.le (by simp [packA,isD])⟩
theorem within1_c (x:Int) (box:Bxs) (nb k:Nat) (tok:Tks) (nt:Nat) (t:Ty) (hk:box k=some [[.d (nts t.nodes),.d (ets t.edges)]]) :
  ACalls Tryz.prog 283 [I x,.ptr k 0 0] ⟨box,nb,tok,nt⟩ fun v m=>v=B (decide ((t.nodes.length:Int)≤x))∧m=⟨box,nb,tok,nt⟩:=by
 refine sI Tryz.func283 Tryz.ntmps283 fun hbox htok=>?_
 have kn:=key_lt hbox hk;repeat (first|simp [lb_out kn,hk]|refine sR ?_)
 refine sT (sH hbox htok ?_);simp [packA]
theorem within2_c (x:E) (box:Bxs) (nb k:Nat) (tok:Tks) (nt:Nat) (t:Ty) (hk:box k=some [[.d (nts t.nodes),.d (ets t.edges)]]) :
  ACalls Tryz.prog 284 [.agg [I x.ty,I x.fr,I x.to],.ptr k 0 0] ⟨box,nb,tok,nt⟩ fun v m=>v=B (decide ((t.edges.length:Int)≤x.ty))∧m=⟨box,nb,tok,nt⟩:=by
 refine sI Tryz.func284 Tryz.ntmps284 fun hbox htok=>?_
 have kn:=key_lt hbox hk;repeat (first|simp [lb_out kn,hk]|refine sR ?_)
 refine sT (sH hbox htok ?_);simp [packA]
def wiN (t:Ty) (x:Int):Bool:=decide ((t.nodes.length:Int)≤x)
def wiX (t:Ty) (x:E):Bool:=decide ((t.edges.length:Int)≤x.ty)
theorem typG_wi {t:Ty} {g:Gr} (hv:validG g=0):typG t g=(!anyB (wiN t) g.nodes&&!anyB (wiX t) g.edges):=by
 obtain ⟨_,h1,h2⟩:=validG_types hv;unfold typG anyB;congr 1
 ·rw [Bool.eq_iff_iff,List.all_eq_true,Bool.not_eq_true',List.any_eq_false];refine ⟨fun h x hx=>?_,fun h x hx=>?_⟩
  ·have:=h x hx
   simp [typN,wiN] at this ⊢;omega
  ·have a:=h x hx;have b:=h1 x hx;simp [typN,wiN,withinB] at a b ⊢;omega
 ·rw [Bool.eq_iff_iff,List.all_eq_true,Bool.not_eq_true',List.any_eq_false];refine ⟨fun h x hx=>?_,fun h x hx=>?_⟩
  ·have:=h x hx
   simp [typX,wiX] at this ⊢;omega
  ·have a:=h x hx;have b:=h2 x hx;simp [typX,wiX,fitsB,withinB] at a b ⊢;omega
theorem withinF_c (t:Ty) (ht:t.Fit) (g:Gr) (hg:g.Fit) (hv:validG g=0) (tok:Tks) (nt:Nat):DCall Tryz.prog 239 [t.av,g.av] tok nt (B (typG t g)) tok nt:=by
 intro box nb;have h1:=fun y box nb k tok nt hbk=>within1_c y box nb k tok nt t hbk
 have h2:=fun y box nb k tok nt hbk=>within2_c y box nb k tok nt t hbk
 rw [typG_wi hv];obtain ⟨p,hp⟩:∃ p,wiN t=p:=⟨_,rfl⟩
 obtain ⟨q,hq⟩:∃ q,wiX t=q:=⟨_,rfl⟩
 have e1:∀ y,decide ((t.nodes.length:Int)≤y)=p y:=fun y=>by rw [←hp]; rfl
 have e2:∀ y:E,decide ((t.edges.length:Int)≤y.ty)=q y:=fun y=>by rw [←hq]; rfl
 simp only [e1] at h1;simp only [e2] at h2;rw [hp,hq];have hgn:=hg.n;have hge:=hg.e;refine sI Tryz.func239 Tryz.ntmps239 fun hbox htok=>?_
 repeat (first|simp|refine sR ?_)
 refine Stop.of_b (containsFunc_c g.nodes 283 [.ptr (nb+2) 0 0] p hgn _ _ _ _ (fun c hc=>by rw [List.mem_singleton.1 hc]; simp [lb_at]) (fun y hy box' nb' he=>h1 y box' nb' _ _ _ (he _ _ (by simp [lb_at])))) ?_;simp;cases c1:anyB p g.nodes
 ·repeat (first|simp|refine sR ?_)
  refine Stop.of_b (containsFuncE_c g.edges 284 [.ptr (nb+2) 0 0] q hge _ _ _ _ (fun c hc=>by rw [List.mem_singleton.1 hc]; simp [lb_at]) (fun y hy box' nb' he=>h2 y box' nb' _ _ _ (he _ _ (by simp [lb_at])))) ?_;repeat (first|simp|refine sR ?_)
  refine sT (sH hbox htok ?_);simp [packA]
 ·repeat (first|simp|refine sR ?_)
  refine sT (sH hbox htok ?_);simp [packA]
def QFo (s:Sr) (fm:Nat) (box:Bxs) (nb:Nat) (tok:Tks) (nt:Nat) (v:AV) (m:AMem):Prop :=
 ∃ own' tok' nt',v=.osl 2 (mosR (s.fnP fm s.p.nodes.length [] [])) own'∧m=⟨box,nb,tok',nt'⟩∧TK tok nt tok' nt' [own']
set_option maxRecDepth 100000 in
theorem foundF_c (s:Sr) (h:s.Ok) (h0:tyE s.t=0) (nl:Bool) (hnl:s.Nl nl) (fm:Nat) (hfm:fm≤1000000) (box:Bxs) (nb:Nat) (tok:Tks) (nt:Nat) :
  ACalls Tryz.prog 240 [s.t.av,s.p.av,s.g.av,.agg [.d (ptD nl s.pt.nodes),.d (ptD nl s.pt.edges)],B s.inj,I fm] ⟨box,nb,tok,nt⟩ (QFo s fm box nb tok nt):=by
 have hb:=belowF_c s.t h.t h0;refine sI Tryz.func240 Tryz.ntmps240 fun hbox htok=>?_
 repeat (first|simp|refine sR ?_)
 refine Stop.of_d (hb _ _) ?_;simp;refine AL.weak (Weaks.mk (l':=[(13,.ptr (nb+22) 0 0)]) (loc':=[(22,[[.d (ints s.p.nodes),.d (AM.edges s.p.edges),.d (ints s.g.nodes),.d (AM.edges s.g.edges),.d (isD s.t),.d (ptD nl s.pt.nodes),.d (ptD nl s.pt.edges),B s.inj,I fm,.osl 0 [] .full,.osl 0 [] .full,.osl 2 [] .full]])]) (Nat.le_refl _) rfl (by simp [ToL,lk]) (by simp [BoxL,lk])) ?_;refine AL.trans (Trans.opn (l':=[(13,.ptr (nb+22) 0 0)]) (loc':=[(22,[[.d (ints s.p.nodes),.d (AM.edges s.p.edges),.d (ints s.g.nodes),.d (AM.edges s.g.edges),.d (isD s.t),.d (ptD nl s.pt.nodes),.d (ptD nl s.pt.edges),B s.inj,I fm,.stk nt 1 [],.osl 0 [] .full,.osl 2 [] .full]])]) 1 (by simp [CvL]) ⟨rfl,cvRs_one (cvR_cons .same (cvR_cons .same (cvR_cons .same (cvR_cons .same (cvR_cons .same (cvR_cons .same (cvR_cons .same (cvR_cons .same (cvR_cons .same (cvR_cons .nil (cvR_cons .same (cvR_cons .same cvR_nil)))))))))))),trivial⟩) ?_;refine AL.trans (Trans.opn (l':=[(13,.ptr (nb+22) 0 0)]) (loc':=[(22,[[.d (ints s.p.nodes),.d (AM.edges s.p.edges),.d (ints s.g.nodes),.d (AM.edges s.g.edges),.d (isD s.t),.d (ptD nl s.pt.nodes),.d (ptD nl s.pt.edges),B s.inj,I fm,.stk nt 1 [],.stk (nt+1) 1 [],.osl 2 [] .full]])]) 1 (by simp [CvL]) ⟨rfl,cvRs_one (cvR_cons .same (cvR_cons .same (cvR_cons .same (cvR_cons .same (cvR_cons .same (cvR_cons .same (cvR_cons .same (cvR_cons .same (cvR_cons .same (cvR_cons .same (cvR_cons .nil (cvR_cons .same cvR_nil)))))))))))),trivial⟩) ?_;have htk0:=(TK.start htok).full.full.full.app.swap.app.swap;repeat (first|simp|refine sR ?_)
 refine Stop.of_a (findN_c s h nl hnl fm hfm tok nt s.p.nodes.length [] [] nt (nt+1) .full _ _ (nb+22) _ _ (by simp) (by simp) (by simp [lb_at]) htk0) ?_;rintro v m' ⟨rfl,a,b,own,tok2,nt2,rfl,htk2,hle⟩;try (simp)
 repeat (first|(refine sR ?_; simp)|(refine sC ?_; simp)|(refine sX ?_; simp only [AU, ↓reduceIte]))
 refine sN ?_;refine AL.ret ?_;try simp only [AU]
 have htk3:=htk2.tail.tail;exact ⟨by simp,(Fin.gen (av:=.osl 2 (mosR (s.fnP fm s.p.nodes.length [] [])) own) (tok':=tok2) (nt':=nt2) (by simp [resAs,resA]; rfl) hbox htk3.le (Nat.le_refl _) (fun t h=>⟨h,.inl rfl⟩) (fun k rows _ h=>.inl h) (by simp [packA])).mono fun v m hq=>⟨own,tok2,nt2,hq.1,hq.2,htk3⟩⟩
def stVf (t:Ty) (p g:Gr) (nb:Nat) (box:Bxs) (tok:Tks) (nt:Nat) (i:Nat):AState :=
 ⟨tl [(24,I i),(23,I 2),(22,.d (.sl 2 [[ints p.nodes,AM.edges p.edges],[ints g.nodes,AM.edges g.edges]])),(5,.ptr (nb+5) 0 0),(4,.ptr (nb+4) 0 0),(3,.ptr (nb+3) 0 0)],lb nb box [(5,[[.d (ints g.nodes),.d (AM.edges g.edges)]]),(4,[[.d (ints p.nodes),.d (AM.edges p.edges)]]),(3,[[.d (nts t.nodes),.d (ets t.edges)]])],tok,nt⟩
theorem validF_c (t:Ty) (ht:t.Fit) (p g:Gr) (hp:p.Fit) (hg:g.Fit) (tok:Tks) (nt:Nat):DCall Tryz.prog 178 [t.av,p.av,g.av] tok nt (I (givS t p g)) tok nt:=by
 intro box nb;have hv:=valid_c4 t ht ht.hM;have h1:=graphValid_c p hp;have h2:=graphValid_c g hg;have h3:=withinF_c t ht p hp;have h4:=withinF_c t ht g hg;obtain ⟨R,hR⟩:∃ R,givS t p g=R:=⟨_,rfl⟩
 rw [hR];unfold givS at hR;generalize tyE t=E at *;generalize validG p=V at *;generalize validG g=W at *;refine sI Tryz.func178 Tryz.ntmps178 fun hbox htok=>?_
 repeat (first|simp|refine sR ?_)
 refine Stop.of_d (hv _ _) ?_;simp;by_cases e0:E=0
 ·rw [if_neg (by simp [e0])] at hR;try (simp [e0])
  repeat (first|(refine sR ?_; simp [e0])|(refine sC ?_; simp [e0])|(refine sX ?_; simp only [AU, ↓reduceIte]))
  refine ⟨rfl,?_⟩;try (simp)
  repeat (first|(refine sR ?_; simp)|(refine sC ?_; simp)|(refine sX ?_; simp only [AU, ↓reduceIte]))
  refine sN ?_;refine AL.loopT (stVf t p g nb box tok nt) (fun i=>i≤2∧(1≤i→V=0)∧(2≤i→W=0)) (fun i=>2 - i) 0 ⟨by omega,by omega,by omega⟩ wkA ?_;rintro i S ⟨hi,g0,g1⟩ hS;simp only [stVf] at hS;subst hS;have h012:i=0∨i=1∨i=2:=by omega
  rcases h012 with rfl|rfl|rfl
  ·try (simp)
   repeat (first|(refine sR ?_; simp)|(refine sC ?_; simp)|(refine sX ?_; simp only [AU, ↓reduceIte]))
   refine Stop.of_d (h1 _ _) ?_;simp;by_cases c:V=0
   ·try (simp [c,show IntKind.i64.wrap 1=1 from rfl])
    repeat (first|(refine sR ?_; simp [c,show IntKind.i64.wrap 1=1 from rfl])|(refine sC ?_; simp [c,show IntKind.i64.wrap 1=1 from rfl])|(refine sX ?_; simp only [AU, ↓reduceIte]))
    refine sE ?_;exact ⟨1,⟨by omega,fun h=>by omega⟩,by decide,wkA⟩
   ·have b:(V != 0)=true:=by simp [c]
    rw [if_pos c] at hR;try (simp [b])
    repeat (first|(refine sR ?_; simp [b])|(refine sC ?_; simp [b])|(refine sX ?_; simp only [AU, ↓reduceIte]))
    refine sT (sH hbox htok ?_);simp [packA,hR]
  ·try (simp)
   repeat (first|(refine sR ?_; simp)|(refine sC ?_; simp)|(refine sX ?_; simp only [AU, ↓reduceIte]))
   refine Stop.of_d (h2 _ _) ?_;simp;by_cases c:W=0
   ·try (simp [c,show IntKind.i64.wrap 2=2 from rfl])
    repeat (first|(refine sR ?_; simp [c,show IntKind.i64.wrap 2=2 from rfl])|(refine sC ?_; simp [c,show IntKind.i64.wrap 2=2 from rfl])|(refine sX ?_; simp only [AU, ↓reduceIte]))
    refine sE ?_;exact ⟨2,⟨by omega,fun _=>g0 (by omega)⟩,by decide,wkA⟩
   ·have b:(W != 0)=true:=by simp [c]
    have g0:=g0 (by omega);rw [if_neg (by simp [g0]),if_pos c] at hR;try (simp [b])
    repeat (first|(refine sR ?_; simp [b])|(refine sC ?_; simp [b])|(refine sX ?_; simp only [AU, ↓reduceIte]))
    refine sT (sH hbox htok ?_);simp [packA,hR]
  ·have g0:=g0 (by omega);have g1:=g1 (by omega);rw [if_neg (by simp [g0]),if_neg (by simp [g1])] at hR;have h3:=h3 g0;have h4:=h4 g1;try (simp)
   repeat (first|(refine sR ?_; simp)|(refine sC ?_; simp)|(refine sX ?_; simp only [AU, ↓reduceIte]))
   refine Stop.of_d (h3 _ _) ?_;simp;cases e3:typG t p
   ·rw [e3,if_pos rfl] at hR;try (simp)
    repeat (first|(refine sR ?_; simp)|(refine sC ?_; simp)|(refine sX ?_; simp only [AU, ↓reduceIte]))
    refine sT (sH hbox htok ?_);simp [packA,hR]
   ·rw [e3,if_neg (by simp)] at hR;try (simp)
    repeat (first|(refine sR ?_; simp)|(refine sC ?_; simp)|(refine sX ?_; simp only [AU, ↓reduceIte]))
    refine Stop.of_d (h4 _ _) ?_;simp;cases e4:typG t g
    ·rw [e4,if_pos rfl] at hR;try (simp)
     repeat (first|(refine sR ?_; simp)|(refine sC ?_; simp)|(refine sX ?_; simp only [AU, ↓reduceIte]))
     refine sT (sH hbox htok ?_);simp [packA,hR]
    ·rw [e4,if_neg (by simp)] at hR;try (simp)
     repeat (first|(refine sR ?_; simp)|(refine sC ?_; simp)|(refine sX ?_; simp only [AU, ↓reduceIte]))
     refine sT (sH hbox htok ?_);simp [packA,hR]
 ·rw [if_pos e0] at hR;have b:(E != 0)=true:=by simp [e0]
  try (simp [b])
  repeat (first|(refine sR ?_; simp [b])|(refine sC ?_; simp [b])|(refine sX ?_; simp only [AU, ↓reduceIte]))
  refine sT (sH hbox htok ?_);simp [packA,hR]
theorem opM_nl {t:Ty} {p g:Gr} {inj:Bool}:(allSr t p g inj).Nl true:=by
 constructor
 ·intro _ x hx;exact List.eq_of_mem_replicate hx
 ·intro _ x hx;exact List.eq_of_mem_replicate hx
def QAl (s:Sr) (box:Bxs) (nb:Nat) (tok:Tks) (nt:Nat) (L:List Mo) (v:AV) (m:AMem):Prop :=
 m=⟨box,nb,tok,nt⟩∧(5000<L.length∧v=.tup [.osl 0 [] .full,I 3]∨¬ 5000<L.length∧v=.tup [.d (.sl 2 (mosR L)),I 0])
set_option maxRecDepth 100000 in
theorem allF_c (s:Sr) (h:s.Ok) (h0:tyE s.t=0) (nl:Bool) (hnl:s.Nl nl) (hm:s.most=5000) (tok:Tks) (nt:Nat) :
  ∀ box nb,ACalls Tryz.prog 179 [s.t.av,s.p.av,s.g.av,.agg [.d (ptD nl s.pt.nodes),.d (ptD nl s.pt.edges)],B s.inj] ⟨box,nb,tok,nt⟩ (QAl s box nb tok nt (s.fnR s.p.nodes.length [] [])):=by
 intro box nb;have hf:=s.fnP_fnR h;rw [hm] at hf;have hfo:=foundF_c s h h0 nl hnl 5001 (by omega);have hln:(s.fnP 5001 s.p.nodes.length [] []).length≤5001:=Sr.fnP_len h (by simp)
 rw [←hf];refine sI Tryz.func179 Tryz.ntmps179 fun hbox htok=>?_
 repeat (first|simp|refine sR ?_)
 refine Stop.of_a (hfo _ _ _ _) ?_;rintro v m' ⟨own,tok2,nt2,rfl,rfl,htk⟩;generalize s.fnP 5001 s.p.nodes.length [] []=L at *;by_cases hbig:5000<L.length
 ·have b:decide ((5000:Int)<(L.length:Int))=true:=by simp; omega
  try (simp [b])
  repeat (first|(refine sR ?_; simp [b])|(refine sC ?_; simp [b])|(refine sX ?_; simp only [AU, ↓reduceIte]))
  refine sN ?_;refine AL.ret ?_;try simp only [AU]
  exact ⟨by simp,(Fin.data (av:=.tup [.osl 0 [] .full,I 3]) (by simp [resAs,resA]; rfl) hbox rfl htok htk.old htk.le (by simp [packA])).mono fun v m hq=>⟨hq.2,.inl ⟨hbig,hq.1⟩⟩⟩
 ·have b:decide ((5000:Int)<(L.length:Int))=false:=by simp; omega
  try (simp [b])
  repeat (first|(refine sR ?_; simp [b])|(refine sC ?_; simp [b])|(refine sX ?_; simp only [AU, ↓reduceIte]))
  refine sN ?_;refine AL.ret ?_;try simp only [AU]
  exact ⟨by simp,(Fin.data (av:=.tup [.d (.sl 2 (mosR L)),I 0]) (by simp [resAs,resA]; rfl) hbox rfl htok htk.old htk.le (by simp [packA])).mono fun v m hq=>⟨hq.2,.inr ⟨hbig,hq.1⟩⟩⟩
set_option maxRecDepth 100000 in
theorem allF2_c (t:Ty) (ht:t.Fit) (p g:Gr) (hp:p.Fit) (hg:g.Fit) (inj:Bool) (tok:Tks) (nt:Nat):DCall Tryz.prog 109 [t.av,p.av,g.av,B inj] tok nt (.tup [.d (.sl 2 (mosR (allS t p g inj).1)),I (allS t p g inj).2]) tok nt:=by
 intro box nb;have hv:=validF_c t ht p g hp hg;have main:ACalls Tryz.prog 109 [t.av,p.av,g.av,B inj] ⟨box,nb,tok,nt⟩ fun v m=>(v=.tup [.d (.sl 2 (mosR (allS t p g inj).1)),I (allS t p g inj).2]∨(allS t p g inj).1=[]∧v=.tup [.osl 0 [] .full,I (allS t p g inj).2])∧m=⟨box,nb,tok,nt⟩:=by
  refine sI Tryz.func109 Tryz.ntmps109 fun hbox htok=>?_
  repeat (first|simp|refine sR ?_)
  refine Stop.of_d (hv _ _) ?_;simp;by_cases c1:givS t p g=0
  ·have hok:=allSr_ok (inj:=inj) ht hp hg c1;have h0:tyE t=0:=by
    unfold givS at c1;split at c1
    ·rename_i e; exact absurd c1 e
    ·rename_i e; simpa using e
   have hR:allS t p g inj=if 5000<(allL t p g inj).length then ([],3) else (allL t p g inj,0):=by unfold allS; rw [if_neg (by simp [c1])]
   have hall:=allF_c (allSr t p g inj) hok h0 true opM_nl rfl;have hL:(allSr t p g inj).fnR (allSr t p g inj).p.nodes.length [] []=allL t p g inj:=rfl
   rw [hL] at hall;try (simp [c1])
   repeat (first|(refine sR ?_; simp [c1])|(refine sC ?_; simp [c1])|(refine sX ?_; simp only [AU, ↓reduceIte]))
   refine Stop.sub (args':=[t.av,p.av,g.av,.agg [.d (.raw nilV),.d (.raw nilV)],B inj]) ⟨Sub.refl _,Sub.refl _,Sub.refl _,Sub.agg ⟨Sub.nilv,Sub.nilv,trivial⟩,Sub.refl _,trivial⟩ ?_;refine Stop.of_a (hall _ _ _ _) ?_;generalize allL t p g inj=L at *;rintro v m' ⟨rfl,⟨hb,rfl⟩|⟨hb,rfl⟩⟩
   ·rw [if_pos hb] at hR;try (simp)
    repeat (first|(refine sR ?_; simp)|(refine sC ?_; simp)|(refine sX ?_; simp only [AU, ↓reduceIte]))
    refine sN ?_;refine AL.ret ?_;try simp only [AU]
    exact ⟨by simp,(Fin.data (av:=.tup [.osl 0 [] .full,I 3]) (by simp [resAs,resA]; rfl) hbox rfl htok (fun _ h=>h) (Nat.le_refl _) (by simp [packA])).mono fun v m hq=>⟨.inr ⟨by rw [hR],by rw [hR,hq.1]⟩,hq.2⟩⟩
   ·rw [if_neg hb] at hR;try (simp)
    repeat (first|(refine sR ?_; simp)|(refine sC ?_; simp)|(refine sX ?_; simp only [AU, ↓reduceIte]))
    refine sN ?_;refine AL.ret ?_;try simp only [AU]
    exact ⟨by simp,(Fin.data (av:=.tup [.d (.sl 2 (mosR L)),I 0]) (by simp [resAs,resA]; rfl) hbox rfl htok (fun _ h=>h) (Nat.le_refl _) (by simp [packA])).mono fun v m hq=>⟨.inl (by rw [hR,hq.1]),hq.2⟩⟩
  ·have hR:allS t p g inj=([],givS t p g):=by unfold allS; rw [if_pos c1]
   try (simp [c1])
   repeat (first|(refine sR ?_; simp [c1])|(refine sC ?_; simp [c1])|(refine sX ?_; simp only [AU, ↓reduceIte]))
   refine sN ?_;refine AL.ret ?_;try simp only [AU]
   exact ⟨by simp,(Fin.data (av:=.tup [.osl 0 [] .full,I (givS t p g)]) (by simp [resAs,resA]; rfl) hbox rfl htok (fun _ h=>h) (Nat.le_refl _) (by simp [packA])).mono fun v m hq=>⟨.inr ⟨by rw [hR],by rw [hR,hq.1]⟩,hq.2⟩⟩
 refine main.conv fun v m h=>?_
 obtain ⟨rfl|⟨h1,rfl⟩,rfl⟩:=h
 ·exact ⟨_,_,Conv.refl _ _,rfl,rfl⟩
 ·refine ⟨_,_,Conv.sub (v':=.tup [.d (.sl 2 (mosR (allS t p g inj).1)),I (allS t p g inj).2]) (Sub.tup ⟨?_,Sub.refl _,trivial⟩),rfl,rfl⟩;rw [h1];exact Sub.nil _ _ _
theorem copiedK_c (g:Gr) (hg:g.Fit) (tok:Tks) (nt:Nat):DCall Tryz.prog 127 [g.av] tok nt g.av tok nt:=by
 intro box nb;have h1:=clone_c g.nodes hg.n;have h2:=cloneE_c g.edges hg.e;refine sI Tryz.func127 Tryz.ntmps127 fun hbox htok=>?_
 have htk:=(((TK.start htok).full.app).full.app);repeat (first|simp|refine sR ?_)
 refine Stop.of_d (h1 _ _) ?_;repeat (first|simp|refine sR ?_)
 refine Stop.of_d (h2 _ _) ?_;repeat (first|simp|refine sR ?_)
 refine sT (sG hbox htok htk.old htk.le ?_);simp [packA, ]
theorem existsK_c (m:Mo) (g:Gr) (k:Cd) (hm:m.Fit) (hg:g.Fit) (tok:Tks) (nt:Nat):DCall Tryz.prog 62 [m.av,g.av,k.av] tok nt (xC m g k).av tok nt:=by
 intro box nb;have h1:=clone_c m.nodes hm.n;have h2:=clone_c m.edges hm.e;have h3:=copiedK_c g hg;refine sI Tryz.func62 Tryz.ntmps62 fun hbox htok=>?_
 have htk:=(((TK.start htok).full.app).full.app);repeat (first|simp|refine sR ?_)
 refine Stop.of_d (h1 _ _) ?_;repeat (first|simp|refine sR ?_)
 refine Stop.of_d (h2 _ _) ?_;repeat (first|simp|refine sR ?_)
 refine Stop.of_d (h3 _ _) ?_;repeat (first|simp|refine sR ?_)
 refine sT (sG hbox htok htk.old htk.le ?_);simp [packA,xC,Cd.cells_eq,Cd.kind,Cd.kids,Cd.m,Cd.g,Cd.sl,Cd.vars,Cd.te,conds,slots,tests]
theorem notK_c (k:Cd) (tok:Tks) (nt:Nat):DCall Tryz.prog 61 [k.av] tok nt (cdOf 2 [k]).av tok nt:=by
 intro box nb;refine sI Tryz.func61 Tryz.ntmps61 fun hbox htok=>?_
 repeat (first|simp|refine sR ?_)
 refine sT (sH hbox htok ?_);simp [packA,cdOf,Cd.cells_eq,Cd.kind,Cd.kids,Cd.m,Cd.g,Cd.sl,Cd.vars,Cd.te,conds,ints,AM.edges,slots,tests]
def xCs (l:List Xt):List Cd:=l.map fun x=>xC x.m x.g (cdOf 1 [])
theorem xCs_succ (l:List Xt) {i:Nat} (h:i<l.length):xCs (l.take (i+1))=xCs (l.take i)++[xC l[i].m l[i].g (cdOf 1 [])]:=by
 unfold xCs;rw [←List.take_append_getElem h,List.map_append]; rfl
theorem xCs_len (l:List Xt) (i:Nat):(xCs (l.take i)).length≤i:=by simp [xCs]; omega
theorem shpE_kind {c:Co} (h:shpE c=0):c.kind=1∨c.kind=2:=by
 have h2:=(shpE_zero h).2.1;unfold kdE at h2;split at h2
 ·left; assumption
 ·split at h2
  ·right; assumption
  ·cases h2
def stCk (c:Co) (nb:Nat) (box:Bxs) (x:Acc):AState :=
 ⟨tl [(29,I x.i),(28,I c.exts.length),(27,.d (xts c.exts)),(6,.ptr (nb+6) 0 0),(5,.ptr (nb+5) 0 0),(2,.ptr (nb+2) 0 0),(1,.ptr (nb+1) 0 0)],
  lb nb box [(6,[[I 4,.osl 9 ((xCs (c.exts.take x.i)).map Cd.cells) x.own,nilS,nilS,nilS,nilS,nilS,z0i,nilS]]),(5,[(cdOf 1 []).row]),(1,[c.row]),(2,[[z0i,nilS,nilS,nilS,nilS,nilS,nilS,z0i,nilS]])],x.tok,x.nt⟩
theorem yesSub:Sub (.agg [I 1,nilS,nilS,nilS,nilS,nilS,nilS,z0i,nilS]) (cdOf 1 []).av:=Sub.agg ⟨Sub.refl _,Sub.nil _ _ _,Sub.nil _ _ _,Sub.nil _ _ _,Sub.nil _ _ _,Sub.nil _ _ _,Sub.nil _ _ _,Sub.refl _,Sub.nil _ _ _,trivial⟩
theorem noMoSub:Sub (.agg [nilS,nilS]) (Mo.mk [] []).av:=Sub.agg ⟨Sub.nil _ _ _,Sub.nil _ _ _,trivial⟩
set_option maxRecDepth 100000 in
theorem condK_c (c:Co) (hc:c.Fit) (tok:Tks) (nt:Nat):DCall Tryz.prog 15 [c.av] tok nt (.tup [(condR c).1.av,I (condR c).2]) tok nt:=by
 intro box nb;have h1:=shpK_c c hc;have hv:=@shpE_zero c;have hkd:=@shpE_kind c;have hxn:=hc.n;have h2:=fun k=>existsK_c ⟨[],[]⟩ c.g k fit_nilM hc.g
 have h3:=notK_c;obtain ⟨N,hN⟩:∃ N,condR c=N:=⟨_,rfl⟩
 rw [hN];unfold condR cndC at hN;generalize shpE c=S at *;refine sI Tryz.func15 Tryz.ntmps15 fun hbox htok=>?_
 repeat (first|simp|refine sR ?_)
 refine Stop.of_d (h1 _ _) ?_;repeat (first|simp|refine sR ?_)
 by_cases e1:S=0
 ·rw [if_neg (by simp [e1])] at hN;refine sC ?_;simp [e1];rcases hkd e1 with k|k
  ·rw [if_pos k] at hN;try (simp [k])
   repeat (first|(refine sR ?_; simp [k])|(refine sC ?_; simp [k])|(refine sX ?_; simp only [AU, ↓reduceIte]))
   refine Stop.sub (args':=[(Mo.mk [] []).av,c.g.av,(cdOf 1 []).av]) ⟨noMoSub,Sub.refl _,yesSub,trivial⟩ ?_;refine Stop.of_d (h2 _ _ _) ?_;repeat (first|simp|refine sR ?_)
   refine Stop.of_d (h3 _ _ _) ?_;repeat (first|simp|refine sR ?_)
   refine sT (sH hbox htok ?_);simp [packA,←hN]
  ·rw [if_neg (by rw [k]; decide)] at hN;have hx:=fun x (hx:x∈c.exts)=>existsK_c x.m x.g (cdOf 1 []) (hc.exts x hx).m (hc.exts x hx).g
   have e5:(cdOf 1 []).row=[I 1,.d (conds []),.d (ints []),.d (ints []),.d (ints []),.d (AM.edges []),.d (slots []),z0i,.d (tests [])]:=rfl
   try (simp [k])
   repeat (first|(refine sR ?_; simp [k])|(refine sC ?_; simp [k])|(refine sX ?_; simp only [AU, ↓reduceIte]))
   refine sN ?_;refine AL.loopT (stCk c nb box) (fun x=>x.i≤c.exts.length∧TK tok nt x.tok x.nt [x.own]) (fun x=>c.exts.length - x.i) ⟨0,.full,tok,nt⟩ ⟨Nat.zero_le _,(TK.start htok).full⟩ (Weaks.mk (Nat.le_refl _) rfl (by simp [ToL,lk]) (by simp [BoxL,lk,xCs,e5,conds,ints,AM.edges,slots,tests])) ?_;rintro ⟨i,own,tok',nt'⟩ S ⟨hi,htk⟩ hS;simp only [stCk] at hS hi htk;subst hS;have hw:=sW (i:=i) (by omega);obtain ⟨K,hK⟩:∃ K,xCs (c.exts.take i)=K:=⟨_,rfl⟩
   have hKl:K.length≤i:=by rw [←hK]; exact xCs_len _ _
   rw [hK];repeat (first|simp|refine sR ?_|refine sC ?_)
   refine ⟨fun hlt=>?_,fun hge=>?_⟩
   ·have hxi:=hx _ (List.getElem_mem hlt);have hstep:=xCs_succ c.exts hlt;rw [hK] at hstep;repeat (first|simp [hlt]|refine sR ?_)
    refine Stop.of_d (hxi _ _) ?_;simp;simp only [xC,Cd.av,Cd.row,Cd.kind,Cd.kids,Cd.m,Cd.g,Cd.sl,Cd.vars,Cd.te];repeat (first|simp|refine sR ?_)
    refine ⟨⟨by omega,htk.live⟩,?_⟩;repeat (first|simp [hw]|refine sR ?_)
    refine sE ?_;exact ⟨⟨i+1,_,_,_⟩,⟨hlt,htk.app⟩,by simp only; omega,Weaks.mk htk.app.le rfl (by simp [ToL,lk]) (by simp only [hstep]; simp [BoxL,lk,e5,xC,cdOf,conds,ints,AM.edges,slots,tests,Cd.cells_eq,Cd.kind,Cd.kids,Cd.m,Cd.g,Cd.sl,Cd.vars,Cd.te])⟩
   ·refine sX ?_;simp only [AU, ↓reduceIte];have:i=c.exts.length:=by omega
    subst this;rw [List.take_length] at hK;have hK2:(c.exts.map fun x=>xC x.m x.g (cdOf 1 []))=K:=hK
    rw [hK2] at hN;have e6:(cdOf 4 K).row=[I 4,.d (conds K),.d (ints []),.d (ints []),.d (ints []),.d (AM.edges []),.d (slots []),z0i,.d (tests [])]:=rfl
    refine AL.weak (Weaks.mk (l':=[(6,.ptr (nb+6) 0 0),(2,.ptr (nb+2) 0 0),(1,.ptr (nb+1) 0 0)]) (loc':=[(6,[(cdOf 4 K).row]),(1,[c.row]),(2,[[z0i,nilS,nilS,nilS,nilS,nilS,nilS,z0i,nilS]])]) htk.le rfl (by simp [ToL,lk]) (by simp [BoxL,lk,e6,ints,AM.edges,slots,tests])) ?_;repeat (first|simp|refine sR ?_)
    refine Stop.of_d (h3 (cdOf 4 K) _ _) ?_;repeat (first|simp|refine sR ?_)
    refine Stop.sub (args':=[(Mo.mk [] []).av,c.g.av,(cdOf 2 [cdOf 4 K]).av]) ⟨noMoSub,Sub.refl _,Sub.refl _,trivial⟩ ?_;refine Stop.of_d (h2 _ _ _) ?_;repeat (first|simp|refine sR ?_)
    refine Stop.of_d (h3 _ _ _) ?_;repeat (first|simp|refine sR ?_)
    refine sT (sG hbox htok htk.old htk.le ?_);simp [packA,←hN]
 ·rw [if_pos e1] at hN;have b1:(S != 0)=true:=by simp [e1]
  refine sC ?_;simp [b1];repeat (first|simp|refine sR ?_)
  refine sT (sH hbox htok ?_);simp [packA,←hN,cdOf,conds,ints,AM.edges,slots,tests,Cd.kind,Cd.kids,Cd.m,Cd.g,Cd.sl,Cd.vars,Cd.te]
def vioB (c:Co) (xt:Mo→Bool) (m:Mo):Bool:=if c.kind=1 then true else !xt m
def vioK (c:Co) (xt:Mo→Bool) (l:List Mo) (i:Nat):List Mo:=(l.take i).filter (vioB c xt)
def vioS (t:Ty) (c:Co) (g:Gr) (xt:Mo→Bool):List Mo × Int :=
 if cnE t c≠0 then ([],cnE t c) else if (allS t c.g g true).2≠0 then ([],(allS t c.g g true).2) else ((allS t c.g g true).1.filter (vioB c xt),0)
theorem vioK_succ {c:Co} {xt:Mo→Bool} {l:List Mo} {i:Nat} (h:i<l.length):vioK c xt l (i+1)=vioK c xt l i++if vioB c xt l[i]=true then [l[i]] else []:=by
 unfold vioK;rw [List.take_succ_eq_append_getElem h,List.filter_append];congr 1
 by_cases e:vioB c xt l[i]=true <;> simp [e]
theorem vioK_len (c:Co) (xt:Mo→Bool) (l:List Mo) (i:Nat):(vioK c xt l i).length≤i:=Nat.le_trans (List.length_filter_le _ _) (by simp; omega)
theorem allS_len (t:Ty) (p g:Gr) (inj:Bool):(allS t p g inj).1.length≤5000:=by
 unfold allS;split
 ·simp
 ·split
  ·simp
  ·simp only; omega
def stVk (t:Ty) (c:Co) (g:Gr) (L:List Mo) (xt:Mo→Bool) (nb:Nat) (box:Bxs) (x:Acc):AState :=
 ⟨tl [(33,I x.i),(32,I L.length),(31,.d (.sl 2 (mosR L))),(11,.osl 2 (mosR (vioK c xt L x.i)) x.own),(5,.ptr (nb+5) 0 0),(4,.ptr (nb+4) 0 0),(3,.ptr (nb+3) 0 0)],lb nb box [(5,[[.d (ints g.nodes),.d (AM.edges g.edges)]]),(4,[c.row]),(3,[[.d (nts t.nodes),.d (ets t.edges)]])],x.tok,x.nt⟩
theorem violationsK_c (t:Ty) (ht:t.Fit) (c:Co) (hc:c.Fit) (g:Gr) (hg:g.Fit) (xt:Mo→Bool)
  (hx:c.kind≠1→∀ m∈(allS t c.g g true).1,∀ tok nt,DCall Tryz.prog 110 [t.av,c.av,g.av,m.av] tok nt (B (xt m)) tok nt) (tok:Tks) (nt:Nat) :
  DCall Tryz.prog 47 [t.av,c.av,g.av] tok nt (.tup [.d (.sl 2 (mosR (vioS t c g xt).1)),I (vioS t c g xt).2]) tok nt:=by
 intro box nb;have hv:=validK_c t ht c hc;have hA:=allF2_c t ht c.g g hc.g hg true;have main:ACalls Tryz.prog 47 [t.av,c.av,g.av] ⟨box,nb,tok,nt⟩ fun v m=>(v=.tup [.d (.sl 2 (mosR (vioS t c g xt).1)),I (vioS t c g xt).2]∨(vioS t c g xt).1=[]∧v=.tup [.osl 0 [] .full,I (vioS t c g xt).2])∧m=⟨box,nb,tok,nt⟩:=by
  refine sI Tryz.func47 Tryz.ntmps47 fun hbox htok=>?_
  repeat (first|simp|refine sR ?_)
  refine Stop.of_d (hv _ _) ?_;simp;by_cases c1:cnE t c=0
  ·try (simp [c1])
   repeat (first|(refine sR ?_; simp [c1])|(refine sC ?_; simp [c1])|(refine sX ?_; simp only [AU, ↓reduceIte]))
   refine Stop.of_d (hA _ _) ?_;simp;by_cases c2:(allS t c.g g true).2=0
   ·try (simp [c2])
    repeat (first|(refine sR ?_; simp [c2])|(refine sC ?_; simp [c2])|(refine sX ?_; simp only [AU, ↓reduceIte]))
    refine sN ?_;have hR:vioS t c g xt=((allS t c.g g true).1.filter (vioB c xt),0):=by unfold vioS; rw [if_neg (by simp [c1]),if_neg (by simp [c2])]
    have hL:=allS_len t c.g g true;generalize (allS t c.g g true).1=L at *;refine AL.loopT (stVk t c g L xt nb box) (fun x=>x.i≤L.length∧TK tok nt x.tok x.nt [x.own]) (fun x=>L.length - x.i) ⟨0,.full,tok,nt⟩ ⟨Nat.zero_le _,(TK.start htok).full⟩ (Weaks.mk (Nat.le_refl _) rfl (by simp [ToL,lk,vioK]) (by simp [BoxL,lk])) ?_;rintro ⟨i,own,tok',nt'⟩ S ⟨hi,htk⟩ hS;simp only [stVk] at hS hi htk;subst hS;have hw:=sW (i:=i) (by omega);have hln:=vioK_len c xt L i;by_cases hlt:i<L.length
    ·have hs:=vioK_succ (c:=c) (xt:=xt) hlt;by_cases k1:c.kind=1
     ·have b:(c.kind==1)=true:=by simp [k1]
      rw [if_pos (by simp [vioB,k1])] at hs;try (simp [hlt,b])
      repeat (first|(refine sR ?_; simp [hlt,b])|(refine sC ?_; simp [hlt,b])|(refine sX ?_; simp only [AU, ↓reduceIte]))
      refine ⟨⟨by omega,htk.live⟩,?_⟩;try (simp [hw])
      repeat (first|(refine sR ?_; simp [hw])|(refine sC ?_; simp [hw])|(refine sX ?_; simp only [AU, ↓reduceIte]))
      refine sE ?_;exact ⟨⟨i+1,_,_,_⟩,⟨hlt,htk.app⟩,by simp only; omega,Weaks.mk htk.app.le rfl (by simp [ToL,lk,hs]) (by simp [BoxL,lk])⟩
     ·have hxi:=hx k1 _ (List.getElem_mem hlt);have b:(c.kind==1)=false:=by simp [k1]
      try (simp [hlt,b])
      repeat (first|(refine sR ?_; simp [hlt,b])|(refine sC ?_; simp [hlt,b])|(refine sX ?_; simp only [AU, ↓reduceIte]))
      refine Stop.of_d (hxi _ _) ?_;cases e:xt L[i]
      ·rw [if_pos (by simp [vioB,k1,e])] at hs;try (simp [hlt,b])
       repeat (first|(refine sR ?_; simp [hlt,b])|(refine sC ?_; simp [hlt,b])|(refine sX ?_; simp only [AU, ↓reduceIte]))
       refine ⟨⟨by omega,htk.live⟩,?_⟩;try (simp [hw])
       repeat (first|(refine sR ?_; simp [hw])|(refine sC ?_; simp [hw])|(refine sX ?_; simp only [AU, ↓reduceIte]))
       refine sE ?_;exact ⟨⟨i+1,_,_,_⟩,⟨hlt,htk.app⟩,by simp only; omega,Weaks.mk htk.app.le rfl (by simp [ToL,lk,hs]) (by simp [BoxL,lk])⟩
      ·rw [if_neg (by simp [vioB,k1,e]),List.append_nil] at hs;try (simp [hlt,b,hw])
       repeat (first|(refine sR ?_; simp [hlt,b,hw])|(refine sC ?_; simp [hlt,b,hw])|(refine sX ?_; simp only [AU, ↓reduceIte]))
       refine sE ?_;exact ⟨⟨i+1,_,_,_⟩,⟨hlt,htk⟩,by simp only; omega,Weaks.mk htk.le rfl (by simp [ToL,lk,hs]) (by simp [BoxL,lk])⟩
    ·have:i=L.length:=by omega
     subst this;have hf:vioK c xt L L.length=L.filter (vioB c xt):=by simp [vioK]
     rw [hf];try (simp)
     repeat (first|(refine sR ?_; simp)|(refine sC ?_; simp)|(refine sX ?_; simp only [AU, ↓reduceIte]))
     refine sN ?_;refine AL.ret ?_;try simp only [AU]
     refine ⟨by simp,(Fin.data (av:=.tup [.d (.sl 2 (mosR (L.filter (vioB c xt)))),I 0]) (by simp [resAs,resA]; rfl) hbox rfl htok htk.old htk.le (by simp [packA])).mono fun v m hq=>⟨.inl (by rw [hR,hq.1]),hq.2⟩⟩
   ·have hR:vioS t c g xt=([],(allS t c.g g true).2):=by unfold vioS; rw [if_neg (by simp [c1]),if_pos c2]
    try (simp [c2])
    repeat (first|(refine sR ?_; simp [c2])|(refine sC ?_; simp [c2])|(refine sX ?_; simp only [AU, ↓reduceIte]))
    refine sN ?_;refine AL.ret ?_;try simp only [AU]
    refine ⟨by simp,(Fin.data (av:=.tup [.osl 0 [] .full,I (allS t c.g g true).2]) (by simp [resAs,resA]; rfl) hbox rfl htok (fun _ h=>h) (Nat.le_refl _) (by simp [packA])).mono fun v m hq=>⟨.inr ⟨by rw [hR],by rw [hR,hq.1]⟩,hq.2⟩⟩
  ·have hR:vioS t c g xt=([],cnE t c):=by unfold vioS; rw [if_pos c1]
   try (simp [c1])
   repeat (first|(refine sR ?_; simp [c1])|(refine sC ?_; simp [c1])|(refine sX ?_; simp only [AU, ↓reduceIte]))
   refine sN ?_;refine AL.ret ?_;try simp only [AU]
   refine ⟨by simp,(Fin.data (av:=.tup [.osl 0 [] .full,I (cnE t c)]) (by simp [resAs,resA]; rfl) hbox rfl htok (fun _ h=>h) (Nat.le_refl _) (by simp [packA])).mono fun v m hq=>⟨.inr ⟨by rw [hR],by rw [hR,hq.1]⟩,hq.2⟩⟩
 refine main.conv fun v m h=>?_
 obtain ⟨rfl|⟨h1,rfl⟩,rfl⟩:=h
 ·exact ⟨_,_,Conv.refl _ _,rfl,rfl⟩
 ·refine ⟨_,_,Conv.sub (v':=.tup [.d (.sl 2 (mosR (vioS t c g xt).1)),I (vioS t c g xt).2]) (Sub.tup ⟨?_,Sub.refl _,trivial⟩),rfl,rfl⟩;rw [h1];exact Sub.nil _ _ _
theorem AL.cut_aux {P:Program} {cx:Cx} {nt0:Nat} {K K':Exit→AState→Prop} {R:List CI} (hn:∀ S,K' .normal S→AL P cx nt0 K R S) (he:∀ e S,e≠.normal→K' e S→AU P cx nt0 K R e S) :
  ∀ l:List CI,(∀ S,AL P cx nt0 K' l S→AL P cx nt0 K (l++R) S)∧∀ e S,e≠.normal→AU P cx nt0 K' l e S→AU P cx nt0 K (l++R) e S
 | []=>⟨fun S h=>hn S (by simpa only [AL] using h),fun e S h1 h=>he e S h1 (by simpa only [AU] using h)⟩
 | .c c::l=>by
  obtain ⟨i1,i2⟩:=AL.cut_aux hn he l;refine ⟨fun S h=>?_,fun e S h1 h=>?_⟩
  ·simp only [AL,List.cons_append] at h ⊢;refine h.mono fun e S' h=>?_
   cases e with
   | normal=>exact i1 S' h
   | _=>exact i2 _ _ (by simp) h
  ·simp only [AU,List.cons_append] at h ⊢;exact i2 e S h1 h
 | .blk id::l=>by
  obtain ⟨i1,i2⟩:=AL.cut_aux hn he l;refine ⟨fun S h=>?_,fun e S h1 h=>?_⟩
  ·simp only [AL,List.cons_append] at h ⊢;exact i1 S h
  ·cases e with
   | normal=>exact absurd rfl h1
   | exit j =>
    simp only [AU,List.cons_append] at h ⊢;split
    ·rename_i hj;rw [if_pos hj] at h;exact i1 S h
    ·rename_i hj;rw [if_neg hj] at h;exact i2 _ S h1 h
   | _ =>
    simp only [AU,List.cons_append] at h ⊢;exact i2 _ S h1 h
theorem AL.cut {P:Program} {cx:Cx} {nt0:Nat} {K:Exit→AState→Prop} {l r:List CI} {S:AState} {y:Code} {α:Type} (T:α→AState) (inv:α→Prop)
  (h1:AL P cx nt0 (fun e S'=>match e with
   | .normal=>∃ a,inv a∧Weaks cx nt0 S' (T a)
   | e=>AU P cx nt0 K (.c y::r) e S') l S) (h2:∀ a,inv a→AL P cx nt0 K (.c y::r) (T a)):AL P cx nt0 K (l++.c y::r) S:=by
 refine (AL.cut_aux ?_ ?_ l).1 S h1
 ·rintro S ⟨a,ha,hw⟩;exact AL.weak hw (h2 a ha)
 ·intro e S hne h;cases e with
  | normal=>exact absurd rfl hne
  | _=>exact h
theorem AL.cutP {P:Program} {cx:Cx} {nt0:Nat} {K:Exit→AState→Prop} {l r:List CI} {S:AState} {y:Code} (T:AState) (p:Prop)
  (h1:AL P cx nt0 (fun e S'=>match e with
   | .normal=>p∧Weaks cx nt0 S' T
   | e=>AU P cx nt0 K (.c y::r) e S') l S) (h2:p→AL P cx nt0 K (.c y::r) T):AL P cx nt0 K (l++.c y::r) S:=by
 refine (AL.cut_aux ?_ ?_ l).1 S h1
 ·rintro S ⟨ha,hw⟩;exact AL.weak hw (h2 ha)
 ·intro e S hne h;cases e with
  | normal=>exact absurd rfl hne
  | _=>exact h
theorem nm_nil {s:ByteArray}:s.toList=[]↔s=⟨#[]⟩:=by
 have h:=seq_iff (a:=s) (b:=⟨#[]⟩);simpa using h
def wordsL:List ByteArray:=[⟨#[110,111,116]⟩,⟨#[69,88]⟩,⟨#[69,70]⟩,⟨#[69,71]⟩,⟨#[65,88]⟩,⟨#[65,70]⟩,⟨#[65,71]⟩,⟨#[69]⟩,⟨#[65]⟩,⟨#[85]⟩]
@[simp] theorem globA_words:globA 1=.cptr [strs wordsL] 0:=rfl
def kOk (k:Int):Bool:=decide (1≤k∧k≤12)
def kLo (k:Int):Int:=if k=1 then 0 else if k=3∨k=4∨k=8∨k=12 then 2 else if 1≤k∧k≤12 then 1 else 0
def kHi (k:Int):Int:=if k=1 then 0 else if k=3∨k=4 then 1073741824 else if k=8∨k=12 then 2 else if 1≤k∧k≤12 then 1 else 0
def arB (k:Int) (n:Nat):Bool:=if k=1 then decide (n=0) else if k=3∨k=4 then decide (2≤n) else if k=8∨k=12 then decide (n=2) else decide (1≤k∧k≤12∧n=1)
theorem kinds (k:Int):k=1∨k=2∨k=3∨k=4∨k=5∨k=6∨k=7∨k=8∨k=9∨k=10∨k=11∨k=12∨(k≠1∧k≠2∧k≠3∧k≠4∧k≠5∧k≠6∧k≠7∧k≠8∧k≠9∧k≠10∧k≠11∧k≠12):=by omega
theorem arB_iff (k:Int) (n:Nat) (hn:n≤1000000):arB k n=(kOk k&&decide (kLo k≤(n:Int))&&decide ((n:Int)≤kHi k)):=by
 rcases kinds k with h|h|h|h|h|h|h|h|h|h|h|h|h
 any_goals (subst h; rw [Bool.eq_iff_iff]; simp [arB,kOk,kLo,kHi]; try omega)
 obtain ⟨h1,h2,h3,h4,h5,h6,h7,h8,h9,h10,h11,h12⟩:=h;have h0:¬ (1≤k∧k≤12):=by omega
 rw [Bool.eq_iff_iff];simp [arB,kOk,kLo,kHi,h1,h3,h4,h8,h12,h0];omega
set_option maxRecDepth 100000 in
theorem kidsT_c (k:Int) (tok:Tks) (nt:Nat):DCall Tryz.prog 226 [I k] tok nt (.tup [I (kLo k),I (kHi k),B (kOk k)]) tok nt:=by
 intro box nb;rcases kinds k with h|h|h|h|h|h|h|h|h|h|h|h|h
 any_goals subst h
 any_goals
  refine sI Tryz.func226 Tryz.ntmps226 fun hbox htok=>?_
  try (simp)
  repeat (first|(refine sR ?_; simp)|(refine sC ?_; simp)|(refine sX ?_; simp only [AU, ↓reduceIte]))
  refine sT (sH hbox htok ?_);simp [packA,kLo,kHi,kOk]
 obtain ⟨h1,h2,h3,h4,h5,h6,h7,h8,h9,h10,h11,h12⟩:=h;have h0:¬ (1≤k∧k≤12):=by omega
 have b1:(k==1)=false:=by simpa using h1
 have b2:(k==2)=false:=by simpa using h2
 have b3:(k==3)=false:=by simpa using h3
 have b4:(k==4)=false:=by simpa using h4
 have b5:(k==5)=false:=by simpa using h5
 have b6:(k==6)=false:=by simpa using h6
 have b7:(k==7)=false:=by simpa using h7
 have b8:(k==8)=false:=by simpa using h8
 have b9:(k==9)=false:=by simpa using h9
 have b10:(k==10)=false:=by simpa using h10
 have b11:(k==11)=false:=by simpa using h11
 have b12:(k==12)=false:=by simpa using h12
 refine sI Tryz.func226 Tryz.ntmps226 fun hbox htok=>?_
 try (simp [h1,h2,h3,h4,h5,h6,h7,h8,h9,h10,h11,h12,b1,b2,b3,b4,b5,b6,b7,b8,b9,b10,b11,b12])
 repeat (first|(refine sR ?_; simp [h1,h2,h3,h4,h5,h6,h7,h8,h9,h10,h11,h12,b1,b2,b3,b4,b5,b6,b7,b8,b9,b10,b11,b12])|(refine sC ?_; simp [h1,h2,h3,h4,h5,h6,h7,h8,h9,h10,h11,h12,b1,b2,b3,b4,b5,b6,b7,b8,b9,b10,b11,b12])|(refine sX ?_; simp only [AU, ↓reduceIte]))
 refine sT (sH hbox htok ?_);simp [packA,kLo,kHi,kOk,h1,h2,h3,h4,h5,h6,h7,h8,h9,h10,h11,h12,h0]
def fatB (s:ByteArray):Bool:=nameB s&&!memS wordsL s
def badF (k:Int) (s:ByteArray) (n:Nat):Bool:=!arB k n||(decide (s≠⟨#[]⟩)&&decide (k≠1))
mutual
def Fo.formE:Fo→Int
 | .mk k s c=>if badF k s c.length=true then 1 else if k=1∧fatB s=false then 2 else Fo.formL c
def Fo.formL:List Fo→Int
 | []=>0
 | x::r=>if Fo.formE x≠0 then Fo.formE x else Fo.formL r
end
theorem Fo.formE_eq (f:Fo):f.formE=if badF f.kind f.name f.kids.length=true then 1 else if f.kind=1∧fatB f.name=false then 2 else Fo.formL f.kids:=by
 cases f; rw [Fo.formE]; rfl
theorem Fo.formL_take:∀ {l:List Fo} {i:Nat} (h:i<l.length),(∀ j,j<i→∀ hj:j<l.length,l[j].formE=0)→Fo.formL l=if l[i].formE≠0 then l[i].formE else Fo.formL (l.drop (i+1))
 | x::r,0,h,_=>by rw [Fo.formL]; rfl
 | x::r,i+1,h,h0=>by
  have h1:=h0 0 (by omega) (by simp);simp only [List.getElem_cons_zero] at h1;rw [Fo.formL,if_neg (by simp [h1]),Fo.formL_take (i:=i) (by simpa using h) (fun j hj hl=>h0 (j+1) (by omega) (Nat.succ_lt_succ hl))];rfl
theorem Fo.formL_none:∀ {l:List Fo},(∀ j (hj:j<l.length),l[j].formE=0)→Fo.formL l=0
 | [],_=>rfl
 | x::r,h=>by
  have h1:=h 0 (by simp);simp only [List.getElem_cons_zero] at h1;rw [Fo.formL,if_neg (by simp [h1])];exact Fo.formL_none fun j hj=>h (j+1) (Nat.succ_lt_succ hj)
inductive Fo.Sm:Fo→Prop
 | mk {f:Fo} (hn:f.name.size≤200000000000000) (hk:f.kids.length≤200000000000000) (h:∀ x∈f.kids,Fo.Sm x):Fo.Sm f
theorem Fo.Sm.name {f:Fo} (h:f.Sm):f.name.size≤200000000000000:=by cases h; assumption
theorem Fo.Sm.len {f:Fo} (h:f.Sm):f.kids.length≤200000000000000:=by cases h; assumption
theorem Fo.Sm.kid {f:Fo} (h:f.Sm):∀ x∈f.kids,Fo.Sm x:=by cases h; assumption
def stFoA (f:Fo) (nb:Nat) (box:Bxs) (tok:Tks) (nt:Nat):AState :=
 ⟨tl [(1,.ptr (nb+1) 0 0)],lb nb box [(1,[f.row])],tok,nt⟩
def stFoT (f:Fo) (nb:Nat) (box:Bxs) (tok:Tks) (nt:Nat) (i:Nat):AState :=
 ⟨tl [(58,.d (fos f.kids)),(59,I f.kids.length),(60,I i),(1,.ptr (nb+1) 0 0)],lb nb box [(1,[f.row])],tok,nt⟩
set_option maxRecDepth 100000 in
theorem formT_c:∀ (n:Nat) (f:Fo),f.size<n→f.size≤1000000→f.Sm→∀ (tok:Tks) (nt:Nat),DCall Tryz.prog 149 [f.av] tok nt (I f.formE) tok nt
 | 0,f,hn,_,_,tok,nt=>absurd hn (Nat.not_lt_zero _)
 | n+1,f,hn,hb,hs,tok,nt=>by
  intro box nb;have ih:=fun x (hx:x∈f.kids)=>formT_c n x (by have:=Fo.kid_size hx; omega) (by have:=Fo.kid_size hx; omega) (hs.kid x hx)
  have hkl:=f.kids_len;have hnm:=hs.name;have har:=arB_iff f.kind f.kids.length (by omega);obtain ⟨R,hR⟩:∃ R,f.formE=R:=⟨_,rfl⟩
  rw [hR];rw [f.formE_eq] at hR;refine sI Tryz.func149 Tryz.ntmps149 fun hbox htok=>?_
  repeat (first|simp|refine sR ?_)
  refine Stop.of_d (kidsT_c f.kind _ _) ?_;simp;refine sN ?_;refine AL.cutP (l:=[_,_]) (stFoA f nb box tok nt) (badF f.kind f.name f.kids.length=false) ?_ fun hbad=>?_
  ·by_cases c1:kOk f.kind=true
   ·by_cases c2:(f.kids.length:Int)<kLo f.kind
    ·have e:arB f.kind f.kids.length=false:=by rw [har]; simp; omega
     simp only [badF,e,Bool.not_false,Bool.true_or, ↓reduceIte] at hR;subst hR;try (simp [c1,c2])
     repeat (first|(refine sR ?_; simp [c1,c2])|(refine sC ?_; simp [c1,c2])|(refine sX ?_; simp only [AU, ↓reduceIte]))
     refine sT (sH hbox htok ?_);simp [packA]
    ·by_cases c3:kHi f.kind<(f.kids.length:Int)
     ·have e:arB f.kind f.kids.length=false:=by rw [har]; simp; omega
      simp only [badF,e,Bool.not_false,Bool.true_or, ↓reduceIte] at hR;subst hR;try (simp [c1,c2,c3])
      repeat (first|(refine sR ?_; simp [c1,c2,c3])|(refine sC ?_; simp [c1,c2,c3])|(refine sX ?_; simp only [AU, ↓reduceIte]))
      refine sT (sH hbox htok ?_);simp [packA]
     ·have e:arB f.kind f.kids.length=true:=by rw [har]; simp [c1]; omega
      by_cases c4:f.name=⟨#[]⟩
      ·have hs':=nm_nil.2 c4
       have hb:badF f.kind f.name f.kids.length=false:=by unfold badF; rw [e]; simp [c4]
       try (simp [c1,c2,c3,hs'])
       repeat (first|(refine sR ?_; simp [c1,c2,c3,hs'])|(refine sC ?_; simp [c1,c2,c3,hs'])|(refine sX ?_; simp only [AU, ↓reduceIte]))
       refine sE ?_;exact ⟨hb,wkA⟩
      ·have hs':f.name.toList.isEmpty=false:=by simpa using fun h=>c4 (nm_nil.1 h)
       have hs2:¬ f.name.toList=[]:=fun h=>c4 (nm_nil.1 h)
       by_cases c5:f.kind=1
       ·have hb:badF f.kind f.name f.kids.length=false:=by unfold badF; rw [e]; simp [c5]
        have b5:(f.kind != 1)=false:=by simp [c5]
        try (simp [c1,c2,c3,hs',hs2,b5])
        repeat (first|(refine sR ?_; simp [c1,c2,c3,hs',hs2,b5])|(refine sC ?_; simp [c1,c2,c3,hs',hs2,b5])|(refine sX ?_; simp only [AU, ↓reduceIte]))
        refine sE ?_;exact ⟨hb,wkA⟩
       ·have b5:(f.kind != 1)=true:=by simpa using c5
        have hb:badF f.kind f.name f.kids.length=true:=by unfold badF; rw [e]; simp [c4,c5]
        simp only [hb, ↓reduceIte] at hR;subst hR;try (simp [c1,c2,c3,hs',hs2,b5])
        repeat (first|(refine sR ?_; simp [c1,c2,c3,hs',hs2,b5])|(refine sC ?_; simp [c1,c2,c3,hs',hs2,b5])|(refine sX ?_; simp only [AU, ↓reduceIte]))
        refine sT (sH hbox htok ?_);simp [packA]
   ·have e:arB f.kind f.kids.length=false:=by rw [har]; simp [c1]
    have c1':kOk f.kind=false:=by simpa using c1
    simp only [badF,e,Bool.not_false,Bool.true_or, ↓reduceIte] at hR;subst hR;try (simp [c1'])
    repeat (first|(refine sR ?_; simp [c1'])|(refine sC ?_; simp [c1'])|(refine sX ?_; simp only [AU, ↓reduceIte]))
    refine sT (sH hbox htok ?_);simp [packA]
  ·simp only [hbad,Bool.false_eq_true, ↓reduceIte] at hR;simp only [stFoA];refine sN ?_;refine AL.cutP (l:=[_,_]) (stFoA f nb box tok nt) (¬ (f.kind=1∧fatB f.name=false)) ?_ fun hat=>?_
   ·by_cases c5:f.kind=1
    ·have b5:(f.kind==1)=true:=by simpa using c5
     cases hn:nameB f.name
     ·have ha:fatB f.name=false:=by simp [fatB,hn]
      rw [if_pos ⟨c5,ha⟩] at hR;subst hR;try (simp [b5])
      repeat (first|(refine sR ?_; simp [b5])|(refine sC ?_; simp [b5])|(refine sX ?_; simp only [AU, ↓reduceIte]))
      refine Stop.of_d (isName_c f.name hnm _ _) ?_;simp;try (simp [b5,hn])
      repeat (first|(refine sR ?_; simp [b5,hn])|(refine sC ?_; simp [b5,hn])|(refine sX ?_; simp only [AU, ↓reduceIte]))
      refine sT (sH hbox htok ?_);simp [packA]
     ·cases hm:memS wordsL f.name
      ·have ha:fatB f.name=true:=by simp [fatB,hn,hm]
       try (simp [b5])
       repeat (first|(refine sR ?_; simp [b5])|(refine sC ?_; simp [b5])|(refine sX ?_; simp only [AU, ↓reduceIte]))
       refine Stop.of_d (isName_c f.name hnm _ _) ?_;simp;try (simp [b5,hn])
       repeat (first|(refine sR ?_; simp [b5,hn])|(refine sC ?_; simp [b5,hn])|(refine sX ?_; simp only [AU, ↓reduceIte]))
       refine Stop.of_d (containsS_c wordsL f.name (by decide) _ _) ?_;simp;try (simp [b5,hn,hm])
       repeat (first|(refine sR ?_; simp [b5,hn,hm])|(refine sC ?_; simp [b5,hn,hm])|(refine sX ?_; simp only [AU, ↓reduceIte]))
       refine sE ?_;exact ⟨fun _=>ha,wkA⟩
      ·have ha:fatB f.name=false:=by simp [fatB,hn,hm]
       rw [if_pos ⟨c5,ha⟩] at hR;subst hR;try (simp [b5])
       repeat (first|(refine sR ?_; simp [b5])|(refine sC ?_; simp [b5])|(refine sX ?_; simp only [AU, ↓reduceIte]))
       refine Stop.of_d (isName_c f.name hnm _ _) ?_;simp;try (simp [b5,hn])
       repeat (first|(refine sR ?_; simp [b5,hn])|(refine sC ?_; simp [b5,hn])|(refine sX ?_; simp only [AU, ↓reduceIte]))
       refine Stop.of_d (containsS_c wordsL f.name (by decide) _ _) ?_;simp;try (simp [b5,hn,hm])
       repeat (first|(refine sR ?_; simp [b5,hn,hm])|(refine sC ?_; simp [b5,hn,hm])|(refine sX ?_; simp only [AU, ↓reduceIte]))
       refine sT (sH hbox htok ?_);simp [packA]
    ·have b5:(f.kind==1)=false:=by simpa using c5
     try (simp [b5])
     repeat (first|(refine sR ?_; simp [b5])|(refine sC ?_; simp [b5])|(refine sX ?_; simp only [AU, ↓reduceIte]))
     refine sE ?_;exact ⟨fun h=>absurd h c5,wkA⟩
   ·rw [if_neg hat] at hR;simp only [stFoA];repeat (first|simp|refine sR ?_)
    refine sN ?_;refine AL.loopT (stFoT f nb box tok nt) (fun i=>i≤f.kids.length∧∀ j,j<i→∀ hj:j<f.kids.length,f.kids[j].formE=0) (fun i=>f.kids.length - i) 0 ⟨Nat.zero_le _,fun j hj=>absurd hj (Nat.not_lt_zero _)⟩ wkA ?_;rintro i S ⟨hi,h0⟩ hS;simp only [stFoT] at hS;subst hS;have hw:=sW (i:=i) (by omega);repeat (first|simp|refine sR ?_|refine sC ?_)
    refine ⟨fun hlt=>?_,fun hge=>?_⟩
    ·have ihx:=ih _ (List.getElem_mem hlt);have htake:=Fo.formL_take hlt h0;repeat (first|simp [hlt,Fo.cells_eq]|refine sR ?_)
     generalize hx:f.kids[i]=x at *;repeat (first|simp|refine sR ?_)
     refine Stop.of_d (ihx _ _) ?_;simp;by_cases he:x.formE=0
     ·try (simp [he,hw])
      repeat (first|(refine sR ?_; simp [he,hw])|(refine sC ?_; simp [he,hw])|(refine sX ?_; simp only [AU, ↓reduceIte]))
      refine sE ?_;refine ⟨i+1,⟨hlt,fun j hj hj2=>?_⟩,by omega,wkA⟩;rcases Nat.lt_or_ge j i with h|h
      ·exact h0 j h hj2
      ·have:j=i:=by omega
       subst this;rw [hx]; exact he
     ·have he':(x.formE != 0)=true:=by simpa using he
      rw [if_pos he] at htake;rw [htake] at hR;subst hR;try (simp [he,he'])
      repeat (first|(refine sR ?_; simp [he,he'])|(refine sC ?_; simp [he,he'])|(refine sX ?_; simp only [AU, ↓reduceIte]))
      refine sT (sH hbox htok ?_);simp [packA]
    ·refine sX ?_;simp only [AU, ↓reduceIte];have hz:Fo.formL f.kids=0:=Fo.formL_none fun j hj=>h0 j (by omega) hj
     rw [hz] at hR;subst hR;repeat (first|simp|refine sR ?_)
     refine sT (sH hbox htok ?_);simp [packA]
def stWd (L:List ByteArray) (s:ByteArray) (nb:Nat) (box:Bxs) (tok:Tks) (nt:Nat) (i:Nat):AState :=
 ⟨tl [(4,I i),(3,.d (strs L)),(0,Sb s)],lb nb box [],tok,nt⟩
set_option maxRecDepth 100000 in
theorem word50_c (s:ByteArray) (tok:Tks) (nt:Nat):DCall Tryz.prog 228 [Sb s] tok nt (B (memS wordsL s)) tok nt:=by
 intro box nb;refine sI Tryz.func228 Tryz.ntmps228 fun hbox htok=>?_
 repeat (first|simp|refine sR ?_)
 refine ⟨rfl,?_⟩;obtain ⟨L,hL⟩:∃ L,wordsL=L:=⟨_,rfl⟩
 have hlen:L.length=10:=by rw [←hL]; rfl
 rw [hL];repeat (first|simp|refine sR ?_)
 refine sN ?_;refine AL.loopT (stWd L s nb box tok nt) (fun i=>i≤L.length∧∀ x∈L.take i,decide (s=x)=false) (fun i=>L.length - i) 0 ⟨Nat.zero_le _,by simp⟩ (Weaks.mk (Nat.le_refl _) rfl (by rw [←hL]; simp [ToL,lk]; exact .data) trivial) ?_;rintro i S ⟨hi,htk⟩ hS;simp only [stWd] at hS;subst hS;have hw:=sW (i:=i) (by omega);by_cases hlt:i<L.length
 ·have hpx:decide (s=L[i])=true→memS L s=true:=fun he=>memS_iff.2 (by rw [of_decide_eq_true he]; exact List.getElem_mem hlt)
  have hmore:decide (s=L[i])=false→∀ x∈L.take (i+1),decide (s=x)=false:=fun he x hx=>by
   rw [List.take_succ_eq_append_getElem hlt] at hx;rcases List.mem_append.1 hx with hx|hx
   ·exact htk x hx
   ·simp at hx; rw [hx]; exact he
  have hsq:(L[i].toList==s.toList)=decide (s=L[i]):=by rw [seq_dec,Bool.eq_iff_iff,decide_eq_true_eq,decide_eq_true_eq]; exact eq_comm
  cases e:decide (s=L[i])
  ·rw [e] at hsq;try (simp [hlt,hsq,hw])
   repeat (first|(refine sR ?_; simp [hlt,hsq,hw])|(refine sC ?_; simp [hlt,hsq,hw])|(refine sX ?_; simp only [AU, ↓reduceIte]))
   refine sE ?_;exact ⟨i+1,⟨hlt,by simpa using hmore e⟩,by omega,Weaks.mk (Nat.le_refl _) rfl (by simp [ToL,lk]) trivial⟩
  ·rw [e] at hsq;have h1:=hpx e;try (simp [hlt,hsq,hw])
   repeat (first|(refine sR ?_; simp [hlt,hsq,hw])|(refine sC ?_; simp [hlt,hsq,hw])|(refine sX ?_; simp only [AU, ↓reduceIte]))
   refine sT (sH hbox htok ?_);simp [packA,h1]
 ·have hn:memS L s=false:=by
   rw [List.take_of_length_le (by omega)] at htk;simpa [memS] using htk
  repeat (first|simp [hlt]|refine sR ?_|refine sC ?_)
  refine sX ?_;simp only [AU, ↓reduceIte];repeat (first|simp|refine sR ?_)
  refine sT (sH hbox htok ?_);simp [packA,hn]
def kidB (k:Int) (n:Nat):Bool:=if k=1 then ((n:Int)==0) else if k=3∨k=4 then decide (2≤(n:Int)) else if k=8∨k=12 then ((n:Int)==2) else ((n:Int)==1)
theorem arB_kid (k:Int) (n:Nat):arB k n=(kOk k&&kidB k n):=by
 rcases kinds k with h|h|h|h|h|h|h|h|h|h|h|h|h
 any_goals (subst h; rw [Bool.eq_iff_iff]; simp [arB,kOk,kidB]; try omega)
 obtain ⟨h1,h2,h3,h4,h5,h6,h7,h8,h9,h10,h11,h12⟩:=h;have h0:¬ (1≤k∧k≤12):=by omega
 rw [Bool.eq_iff_iff];simp [arB,kOk,kidB,h1,h3,h4,h8,h12,h0];omega
set_option maxRecDepth 100000 in
theorem kids50_c (f:Fo) (hl:f.kids.length≤1000000) (tok:Tks) (nt:Nat):DCall Tryz.prog 227 [f.av] tok nt (B (kidB f.kind f.kids.length)) tok nt:=by
 intro box nb;by_cases h1:f.kind=1
 ·refine sI Tryz.func227 Tryz.ntmps227 fun hbox htok=>?_
  try (simp [h1])
  repeat (first|(refine sR ?_; simp [h1])|(refine sC ?_; simp [h1])|(refine sX ?_; simp only [AU, ↓reduceIte]))
  refine sT (sH hbox htok ?_);simp [packA,kidB,h1]
 ·have b1:(f.kind==1)=false:=by simpa using h1
  by_cases h3:f.kind=3
  ·refine sI Tryz.func227 Tryz.ntmps227 fun hbox htok=>?_
   try (simp [h3])
   repeat (first|(refine sR ?_; simp [h3])|(refine sC ?_; simp [h3])|(refine sX ?_; simp only [AU, ↓reduceIte]))
   refine sT (sH hbox htok ?_);simp [packA,kidB,h3]
  ·have b3:(f.kind==3)=false:=by simpa using h3
   by_cases h4:f.kind=4
   ·refine sI Tryz.func227 Tryz.ntmps227 fun hbox htok=>?_
    try (simp [h4])
    repeat (first|(refine sR ?_; simp [h4])|(refine sC ?_; simp [h4])|(refine sX ?_; simp only [AU, ↓reduceIte]))
    refine sT (sH hbox htok ?_);simp [packA,kidB,h4]
   ·have b4:(f.kind==4)=false:=by simpa using h4
    by_cases h8:f.kind=8
    ·refine sI Tryz.func227 Tryz.ntmps227 fun hbox htok=>?_
     try (simp [h8])
     repeat (first|(refine sR ?_; simp [h8])|(refine sC ?_; simp [h8])|(refine sX ?_; simp only [AU, ↓reduceIte]))
     refine sT (sH hbox htok ?_);simp [packA,kidB,h8]
    ·have b8:(f.kind==8)=false:=by simpa using h8
     by_cases h12:f.kind=12
     ·refine sI Tryz.func227 Tryz.ntmps227 fun hbox htok=>?_
      try (simp [h12])
      repeat (first|(refine sR ?_; simp [h12])|(refine sC ?_; simp [h12])|(refine sX ?_; simp only [AU, ↓reduceIte]))
      refine sT (sH hbox htok ?_);simp [packA,kidB,h12]
     ·have b12:(f.kind==12)=false:=by simpa using h12
      refine sI Tryz.func227 Tryz.ntmps227 fun hbox htok=>?_
      try (simp [b1,b3,b4,b8,b12,h1,h3,h4,h8,h12])
      repeat (first|(refine sR ?_; simp [b1,b3,b4,b8,b12,h1,h3,h4,h8,h12])|(refine sC ?_; simp [b1,b3,b4,b8,b12,h1,h3,h4,h8,h12])|(refine sX ?_; simp only [AU, ↓reduceIte]))
      refine sT (sH hbox htok ?_);simp [packA,kidB,h1,h3,h4,h8,h12]
structure Sd where
 k:Int
 o:Bool
 near:Int
 far:Int
 low:Int
 high:Int
abbrev Sd.cells (s:Sd):List D:=[.raw (.int .i64 s.k),.raw (.bool s.o),.raw (.int .i64 s.near),.raw (.int .i64 s.far),.raw (.int .i64 s.low),.raw (.int .i64 s.high)]
abbrev Sd.av (s:Sd):AV:=.agg [I s.k,B s.o,I s.near,I s.far,I s.low,I s.high]
structure DelS where
 j:Nat
 i:Nat
 ys:List Ov
structure DelOk (xs:List Ov) (p:Ov→Bool) (x:DelS):Prop where
 ij:x.i<x.j
 jn:x.j≤xs.length
 len:x.ys.length=xs.length
 tk:x.ys.take x.i=(xs.take x.j).filter fun o=>!p o
 dr:x.ys.drop x.j=xs.drop x.j
theorem DelOk.at {xs:List Ov} {p:Ov→Bool} {x:DelS} (h:DelOk xs p x) (hj:x.j<xs.length):x.ys[x.j]'(by rw [h.len]; exact hj)=xs[x.j]:=by
 have h1:x.ys[x.j]'(by rw [h.len]; exact hj)=(x.ys.drop x.j)[0]'(by simp [h.len]; omega):=by simp
 have h2:xs[x.j]=(xs.drop x.j)[0]'(by simp; omega):=by simp
 rw [h1,h2];simp only [h.dr]
theorem DelOk.skip {xs:List Ov} {p:Ov→Bool} {j i:Nat} {ys:List Ov} (h:DelOk xs p ⟨j,i,ys⟩) (hj:j<xs.length) (hp:p xs[j]=true):DelOk xs p ⟨j+1,i,ys⟩:=by
 obtain ⟨h1,h2,h3,h4,h5⟩:=h;simp only at h1 h2 h3 h4 h5;refine ⟨by simp only; omega,hj,h3,?_,?_⟩
 ·simp only;rw [h4,←List.take_append_getElem hj,List.filter_append];simp [hp]
 ·simp only;rw [←List.drop_drop,←List.drop_drop,h5]
theorem DelOk.put {xs:List Ov} {p:Ov→Bool} {j i:Nat} {ys:List Ov} (h:DelOk xs p ⟨j,i,ys⟩) (hj:j<xs.length) (hp:p xs[j]=false):DelOk xs p ⟨j+1,i+1,ys.set i xs[j]⟩:=by
 obtain ⟨h1,h2,h3,h4,h5⟩:=h;simp only at h1 h2 h3 h4 h5;refine ⟨by simp only; omega,hj,by simp [h3],?_,?_⟩
 ·simp only;have hi:i<(ys.set i xs[j]).length:=by simp; omega
  rw [←List.take_append_getElem hi,←List.take_append_getElem hj,List.filter_append,←h4];simp [hp,List.take_set_of_le]
 ·simp only;rw [List.drop_set_of_lt (by omega),←List.drop_drop,←List.drop_drop,h5]
theorem DelOk.start {xs:List Ov} {p:Ov→Bool} (h:xs.any p=true):DelOk xs p ⟨xs.findIdx p+1,xs.findIdx p,xs⟩:=by
 have hlt:xs.findIdx p<xs.length:=by
  rw [List.findIdx_lt_length];simpa using h
 refine ⟨Nat.lt_succ_self _,hlt,rfl,?_,rfl⟩;simp only;rw [←List.take_append_getElem hlt,List.filter_append];have h1:p xs[xs.findIdx p]=true:=List.findIdx_getElem (w:=hlt)
 have h2:(xs.take (xs.findIdx p)).filter (fun o=>!p o)=xs.take (xs.findIdx p):=by
  refine List.filter_eq_self.2 fun a ha=>?_
  obtain ⟨q,hq,rfl⟩:=List.getElem_of_mem ha;rw [List.getElem_take];have:=List.not_of_lt_findIdx (p:=p) (xs:=xs) (i:=q) (by simp at hq; omega)
  simpa using this
 rw [h2];simp [h1]
structure Ar where
 to:Gr
 m:Mo
abbrev Ar.av (x:Ar):AV:=.agg [.d (ints x.to.nodes),.d (AM.edges x.to.edges),.d (ints x.m.nodes),.d (ints x.m.edges)]
structure Ar.Big (x:Ar):Prop where
 n:x.m.nodes.length≤bigN
 e:x.m.edges.length≤bigN
def RS (n:Int) (s t:St2):Prop:=(s.2=0∧t.2=0∧s.1+t.1=2000∧0≤s.1∧s.1≤n)∨(s.2=3∧t.2=3)
theorem RS.zero {n:Int} {s t:St2} (h:RS n s t) (h0:s.2=0):t.2=0:=by
 rcases h with h|h
 ·exact h.2.1
 ·rw [h.1] at h0; cases h0
structure Ch where
 a:Dr
 b:List Int
 g:List Int
 c:List Int
abbrev Ch.av (x:Ch):AV:=.agg [.d (.sl 1 (x.a.nodes.map fun n=>[u8 n])),.d (.sl 3 (x.a.edges.map fun e=>[u8 e.1,u8 e.2.1,u8 e.2.2])),.d (bytes x.b),.d (bytes x.g),.d (bytes x.c)]
def Ch.ok (x:Ch):Bool:=decide (x.a.nodes.length≤1∧x.a.edges.length≤1∧x.c.length≤12∧x.b.length≤10∧x.g.length≤10)
def Ch.A (x:Ch):Gr:=madeG x.a
def Ch.B (x:Ch):Gr:=growR x.A x.b 2
theorem Pre.le {a b:Gr} (h:Pre a b):a.nodes.length≤b.nodes.length∧a.edges.length≤b.edges.length:=by
 obtain ⟨t,ht⟩:=h.n;obtain ⟨u,hu⟩:=h.e;rw [ht,hu]; simp
inductive Cd.Pl:Cd→Prop
 | mk {c:Cd} (hs:c.sl=[]) (hv:c.vars=0) (ht:c.te=[]) (h:∀ x∈c.kids,Cd.Pl x):Cd.Pl c
theorem Cd.Pl.sl {c:Cd} (h:c.Pl):c.sl=[]:=by cases h; assumption
theorem Cd.Pl.te {c:Cd} (h:c.Pl):c.te=[]:=by cases h; assumption
theorem Cd.Pl.vars {c:Cd} (h:c.Pl):c.vars=0:=by cases h; assumption
theorem Cd.Pl.kid {c:Cd} (h:c.Pl):∀ x∈c.kids,Cd.Pl x:=by cases h; assumption
structure Ac3 where
 own:Own
 tok:Nat→Bool
 nt:Nat
def Ac3.add (x:Ac3) (b:Bool):Ac3:=if b=true then ⟨.tok (x.nt+2),upd (x.own.kill (upd (upd (upd x.tok x.nt true) x.nt false) (x.nt+1) true)) (x.nt+2) true,x.nt+3⟩ else x
structure Ac3.Ok (x:Ac3) (tok:Tks) (nt:Nat):Prop where
 adv:Adv tok nt .full x.tok x.nt x.own
 lt:∀ t,tok t=true→t<nt
theorem Ac3.Ok.add {x:Ac3} {tok:Nat→Bool} {nt:Nat} (h:x.Ok tok nt) (b:Bool):(x.add b).Ok tok nt:=by
 unfold Ac3.add;split
 ·have had:=Adv.fresh h.adv.live h.adv.lt;exact ⟨h.adv.trans h.lt (had.trans h.adv.lt (Adv.app had.live had.lt)),h.lt⟩
 ·exact h
theorem Ac3.Ok.tk {x:Ac3} {tok:Nat→Bool} {nt:Nat} (h:x.Ok tok nt):TK tok nt x.tok x.nt [x.own] :=
 ⟨fun t ht=>h.adv.keep t ht (by simp),h.lt,h.adv.le,fun o ho t e=>by
  rw [List.mem_singleton] at ho;subst ho;have hl:=h.adv.live;rw [e] at hl;refine ⟨hl,?_,h.adv.lt t hl⟩;rcases h.adv.new with e2|⟨s,e2,hs⟩
  ·rw [e] at e2; cases e2
  ·rw [e] at e2; cases e2; exact hs,List.pairwise_singleton _ _⟩
abbrev Gr.cells (g:Gr):List D:=[ints g.nodes,AM.edges g.edges]
theorem Ac3.Ok.start {tok:Nat→Bool} {nt:Nat} (h:∀ t,tok t=true→t<nt):(Ac3.mk .full tok nt).Ok tok nt:=⟨Adv.refl trivial h,h⟩
theorem TK.adv {mtok:Nat→Bool} {nt0:Nat} {tok tok':Nat→Bool} {nt nt':Nat} {os:List Own} {own':Own} (h:TK mtok nt0 tok nt os) (ha:Adv tok nt .full tok' nt' own'):TK mtok nt0 tok' nt' (own'::os):=by
 have hnew:∀ s,own'=.tok s→nt≤s∧tok' s=true:=fun s e=>by
  have hl:=ha.live;rw [e] at hl;rcases ha.new with e2|⟨s2,e2,hs⟩
  ·rw [e] at e2; cases e2
  ·rw [e] at e2; cases e2; exact ⟨hs,hl⟩
 refine ⟨fun t ht=>ha.keep t (h.old t ht) (by simp),h.lt,Nat.le_trans h.le ha.le,fun o ho t e=>?_,?_⟩
 ·rcases List.mem_cons.1 ho with rfl|ho
  ·obtain ⟨h1,h2⟩:=hnew t e;exact ⟨h2,Nat.le_trans h.le h1,ha.lt t h2⟩
  ·obtain ⟨h1,h2,h3⟩:=h.own o ho t e;exact ⟨ha.keep t h1 (by simp),h2,Nat.lt_of_lt_of_le h3 ha.le⟩
 ·refine List.pairwise_cons.2 ⟨fun b hb t e e2=>?_,h.ne⟩;obtain ⟨h1,h2⟩:=hnew t e;obtain ⟨_,_,h3⟩:=h.own b hb t e2;omega
def Ac3.ed (x:Ac3) (s:Nat):Ac3:=⟨.tok (x.nt+1),upd (x.own.kill (upd (upd x.tok s false) x.nt true)) (x.nt+1) true,x.nt+2⟩
def Ac3.nd (x:Ac3) (s:Nat):Ac3:=⟨x.own,upd (upd x.tok s false) x.nt true,x.nt+1⟩
theorem dss_nil:DSs [] []:=⟨rfl,fun i h=>by simp at h⟩
theorem dss_cons {x y:List D} {xs ys:List (List D)}:DSs (x::xs) (y::ys)↔DS1 x y∧DSs xs ys:=by
 constructor
 ·rintro ⟨h1,h2⟩;exact ⟨h2 0 (by simp) (by simp),by simpa using h1,fun j g1 g2=>h2 (j+1) (by simpa using g1) (by simpa using g2)⟩
 ·rintro ⟨h1,h2,h3⟩;refine ⟨by simp [h2],fun j g1 g2=>?_⟩
  match j with
  | 0=>exact h1
  | j+1=>exact h3 j (by simpa using g1) (by simpa using g2)
theorem dsub_all {sz:Nat} {es es':List (List D)} (h:DSs es es'):DSub (.sl sz es) (.sl sz es'):=h.sub sz
theorem to_dss {p q:Nat→Prop} {fz:Option (Nat × Nat × List (List D))} {sz:Nat} {es es':List (List D)} {o:Own} (h:DSs es es'):To p q fz (.osl sz es o) (.d (.sl sz es')):=.odsub (h.sub sz)
abbrev Co.cells (c:Co):List D:=[.raw (.string c.name),.raw (.int .i64 c.kind),ints c.g.nodes,AM.edges c.g.edges,xts c.exts]
abbrev rCo (l:List Co):List (List D):=l.map Co.cells
abbrev cosD (l:List Co):D:=.sl 5 (rCo l)
def stICo (xs:List Co) (f:FuncId) (caps:List AV) (nb:Nat) (box:Bxs) (tok:Tks) (nt:Nat) (i:Nat):AState:=⟨tl [(0,.d (cosD xs)),(1,.fn (.func f) caps),(7,I xs.length),(8,I i)],lb nb box [],tok,nt⟩
theorem indexFuncCo_c (xs:List Co) (f:FuncId) (caps:List AV) (p:Co→Bool) (hx:xs.length≤1000000) (box:Bxs) (nb:Nat) (tok:Tks) (nt:Nat) (hc:∀ c∈caps,OkIn (fun k=>box k≠none) (fun _=>True) c)
  (hf:∀ x∈xs,∀ box' nb',Ext box box'→ACalls Tryz.prog f (x.av::caps) ⟨box',nb',tok,nt⟩ fun v m=>v=B (p x)∧m=⟨box',nb',tok,nt⟩) :
  ACalls Tryz.prog 148 [.d (cosD xs),.fn (.func f) caps] ⟨box,nb,tok,nt⟩ fun v m=>v=I (if anyB p xs=true then (xs.findIdx p:Nat) else -1)∧m=⟨box,nb,tok,nt⟩:=by
 refine sI Tryz.func148 Tryz.ntmps148 fun hbox htok=>?_
 repeat (first|simp|refine sR ?_)
 refine sN ?_;refine AL.loopT (stICo xs f caps nb box tok nt) (fun i=>i≤xs.length∧∀ x∈xs.take i,p x=false) (fun i=>xs.length - i) 0 ⟨Nat.zero_le _,by simp⟩ (Weaks.mk (Nat.le_refl _) rfl (by simp [ToL]; exact .same (okFn hc hbox [] (by simp) rfl _)) trivial) ?_;rintro i S' ⟨hi,htk⟩ hS;simp only [stICo] at hS;subst hS;have hw:=sW (i:=i) (by omega);repeat (first|simp|refine sR ?_|refine sC ?_)
 refine ⟨fun hlt=>?_,fun hge=>?_⟩
 ·have hfx:=hf xs[i] (List.getElem_mem _);have hpx:p xs[i]=true→anyB p xs=true∧(xs.findIdx p=i):=fun he=>any_takeG hlt htk he
  have hmore:p xs[i]=false→∀ x∈xs.take (i+1),p x=false:=fun he x hx=>by
   rw [List.take_succ_eq_append_getElem hlt] at hx;rcases List.mem_append.1 hx with hx|hx
   ·exact htk x hx
   ·simp at hx; rw [hx]; exact he
  repeat (first|simp [hlt]|refine sR ?_)
  generalize xs[i]=x at *;refine Stop.of_b (hfx _ _ ((Ext.refl box).lb hbox [])) ?_;simp;cases he:p x
  ·refine sC ?_;simp;repeat (first|simp [hw]|refine sR ?_)
   refine sE ?_;refine ⟨i+1,⟨hlt,?_⟩,by omega,Weaks.mk (Nat.le_refl _) rfl (by simp [ToL]; exact .same (okFn hc hbox [] (by simp) rfl _)) trivial⟩;exact hmore he
  ·obtain ⟨h1,h2⟩:=hpx he;refine sC ?_;repeat (first|simp|refine sR ?_)
   refine sT (sH hbox htok ?_);simp [packA,h1,h2]
 ·have hn:anyB p xs=false:=by
   rw [List.take_of_length_le hge] at htk;simpa [anyB] using htk
  refine sX ?_;simp only [AU, ↓reduceIte];repeat (first|simp|refine sR ?_)
  refine sT (sH hbox htok ?_);simp [packA,hn]
theorem containsFuncCo_c (xs:List Co) (f:FuncId) (caps:List AV) (p:Co→Bool) (hx:xs.length≤1000000) (box:Bxs) (nb:Nat) (tok:Tks) (nt:Nat) (hc:∀ c∈caps,OkIn (fun k=>box k≠none) (fun _=>True) c)
  (hf:∀ x∈xs,∀ box' nb',Ext box box'→ACalls Tryz.prog f (x.av::caps) ⟨box',nb',tok,nt⟩ fun v m=>v=B (p x)∧m=⟨box',nb',tok,nt⟩) :
  ACalls Tryz.prog 81 [.d (cosD xs),.fn (.func f) caps] ⟨box,nb,tok,nt⟩ fun v m=>v=B (anyB p xs)∧m=⟨box,nb,tok,nt⟩:=by
 obtain ⟨A,hany⟩:∃ A,anyB p xs=A:=⟨_,rfl⟩
 have hi:=fun b nb' h1 h2=>indexFuncCo_c xs f caps p hx b nb' tok nt h1 h2
 rw [hany];simp only [hany] at hi;refine sI Tryz.func81 Tryz.ntmps81 fun hbox htok=>?_
 repeat (first|simp|refine sR ?_)
 refine Stop.of_b (hi (lb nb box []) _ (fun c h=>(hc c h).mono (fun k hk=>by rw [hbox]; exact hk) fun _ h=>h) (fun x hx' box' nb' he=>hf x hx' box' nb' (by rw [hbox] at he; exact he))) ?_;simp;cases A
 ·repeat (first|simp|refine sR ?_)
  refine sT (sH hbox htok ?_);simp [packA]
 ·have h0:(0:Int)≤(xs.findIdx p:Nat):=by omega
  repeat (first|simp|refine sR ?_)
  refine sT (sH hbox htok ?_);simp [packA,h0]
theorem cloneCo_c (xs:List Co) (hx:xs.length≤1000000) (tok:Tks) (nt:Nat):DCall Tryz.prog 29 [.d (cosD xs)] tok nt (.osl 5 (rCo xs) (.tok nt)) (upd tok nt true) (nt+1):=by
 intro box nb;have main:ACalls Tryz.prog 29 [.d (cosD xs)] ⟨box,nb,tok,nt⟩ fun v m=>(v=.osl 5 (rCo xs) (.tok nt)∧m=⟨box,nb,upd tok nt true,nt+1⟩)∨(xs=[]∧v=.osl 0 [] .full∧m=⟨box,nb,tok,nt⟩):=by
  refine sI Tryz.func29 Tryz.ntmps29 fun hbox htok=>?_
  refine sR ?_;simp;refine sR ?_;simp;refine ⟨?_,fun h=>?_⟩
  ·refine sC ?_;simp;refine sR ?_;simp;refine ⟨by omega,?_⟩;refine sN ?_;refine AL.ret ?_;try simp only [AU]
   refine ⟨by simp,(Fin.own (by simp [resAs,resA]; rfl) hbox rfl (by simp) ?_).mono fun v m hq=>.inl hq⟩;simp [packA]
  ·refine sC ?_;simp;refine sR ?_;simp;refine sN ?_;refine AL.ret ?_;try simp only [AU]
   refine ⟨by simp,(Fin.own (by simp [resAs,resA]; rfl) hbox rfl (Nat.le_refl _) ?_).mono fun v m hq=>.inr ⟨h,hq.1,hq.2⟩⟩;simp [packA]
 refine main.conv fun v m h=>?_
 rcases h with ⟨rfl,rfl⟩|⟨rfl,rfl,rfl⟩
 ·exact ⟨_,_,Conv.refl _ _,rfl,rfl⟩
 ·exact ⟨_,_,Conv.newtok 0 5 box nb tok nt,rfl,rfl⟩
def shapeF (f:Fo):Int:=if f.formE≠0 then f.formE else if 40<f.size then 3 else if 8<f.depth then 3 else 0
theorem shapeT_c (f:Fo) (hb:f.size≤1000000) (hs:f.Sm) (tok:Tks) (nt:Nat):DCall Tryz.prog 83 [f.av] tok nt (I (shapeF f)) tok nt:=by
 intro box nb;have h1:=formT_c _ f (Nat.lt_succ_self _) hb hs;have h2:=measureT_c _ f (Nat.lt_succ_self _) hb;have hd:=f.depth_le_size _ (Nat.lt_succ_self _);obtain ⟨R,hR⟩:∃ R,shapeF f=R:=⟨_,rfl⟩
 rw [hR];unfold shapeF at hR;generalize f.formE=e at *;refine sI Tryz.func83 Tryz.ntmps83 fun hbox htok=>?_
 repeat (first|simp|refine sR ?_)
 refine Stop.of_d (h1 _ _) ?_;simp;by_cases he:e=0
 ·have b0:(e != 0)=false:=by simpa using he
  rw [if_neg (by simpa using he)] at hR;try (simp [b0])
  repeat (first|(refine sR ?_; simp [b0])|(refine sC ?_; simp [b0])|(refine sX ?_; simp only [AU, ↓reduceIte]))
  refine Stop.of_d (h2 _ _) ?_;simp;by_cases c1:(40:Int)<(f.size:Int)
  ·rw [if_pos (by omega)] at hR;subst hR;try (simp [c1])
   repeat (first|(refine sR ?_; simp [c1])|(refine sC ?_; simp [c1])|(refine sX ?_; simp only [AU, ↓reduceIte]))
   refine sT (sH hbox htok ?_);simp [packA]
  ·rw [if_neg (by omega)] at hR;by_cases c2:(8:Int)<(f.depth:Int)
   ·rw [if_pos (by omega)] at hR;subst hR;try (simp [c1,c2])
    repeat (first|(refine sR ?_; simp [c1,c2])|(refine sC ?_; simp [c1,c2])|(refine sX ?_; simp only [AU, ↓reduceIte]))
    refine sT (sH hbox htok ?_);simp [packA]
   ·rw [if_neg (by omega)] at hR;subst hR;try (simp [c1,c2])
    repeat (first|(refine sR ?_; simp [c1,c2])|(refine sC ?_; simp [c1,c2])|(refine sX ?_; simp only [AU, ↓reduceIte]))
    refine sT (sH hbox htok ?_);simp [packA]
 ·have b0:(e != 0)=true:=by simpa using he
  rw [if_pos he] at hR;subst hR;try (simp [b0])
  repeat (first|(refine sR ?_; simp [b0])|(refine sC ?_; simp [b0])|(refine sX ?_; simp only [AU, ↓reduceIte]))
  refine sT (sH hbox htok ?_);simp [packA]
mutual
def Fo.ats:Fo→List ByteArray
 | .mk k s c=>if k=1 then s::Fo.atsL c else Fo.atsL c
def Fo.atsL:List Fo→List ByteArray
 | []=>[]
 | x::r=>Fo.ats x++Fo.atsL r
end
end Go.AM
