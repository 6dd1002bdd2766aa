/-
 Parts of the proof, as merged from many texts: a machine over data, what the functions compute, plain laws.
-/
import Derived.Test.YtchfmhhbiealcaaGreatDoorPIA12
set_option linter.unusedSimpArgs false
set_option linter.unusedVariables false
namespace Go.AM
open Go Go.Proofs
open Go.Proofs.Tryz
def Sr.stNp(s:Sr)(fm:Nat)(N:List Int)(r:Nat)(out:List Mo)(k:Nat):List Mo :=
 if s.okN N k=true then (if s.pos (N++[(k:Int)])=true then s.fnP fm r (N++[(k:Int)]) out else out) else out
def aMj(s:Sr)(nl:Bool)(fm:Nat)(N:List Int)(nb k:Nat)(box:Bxs)(x:aO5):AS :=
 ⟨tl [(63,I x.i),(62,I s.g.nodes.length),(61,.d (ints s.g.nodes)),(2,I N.length),(0,.ptr k 0 0)],lb nb (upd box k (some [s.rowF nl fm N x.a [] x.b x.out x.own])) [],x.tok,x.nt⟩
theorem aET{t:Ty}{a:Nat}(h:a<t.nodes.length):(pE t)[a]'(by simp[pE];exact h)=gQ t a:=by simp[pE]
set_option maxRecDepth 100000 in
theorem aKx(s:Sr)(h:s.Ok)(nl:Bool)(hnl:s.Nl nl)(fm:Nat)(hfm:fm<=1000000)(mtok:Tks)(nt0:Nat):∀(r:Nat) (N:List Int) (out:List Mo) (a b:Nat) (own:Own) (box:Bxs) (nb k:Nat) (tok:Tks) (nt:Nat),N.length+r=s.p.nodes.length->out.length<=fm ->
  box k=some [s.rowF nl fm N a [] b out own]->TK mtok nt0 tok nt [.tok a,.tok b,own]->aD prog 199 [.ptr k 0 0] ⟨box,nb,tok,nt⟩ (QFd s nl fm box nb k mtok nt0 nt N [] (s.fnP fm r N out)):=by
 have hpn:=h.p.n;have hpe:=h.p.e;have hgn:=h.g.n;have hge:=h.g.e;have htn:=h.t.n;intro r;induction r with
 | zero =>
  intro N out a b own box nb k tok nt hN ho hk htk;exact aKV s h nl hnl fm hfm N (by omega) mtok nt0 s.p.edges.length [] out a b own box nb k tok nt (by simp) ho hk htk
 | succ r ih =>
  intro N out a b own box nb k tok nt hN ho hk htk;have hself:box=upd box k (some [s.rowF nl fm N a [] b out own]):=(cL box k _ hk).symm
  have hlt:N.length<s.p.nodes.length:=by omega
  refine sI func199 ntmps199 fun Hb Ht=>?_
  have hkn:=bC Hb hk;repeat first|simp[lO hkn,hk]|refine sR ?_
  by_cases hbig:out.length=fm
  .have b1:((out.length:Int)==(fm:Int))=true:=by simp[hbig]
   try (simp[lO hkn,hk,b1])
   repeat ((first|refine sR ?_|refine sC ?_|refine sX ?_);simp[lO hkn,hk,b1])
   refine sN ?_;refine sE ?_;refine⟨by simp,(Fin.own (vs:=[]) (av:=.tup []) (by simp[aP,bI]) Hb rfl (nr0 _) (by simp)).mono fun v m hq=>⟨hq.1,a,b,own,tok,nt,?_,htk,nr0 _⟩⟩;rw[hq.2,Sr.fnP,yG,if_pos hbig,<-hself]
  .have b1:((out.length:Int)==(fm:Int))=false:=by simp;omega
   try (simp[lO hkn,hk,b1,hlt])
   repeat ((first|refine sR ?_|refine sC ?_|refine sX ?_);simp[lO hkn,hk,b1,hlt])
   refine sN ?_;have hlb:∀loc,lb nb box loc=lb nb (upd box k (some [s.rowF nl fm N a [] b out own])) loc:=fun loc=>by rw[<-hself]
   rw[hlb];refine sL (aMj s nl fm N nb k box) (fun x=>x.i<=s.g.nodes.length/\x.out=(List.range x.i).foldl (s.stNp fm N r) out/\x.out.length<=fm/\TK mtok nt0 x.tok x.nt [.tok x.a,.tok x.b,x.own]/\nt<=x.nt) (fun x=>s.g.nodes.length-x.i)
    ⟨0,out,a,b,own,tok,nt⟩ ⟨Nat.zero_le _,rfl,ho,htk,nr0 _⟩ (aS.mk' (nr0 _) (by simp[ToL,lk];exact aI (by rw[lO hkn,uS];simp)) (by simp[aC,lk]) (eJ rfl)) ?_
   rintro⟨i,out2,a2,b2,own2,tok2,nt2⟩ S ⟨hi,hout,ho2,htk2,hnt2⟩ hS;simp only[aMj] at hS hi hout ho2 htk2 hnt2;subst hS;have hw:IntKind.i64.wrap (↑i+1)=((i+1:Nat):Int):=by rw[aM (by omega) (by omega)];omega
   have hfold:(List.range (i+1)).foldl (s.stNp fm N r) out=s.stNp fm N r out2 i:=by
    rw[hout,List.range_succ,List.foldl_append];rfl
   have hta:tok2 a2=true:=htk2.live
   have htb:tok2 b2=true:=htk2.swap.live
   by_cases hli:i<s.g.nodes.length
   .have hlp:N.length<s.pt.nodes.length:=by rw[h.pn];exact hlt
    have hgv:=aEP hnl.n hlp i;have hgiv:=aCd nl s.pt.nodes N.length hlp (by rw[h.pn];omega);obtain⟨z1,z2⟩:=h.np _ (List.getElem_mem hlt);obtain⟨z3,z4⟩:=h.ng _ (List.getElem_mem hli);have hgi:s.g.nodes.getD i 0=s.g.nodes[i]:=by simp[hli]
    have hpn2:s.p.nodes.getD N.length 0=s.p.nodes[N.length]:=by simp[hlt]
    obtain⟨q,hq⟩:=Int.eq_ofNat_of_zero_le z1;obtain⟨u,hu⟩:=Int.eq_ofNat_of_zero_le z3;have hq2:q<s.t.nodes.length:=by omega
    have hu2:u<s.t.nodes.length:=by omega
    have hokN:s.okN N i=if (if 0<=gvI nl s.pt.nodes N.length then decide (gvI nl s.pt.nodes N.length=(i:Int)) else true)=true then (if usB s.inj N i=true then false else isB s.t (u:Int) (q:Int)) else false:=by
     unfold Sr.okN;rw[hgv,hgi,hpn2,hq,hu]
    generalize gvI nl s.pt.nodes N.length=W at *;have hisD:D.sl 1 (List.map (fun r=>[blB r]) (pE s.t))=isD s.t:=rfl
    have hlt1:(pE s.t).length=s.t.nodes.length:=by simp[pE]
    have hlt2:(gQ s.t q).length=s.t.nodes.length:=by simp[gQ]
    have hrow:(pE s.t)[q]'(by rw[hlt1];exact hq2)=gQ s.t q:=aET hq2
    have hcol:(gQ s.t q)[u]'(by rw[hlt2];exact hu2)=isB s.t (u:Int) (q:Int):=by simp[gQ]
    try (simp[lO hkn,uS,hli])
    repeat ((first|refine sR ?_|refine sC ?_|refine sX ?_);simp[lO hkn,uS,hli])
    refine sD (hgiv _ _) ?_;simp;by_cases p01:0<=W/\W≠(i:Int)
    .obtain⟨p0,p1⟩:=p01;have bw:(W != (i:Int))=true:=by simp[p1]
     have hok:s.okN N i=false:=by rw[hokN,if_pos p0];simp[p1]
     try (simp[lO hkn,uS,p0,bw,hw])
     repeat ((first|refine sR ?_|refine sC ?_|refine sX ?_);simp[lO hkn,uS,p0,bw,hw])
     refine sE ?_;exact⟨⟨i+1,out2,a2,b2,own2,tok2,nt2⟩,⟨hli,by rw[hfold,Sr.stNp,hok];simp,ho2,htk2,hnt2⟩,by simp only;omega,aS.mk' (by have:=htk2.le;omega) (by simp[ToL,lk];exact aI (by rw[lO hkn,uS];simp)) (by simp[aC,lk]) (eJ rfl)⟩
    .have hW:(if 0<=W then decide (W=(i:Int)) else true)=true:=by
      by_cases p0:0<=W
      .rw[if_pos p0];by_cases p1:W=(i:Int)
       .simp[p1]
       .exact absurd ⟨p0,p1⟩ p01
      .rw[if_neg p0]
     rw[if_pos hW] at hokN;have hst:∀Q,(0<=W->(W != (i:Int))=false->Q)->(¬0<=W->Q)->Q:=by
      intro Q h1 h2;by_cases p0:0<=W
      .refine h1 p0 ?_;by_cases p1:W=(i:Int)
       .simp[p1]
       .exact absurd ⟨p0,p1⟩ p01
      .exact h2 p0
     have skip:∀Q:Prop,(s.inj=true->decide ((i:Int)∈N)=true->Q)->(s.inj=true->decide ((i:Int)∈N)=false->Q)->(s.inj=false->Q)->Q:=by
      intro Q h1 h2 h3;cases ei:s.inj
      .exact h3 ei
      .cases ed:decide ((i:Int)∈N)
       .exact h2 ei ed
       .exact h1 ei ed
     refine hst _ (fun p0 bw=>?_) (fun p0=>?_)
     .cases hB:isB s.t (u:Int) (q:Int)
      .have hok:s.okN N i=false:=by rw[hokN,hB];simp
       try (simp[lO hkn,uS,p0,bw,hw,hlt,hq,hu,hq2,hu2,isD,hlt1,hlt2,hrow,hcol,hB])
       repeat ((first|refine sR ?_|refine sC ?_|refine sX ?_);simp[lO hkn,uS,p0,bw,hw,hlt,hq,hu,hq2,hu2,isD,hlt1,hlt2,hrow,hcol,hB])
       refine sE ?_;exact⟨⟨i+1,out2,a2,b2,own2,tok2,nt2⟩,⟨hli,by rw[hfold,Sr.stNp,hok];simp,ho2,htk2,hnt2⟩,by simp only;omega,aS.mk' (by have:=htk2.le;omega) (by simp[ToL,lk];exact aI (by rw[lO hkn,uS];simp)) (by simp[aC,lk]) (eJ rfl)⟩
      .rw[hB] at hokN;refine skip _ (fun ei ed=>?_) (fun ei ed=>?_) (fun ei=>?_)
       .have hok:s.okN N i=false:=by rw[hokN,usB,if_pos ei,ed];rfl
        try (simp[lO hkn,uS,p0,bw,hw,hlt,hq,hu,hq2,hu2,isD,hlt1,hlt2,hrow,hcol,hB,ei])
        repeat ((first|refine sR ?_|refine sC ?_|refine sX ?_);simp[lO hkn,uS,p0,bw,hw,hlt,hq,hu,hq2,hu2,isD,hlt1,hlt2,hrow,hcol,hB,ei])
        refine aN.of_r (cW.lends rfl (fun tok=>bO N i (by omega) tok nt2) ⟨.stk hta,.same (by simp),trivial⟩) ?_;rw[ed];try (simp[hw])
        repeat ((first|refine sR ?_|refine sC ?_|refine sX ?_);simp[hw])
        refine sE ?_;exact⟨⟨i+1,out2,a2,b2,own2,tok2,nt2⟩,⟨hli,by rw[hfold,Sr.stNp,hok];simp,ho2,htk2,hnt2⟩,by simp only;omega,aS.mk' (by have:=htk2.le;omega) (by simp[ToL,lk];exact aI (by rw[lO hkn,uS];simp)) (by simp[aC,lk]) (eJ rfl)⟩
       .have hok:s.okN N i=true:=by rw[hokN,usB,if_pos ei,ed];rfl
        try (simp[lO hkn,uS,p0,bw,hw,hlt,hq,hu,hq2,hu2,isD,hlt1,hlt2,hrow,hcol,hB,ei])
        repeat ((first|refine sR ?_|refine sC ?_|refine sX ?_);simp[lO hkn,uS,p0,bw,hw,hlt,hq,hu,hq2,hu2,isD,hlt1,hlt2,hrow,hcol,hB,ei])
        refine aN.of_r (cW.lends rfl (fun tok=>bO N i (by omega) tok nt2) ⟨.stk hta,.same (by simp),trivial⟩) ?_;rw[ed];try (simp[lO hkn,uS])
        repeat ((first|refine sR ?_|refine sC ?_|refine sX ?_);simp[lO hkn,uS])
        refine⟨⟨by omega,hta⟩,?_⟩;have htk3:=htk2.app;simp only[uL hkn,bD];have hta3:(upd (upd tok2 a2 false) nt2 true) nt2=true:=uS _ _ _
        have htb3:(upd (upd tok2 a2 false) nt2 true) b2=true:=htk3.swap.live
        have hpos:=jC s h nl hnl fm (N++[(i:Int)]) [] (by simp;omega) out2;try (simp[lO hkn,uS])
        repeat ((first|refine sR ?_|refine sC ?_|refine sX ?_);simp[lO hkn,uS])
        refine aN.of_r (cW.lends rfl (fun tok=>hpos tok (nt2+1)) ⟨.ptr (row:=s.rowF nl fm (N++[(i:Int)]) nt2 [] b2 out2 own2) (by simp[lO hkn,uS]) (Sr.row_cds (own:=own2) hta3 htb3),trivial⟩) ?_;cases hP:s.pos (N++[(i:Int)])
        .try (simp[lO hkn,uS,dH,hw])
         repeat ((first|refine sR ?_|refine sC ?_|refine sX ?_);simp[lO hkn,uS,dH,hw])
         simp only[uL hkn,bD];refine sE ?_;exact⟨⟨i+1,out2,nt2,b2,own2,_,nt2+1⟩,⟨hli,by rw[hfold,Sr.stNp,hok,hP];simp,ho2,htk3,Nat.le_succ_of_le hnt2⟩,by simp only;omega,aS.mk' (Nat.le_succ_of_le hnt2) (by simp[ToL,lk];exact aI (by rw[lO hkn,uS];simp)) (by simp[aC,lk]) (eJ (s:=s) (nl:=nl) (fm:=fm) (N:=N) (E:=[]) (a:=nt2) (b:=b2) (out:=out2) (own:=own2) rfl)⟩
        .try (simp[lO hkn,uS])
         repeat ((first|refine sR ?_|refine sC ?_|refine sX ?_);simp[lO hkn,uS])
         refine aN.of_a (ih (N++[(i:Int)]) out2 nt2 b2 own2 _ _ k _ _ (by simp;omega) ho2 (by simp[lO hkn,uS]) htk3) ?_;rintro v m' ⟨rfl,a3,b3,own3,tok3,nt3,rfl,htk4,hle4⟩;have hle4:nt2+1<=nt3:=hle4
         have hle5:nt<=nt3:=by omega
         simp[uL hkn,bD];try (simp[lO hkn,uS,dH,hw])
         repeat ((first|refine sR ?_|refine sC ?_|refine sX ?_);simp[lO hkn,uS,dH,hw])
         simp only[uL hkn,bD];refine sE ?_;exact⟨⟨i+1,s.fnP fm r (N++[(i:Int)]) out2,a3,b3,own3,tok3,nt3⟩,⟨hli,by rw[hfold,Sr.stNp,hok,hP];simp,Sr.fnP_len h ho2,htk4,by omega⟩,by simp only;omega,aS.mk' hle5 (by simp[ToL,lk];exact aI (by rw[lO hkn,uS];simp)) (by simp[aC,lk]) (eJ (s:=s) (nl:=nl) (fm:=fm) (N:=N) (E:=[]) (a:=a3) (b:=b3) (out:=s.fnP fm r (N++[(i:Int)]) out2) (own:=own3) rfl)⟩
       .have hok:s.okN N i=true:=by rw[hokN,usB,if_neg (by simp[ei])]
        refine sR ?_;simp[lO hkn,uS,p0,bw,hw,hlt,hq,hu,hq2,hu2,isD,hlt1,hlt2,hrow,hcol,hB,ei];refine sC ?_;simp;try (simp[lO hkn,uS])
        repeat ((first|refine sR ?_|refine sC ?_|refine sX ?_);simp[lO hkn,uS])
        refine⟨⟨by omega,hta⟩,?_⟩;have htk3:=htk2.app;simp only[uL hkn,bD];have hta3:(upd (upd tok2 a2 false) nt2 true) nt2=true:=uS _ _ _
        have htb3:(upd (upd tok2 a2 false) nt2 true) b2=true:=htk3.swap.live
        have hpos:=jC s h nl hnl fm (N++[(i:Int)]) [] (by simp;omega) out2;try (simp[lO hkn,uS])
        repeat ((first|refine sR ?_|refine sC ?_|refine sX ?_);simp[lO hkn,uS])
        refine aN.of_r (cW.lends rfl (fun tok=>hpos tok (nt2+1)) ⟨.ptr (row:=s.rowF nl fm (N++[(i:Int)]) nt2 [] b2 out2 own2) (by simp[lO hkn,uS]) (Sr.row_cds (own:=own2) hta3 htb3),trivial⟩) ?_;cases hP:s.pos (N++[(i:Int)])
        .try (simp[lO hkn,uS,dH,hw])
         repeat ((first|refine sR ?_|refine sC ?_|refine sX ?_);simp[lO hkn,uS,dH,hw])
         simp only[uL hkn,bD];refine sE ?_;exact⟨⟨i+1,out2,nt2,b2,own2,_,nt2+1⟩,⟨hli,by rw[hfold,Sr.stNp,hok,hP];simp,ho2,htk3,Nat.le_succ_of_le hnt2⟩,by simp only;omega,aS.mk' (Nat.le_succ_of_le hnt2) (by simp[ToL,lk];exact aI (by rw[lO hkn,uS];simp)) (by simp[aC,lk]) (eJ (s:=s) (nl:=nl) (fm:=fm) (N:=N) (E:=[]) (a:=nt2) (b:=b2) (out:=out2) (own:=own2) rfl)⟩
        .try (simp[lO hkn,uS])
         repeat ((first|refine sR ?_|refine sC ?_|refine sX ?_);simp[lO hkn,uS])
         refine aN.of_a (ih (N++[(i:Int)]) out2 nt2 b2 own2 _ _ k _ _ (by simp;omega) ho2 (by simp[lO hkn,uS]) htk3) ?_;rintro v m' ⟨rfl,a3,b3,own3,tok3,nt3,rfl,htk4,hle4⟩;have hle4:nt2+1<=nt3:=hle4
         have hle5:nt<=nt3:=by omega
         simp[uL hkn,bD];try (simp[lO hkn,uS,dH,hw])
         repeat ((first|refine sR ?_|refine sC ?_|refine sX ?_);simp[lO hkn,uS,dH,hw])
         simp only[uL hkn,bD];refine sE ?_;exact⟨⟨i+1,s.fnP fm r (N++[(i:Int)]) out2,a3,b3,own3,tok3,nt3⟩,⟨hli,by rw[hfold,Sr.stNp,hok,hP];simp,Sr.fnP_len h ho2,htk4,by omega⟩,by simp only;omega,aS.mk' hle5 (by simp[ToL,lk];exact aI (by rw[lO hkn,uS];simp)) (by simp[aC,lk]) (eJ (s:=s) (nl:=nl) (fm:=fm) (N:=N) (E:=[]) (a:=a3) (b:=b3) (out:=s.fnP fm r (N++[(i:Int)]) out2) (own:=own3) rfl)⟩
     .cases hB:isB s.t (u:Int) (q:Int)
      .have hok:s.okN N i=false:=by rw[hokN,hB];simp
       try (simp[lO hkn,uS,p0,hw,hlt,hq,hu,hq2,hu2,isD,hlt1,hlt2,hrow,hcol,hB])
       repeat ((first|refine sR ?_|refine sC ?_|refine sX ?_);simp[lO hkn,uS,p0,hw,hlt,hq,hu,hq2,hu2,isD,hlt1,hlt2,hrow,hcol,hB])
       refine sE ?_;exact⟨⟨i+1,out2,a2,b2,own2,tok2,nt2⟩,⟨hli,by rw[hfold,Sr.stNp,hok];simp,ho2,htk2,hnt2⟩,by simp only;omega,aS.mk' (by have:=htk2.le;omega) (by simp[ToL,lk];exact aI (by rw[lO hkn,uS];simp)) (by simp[aC,lk]) (eJ rfl)⟩
      .rw[hB] at hokN;refine skip _ (fun ei ed=>?_) (fun ei ed=>?_) (fun ei=>?_)
       .have hok:s.okN N i=false:=by rw[hokN,usB,if_pos ei,ed];rfl
        try (simp[lO hkn,uS,p0,hw,hlt,hq,hu,hq2,hu2,isD,hlt1,hlt2,hrow,hcol,hB,ei])
        repeat ((first|refine sR ?_|refine sC ?_|refine sX ?_);simp[lO hkn,uS,p0,hw,hlt,hq,hu,hq2,hu2,isD,hlt1,hlt2,hrow,hcol,hB,ei])
        refine aN.of_r (cW.lends rfl (fun tok=>bO N i (by omega) tok nt2) ⟨.stk hta,.same (by simp),trivial⟩) ?_;rw[ed];try (simp[hw])
        repeat ((first|refine sR ?_|refine sC ?_|refine sX ?_);simp[hw])
        refine sE ?_;exact⟨⟨i+1,out2,a2,b2,own2,tok2,nt2⟩,⟨hli,by rw[hfold,Sr.stNp,hok];simp,ho2,htk2,hnt2⟩,by simp only;omega,aS.mk' (by have:=htk2.le;omega) (by simp[ToL,lk];exact aI (by rw[lO hkn,uS];simp)) (by simp[aC,lk]) (eJ rfl)⟩
       .have hok:s.okN N i=true:=by rw[hokN,usB,if_pos ei,ed];rfl
        try (simp[lO hkn,uS,p0,hw,hlt,hq,hu,hq2,hu2,isD,hlt1,hlt2,hrow,hcol,hB,ei])
        repeat ((first|refine sR ?_|refine sC ?_|refine sX ?_);simp[lO hkn,uS,p0,hw,hlt,hq,hu,hq2,hu2,isD,hlt1,hlt2,hrow,hcol,hB,ei])
        refine aN.of_r (cW.lends rfl (fun tok=>bO N i (by omega) tok nt2) ⟨.stk hta,.same (by simp),trivial⟩) ?_;rw[ed];try (simp[lO hkn,uS])
        repeat ((first|refine sR ?_|refine sC ?_|refine sX ?_);simp[lO hkn,uS])
        refine⟨⟨by omega,hta⟩,?_⟩;have htk3:=htk2.app;simp only[uL hkn,bD];have hta3:(upd (upd tok2 a2 false) nt2 true) nt2=true:=uS _ _ _
        have htb3:(upd (upd tok2 a2 false) nt2 true) b2=true:=htk3.swap.live
        have hpos:=jC s h nl hnl fm (N++[(i:Int)]) [] (by simp;omega) out2;try (simp[lO hkn,uS])
        repeat ((first|refine sR ?_|refine sC ?_|refine sX ?_);simp[lO hkn,uS])
        refine aN.of_r (cW.lends rfl (fun tok=>hpos tok (nt2+1)) ⟨.ptr (row:=s.rowF nl fm (N++[(i:Int)]) nt2 [] b2 out2 own2) (by simp[lO hkn,uS]) (Sr.row_cds (own:=own2) hta3 htb3),trivial⟩) ?_;cases hP:s.pos (N++[(i:Int)])
        .try (simp[lO hkn,uS,dH,hw])
         repeat ((first|refine sR ?_|refine sC ?_|refine sX ?_);simp[lO hkn,uS,dH,hw])
         simp only[uL hkn,bD];refine sE ?_;exact⟨⟨i+1,out2,nt2,b2,own2,_,nt2+1⟩,⟨hli,by rw[hfold,Sr.stNp,hok,hP];simp,ho2,htk3,Nat.le_succ_of_le hnt2⟩,by simp only;omega,aS.mk' (Nat.le_succ_of_le hnt2) (by simp[ToL,lk];exact aI (by rw[lO hkn,uS];simp)) (by simp[aC,lk]) (eJ (s:=s) (nl:=nl) (fm:=fm) (N:=N) (E:=[]) (a:=nt2) (b:=b2) (out:=out2) (own:=own2) rfl)⟩
        .try (simp[lO hkn,uS])
         repeat ((first|refine sR ?_|refine sC ?_|refine sX ?_);simp[lO hkn,uS])
         refine aN.of_a (ih (N++[(i:Int)]) out2 nt2 b2 own2 _ _ k _ _ (by simp;omega) ho2 (by simp[lO hkn,uS]) htk3) ?_;rintro v m' ⟨rfl,a3,b3,own3,tok3,nt3,rfl,htk4,hle4⟩;have hle4:nt2+1<=nt3:=hle4
         have hle5:nt<=nt3:=by omega
         simp[uL hkn,bD];try (simp[lO hkn,uS,dH,hw])
         repeat ((first|refine sR ?_|refine sC ?_|refine sX ?_);simp[lO hkn,uS,dH,hw])
         simp only[uL hkn,bD];refine sE ?_;exact⟨⟨i+1,s.fnP fm r (N++[(i:Int)]) out2,a3,b3,own3,tok3,nt3⟩,⟨hli,by rw[hfold,Sr.stNp,hok,hP];simp,Sr.fnP_len h ho2,htk4,by omega⟩,by simp only;omega,aS.mk' hle5 (by simp[ToL,lk];exact aI (by rw[lO hkn,uS];simp)) (by simp[aC,lk]) (eJ (s:=s) (nl:=nl) (fm:=fm) (N:=N) (E:=[]) (a:=a3) (b:=b3) (out:=s.fnP fm r (N++[(i:Int)]) out2) (own:=own3) rfl)⟩
       .have hok:s.okN N i=true:=by rw[hokN,usB,if_neg (by simp[ei])]
        refine sR ?_;simp[lO hkn,uS,p0,hw,hlt,hq,hu,hq2,hu2,isD,hlt1,hlt2,hrow,hcol,hB,ei];refine sC ?_;simp;try (simp[lO hkn,uS])
        repeat ((first|refine sR ?_|refine sC ?_|refine sX ?_);simp[lO hkn,uS])
        refine⟨⟨by omega,hta⟩,?_⟩;have htk3:=htk2.app;simp only[uL hkn,bD];have hta3:(upd (upd tok2 a2 false) nt2 true) nt2=true:=uS _ _ _
        have htb3:(upd (upd tok2 a2 false) nt2 true) b2=true:=htk3.swap.live
        have hpos:=jC s h nl hnl fm (N++[(i:Int)]) [] (by simp;omega) out2;try (simp[lO hkn,uS])
        repeat ((first|refine sR ?_|refine sC ?_|refine sX ?_);simp[lO hkn,uS])
        refine aN.of_r (cW.lends rfl (fun tok=>hpos tok (nt2+1)) ⟨.ptr (row:=s.rowF nl fm (N++[(i:Int)]) nt2 [] b2 out2 own2) (by simp[lO hkn,uS]) (Sr.row_cds (own:=own2) hta3 htb3),trivial⟩) ?_;cases hP:s.pos (N++[(i:Int)])
        .try (simp[lO hkn,uS,dH,hw])
         repeat ((first|refine sR ?_|refine sC ?_|refine sX ?_);simp[lO hkn,uS,dH,hw])
         simp only[uL hkn,bD];refine sE ?_;exact⟨⟨i+1,out2,nt2,b2,own2,_,nt2+1⟩,⟨hli,by rw[hfold,Sr.stNp,hok,hP];simp,ho2,htk3,Nat.le_succ_of_le hnt2⟩,by simp only;omega,aS.mk' (Nat.le_succ_of_le hnt2) (by simp[ToL,lk];exact aI (by rw[lO hkn,uS];simp)) (by simp[aC,lk]) (eJ (s:=s) (nl:=nl) (fm:=fm) (N:=N) (E:=[]) (a:=nt2) (b:=b2) (out:=out2) (own:=own2) rfl)⟩
        .try (simp[lO hkn,uS])
         repeat ((first|refine sR ?_|refine sC ?_|refine sX ?_);simp[lO hkn,uS])
         refine aN.of_a (ih (N++[(i:Int)]) out2 nt2 b2 own2 _ _ k _ _ (by simp;omega) ho2 (by simp[lO hkn,uS]) htk3) ?_;rintro v m' ⟨rfl,a3,b3,own3,tok3,nt3,rfl,htk4,hle4⟩;have hle4:nt2+1<=nt3:=hle4
         have hle5:nt<=nt3:=by omega
         simp[uL hkn,bD];try (simp[lO hkn,uS,dH,hw])
         repeat ((first|refine sR ?_|refine sC ?_|refine sX ?_);simp[lO hkn,uS,dH,hw])
         simp only[uL hkn,bD];refine sE ?_;exact⟨⟨i+1,s.fnP fm r (N++[(i:Int)]) out2,a3,b3,own3,tok3,nt3⟩,⟨hli,by rw[hfold,Sr.stNp,hok,hP];simp,Sr.fnP_len h ho2,htk4,by omega⟩,by simp only;omega,aS.mk' hle5 (by simp[ToL,lk];exact aI (by rw[lO hkn,uS];simp)) (by simp[aC,lk]) (eJ (s:=s) (nl:=nl) (fm:=fm) (N:=N) (E:=[]) (a:=a3) (b:=b3) (out:=s.fnP fm r (N++[(i:Int)]) out2) (own:=own3) rfl)⟩
   .have:i=s.g.nodes.length:=by omega
    subst this;try (simp[lO hkn,uS])
    repeat ((first|refine sR ?_|refine sC ?_|refine sX ?_);simp[lO hkn,uS])
    refine sN ?_;refine sE ?_;refine⟨by simp,(Fin.gen (vs:=[]) (av:=.tup []) (tok':=tok2) (nt':=nt2) (by simp[aP,bI]) ?_ hnt2 (nr0 _) (fun t h=>⟨h,.inl rfl⟩) (eJ (by simp)) (by simp)).mono fun v m hq=>⟨hq.1,a2,b2,own2,tok2,nt2,?_,htk2,hnt2⟩⟩
    .rw[<-uL hkn,Hb]
    .rw[hq.2,Sr.fnP,yG,if_neg hbig,hout];rfl
theorem aLb{p q:Nat->Prop}{k n:Nat}{L:List Bool}(h:L.length=n):To p q (some (k,1,L.map fun b=>[D.raw (.bool b)])) (.msl k 0 n 1) (.d (blB L)):=by
 have h2:=To.frz (p:=p) (q:=q) (fz:=some (k,1,L.map fun b=>[D.raw (.bool b)])) (k:=k) (sz:=1) (es:=L.map fun b=>[D.raw (.bool b)]) rfl;have:(L.map fun b=>[D.raw (.bool b)]).length=n:=by simp[h]
 rw[this] at h2;exact h2
def mkB(n:Nat)(l:List Int):List Bool:=(List.range n).map fun (b:Nat)=>decide ((b:Int)∈l)
theorem aKI(n:Nat)(l:List Int):(mkB n l).length=n:=by simp[mkB]
theorem aJE(n:Nat):List.replicate n [B false]=gA (mkB n []):=by
 refine List.ext_getElem (by simp[mkB]) fun i h1 h2=>?_
 simp[gA,mkB]
theorem aJK{n:Nat}{l:List Int}{v:Int}(h0:0<=v):(mkB n l).set v.toNat true=mkB n (l++[v]):=by
 refine List.ext_getElem (by simp[mkB]) fun i h1 h2=>?_
 rw[List.getElem_set];simp only[mkB,List.getElem_map,List.getElem_range,List.mem_append,List.mem_singleton];by_cases e:v.toNat=i
 .rw[if_pos e];have:(i:Int)=v:=by omega
  simp[this]
 .rw[if_neg e];have:¬(i:Int)=v:=by omega
  simp[this]
theorem aJu(t:Ty)(a:Nat):mkB t.nodes.length (gO t (a:Int) t.nodes.length)=gQ t a:=by
 refine List.ext_getElem (by simp[mkB,gQ]) fun i h1 h2=>?_
 simp only[mkB,gQ,List.getElem_map,List.getElem_range];have hi:i<t.nodes.length:=by simpa[mkB] using h1
 unfold gO;by_cases h:isB t (i:Int) (a:Int)=true
 .rw[h,decide_eq_true_eq];exact List.mem_map.2 ⟨i,List.mem_filter.2 ⟨List.mem_range.2 hi,h⟩,rfl⟩
 .simp only[Bool.not_eq_true] at h;rw[h,decide_eq_false_iff_not];intro hm;obtain⟨x,hx,e⟩:=List.mem_map.1 hm;obtain⟨_,hx⟩:=List.mem_filter.1 hx;have:x=i:=by omega
  subst this;rw[h] at hx;cases hx
theorem aGF{t:Ty}{i:Nat}(h:i<t.nodes.length):(pE t).take (i+1)=(pE t).take i++[gQ t i]:=by
 have hl:i<(pE t).length:=by simp[pE];exact h
 rw[List.take_succ_eq_append_getElem hl,aET h]
def xF(t:Ty)(i:Nat):List (List D):=((pE t).take i).map fun r=>[blB r]
theorem aGJ{t:Ty}{i:Nat}(h:i<t.nodes.length):xF t (i+1)=xF t i++[[blB (gQ t i)]]:=by
 unfold xF;rw[aGF h,List.map_append];rfl
theorem aIl(t:Ty)(i:Nat):(xF t i).length<=i:=by unfold xF;rw[List.length_map,List.length_take];omega
def aPH(t:Ty)(nb:Nat)(box:Bxs)(x:Acc):AS :=
 ⟨tl [(13,I x.i),(12,I t.nodes.length),(11,.d (nts t.nodes)),(3,.osl 1 (xF t x.i) x.own),(1,.ptr (nb+1) 0 0)],lb nb box [(1,[[.d (nts t.nodes),.d (ets t.edges)]])],x.tok,x.nt⟩
def aOg(t:Ty)(i:Nat)(L:List Int)(own:Own)(nb:Nat)(box:Bxs)(tok:Tks)(nt:Nat)(j:Nat):AS :=
 ⟨tl [(28,I j),(27,I L.length),(26,.d (ints L)),(5,.msl (nb+19) 0 t.nodes.length 1),(13,I i),(12,I t.nodes.length),(11,.d (nts t.nodes)),(3,.osl 1 (xF t i) own),(1,.ptr (nb+1) 0 0)],
  lb nb box [(19,gA (mkB t.nodes.length (L.take j))),(1,[[.d (nts t.nodes),.d (ets t.edges)]])],tok,nt⟩
theorem aHP(t:Ty)(ht:t.Fit)(h0:tyE t=0):DC 198 [t.av] (.d (isD t)):=by
 intro tok nt box nb;have htn:=ht.n;have hb:=fun a=>aFk t ht a
 refine sI func198 ntmps198 fun Hb Ht=>?_
 repeat first|simp|refine sR ?_
 refine sN ?_;refine sL (aPH t nb box) (fun x=>x.i<=t.nodes.length/\TK tok nt x.tok x.nt [x.own]) (fun x=>t.nodes.length-x.i) ⟨0,.full,tok,nt⟩ ⟨Nat.zero_le _,(TK.start Ht).full⟩ (wM (nr0 _) rfl (by simp[ToL,lk,xF]) (by simp[aC,lk])) ?_;rintro⟨i,own,tok',nt'⟩ S ⟨hi,htk⟩ hS;simp only[aPH] at hS hi htk;subst hS;have hw:=sW (i:=i) (by omega);by_cases hlt:i<t.nodes.length
 .have hrow:=aJu t i;have hs:=aGJ hlt;have hsl:=aIl t i;have hlR:yI t (i:Int)=(gO t (i:Int) t.nodes.length,0):=by
   unfold yI;rw[zL h0 (by omega),if_neg (by omega)]
  have hLn:∀v∈gO t (i:Int) t.nodes.length,0<=v/\v<t.nodes.length:=by
   intro v hv;unfold gO at hv;simp only[List.mem_map,List.mem_filter,List.mem_range] at hv;obtain⟨x,⟨hx,_⟩,rfl⟩:=hv;omega
  have hLl:=aCt t (i:Int) t.nodes.length;have hbi:=hb (i:Int);rw[hlR] at hbi;generalize gO t (i:Int) t.nodes.length=L at *;try (simp[hlt])
  repeat ((first|refine sR ?_|refine sC ?_|refine sX ?_);simp[hlt])
  refine⟨by omega,?_⟩;try (simp)
  repeat ((first|refine sR ?_|refine sC ?_|refine sX ?_);simp)
  refine sD (hbi _ _) ?_;simp;try (simp)
  repeat ((first|refine sR ?_|refine sC ?_|refine sX ?_);simp)
  refine sN ?_;refine sL (aOg t i L own nb box tok' nt') (fun j=>j<=L.length) (fun j=>L.length-j) 0 (Nat.zero_le _) (wM htk.le rfl (by simp[ToL,lk]) (by simp[aC,lk,aJE])) ?_;rintro j S hj hS;simp only[aOg] at hS;subst hS;have hwj:=sW (i:=j) (by omega);by_cases hlj:j<L.length
  .obtain⟨v0,v1⟩:=hLn _ (List.getElem_mem hlj);have hset:(mkB t.nodes.length (L.take j)).set L[j].toNat true=mkB t.nodes.length (L.take (j+1)):=by
    rw[aJK v0,<-List.take_succ_eq_append_getElem hlj]
   have hml:=aKI t.nodes.length (L.take j);have v2:L[j].toNat<t.nodes.length:=by omega
   try (simp[hlj,v0,v1,v2,hml,hwj])
   repeat ((first|refine sR ?_|refine sC ?_|refine sX ?_);simp[hlj,v0,v1,v2,hml,hwj])
   refine sE ?_;exact⟨j+1,hlj,by omega,wM htk.le rfl (by simp[ToL,lk]) (by simp[aC,lk,hset])⟩
  .have:j=L.length:=by omega
   subst this;rw[List.take_length,hrow];refine sR ?_;simp;refine sC ?_;simp;refine sX ?_;simp only[AU,↓reduceIte];have hrl:(gQ t i).length=t.nodes.length:=by simp[gQ]
   refine AL.weak (aS.frz (l':=[(5,.d (blB (gQ t i))),(13,I i),(12,I t.nodes.length),(11,.d (nts t.nodes)),(3,.osl 1 (xF t i) own),(1,.ptr (nb+1) 0 0)]) (loc':=[(1,[[.d (nts t.nodes),.d (ets t.edges)]])]) 19 1 ((gQ t i).map fun b=>[D.raw (.bool b)]) htk.le rfl (by simp[lk,aDr]) (by simp[lk]) (fun e he=>by obtain⟨b,_,rfl⟩:=List.mem_map.1 he;rfl) (by simp[ToL,lk,aQ];exact aLb hrl) (by simp[aC,lk])) ?_;try (simp)
   repeat ((first|refine sR ?_|refine sC ?_|refine sX ?_);simp)
   refine⟨⟨by omega,htk.live⟩,?_⟩;try (simp[hw])
   repeat ((first|refine sR ?_|refine sC ?_|refine sX ?_);simp[hw])
   refine sE ?_;exact⟨⟨i+1,_,_,_⟩,⟨hlt,htk.app⟩,by simp only;omega,wM htk.app.le rfl (by simp[ToL,lk,hs]) (by simp[aC,lk])⟩
 .have:i=t.nodes.length:=by omega
  subst this;have htl:xF t t.nodes.length=(pE t).map fun r=>[blB r]:=by unfold xF;rw[List.take_of_length_le (by simp[pE])]
  rw[htl];try (simp)
  repeat ((first|refine sR ?_|refine sC ?_|refine sX ?_);simp)
  refine sN ?_;refine AL.ret ?_;try simp only[AU]
  exact⟨by simp,Fin.data (av:=.d (isD t)) (by simp[aP,bI];rfl) Hb rfl Ht htk.old htk.le (by simp[isD])⟩
theorem aGU(x:Int)(box:Bxs)(nb k:Nat)(tok:Tks)(nt:Nat)(t:Ty)(hk:box k=some [[.d (nts t.nodes),.d (ets t.edges)]]):
  aD prog 249 [I x,.ptr k 0 0] ⟨box,nb,tok,nt⟩ fun v m=>v=B (decide ((t.nodes.length:Int)<=x))/\m=⟨box,nb,tok,nt⟩:=by
 refine sI func249 ntmps249 fun Hb Ht=>?_
 have kn:=bC Hb hk;repeat first|simp[lO kn,hk]|refine sR ?_
 refine sT (sH Hb Ht ?_);simp
theorem aGP(x:E)(box:Bxs)(nb k:Nat)(tok:Tks)(nt:Nat)(t:Ty)(hk:box k=some [[.d (nts t.nodes),.d (ets t.edges)]]):
  aD prog 250 [.agg [I x.ty,I x.fr,I x.to],.ptr k 0 0] ⟨box,nb,tok,nt⟩ fun v m=>v=B (decide ((t.edges.length:Int)<=x.ty))/\m=⟨box,nb,tok,nt⟩:=by
 refine sI func250 ntmps250 fun Hb Ht=>?_
 have kn:=bC Hb hk;repeat first|simp[lO kn,hk]|refine sR ?_
 refine sT (sH Hb Ht ?_);simp
def wiN(t:Ty)(x:Int):Bool:=decide ((t.nodes.length:Int)<=x)
def wiX(t:Ty)(x:E):Bool:=decide ((t.edges.length:Int)<=x.ty)
theorem aKr{t:Ty}{g:Gr}(hv:vG g=0):oH t g=(!bB (wiN t) g.nodes&&!bB (wiX t) g.edges):=by
 obtain⟨_,h1,h2⟩:=bG hv;unfold oH bB;congr 1
 .rw[Bool.eq_iff_iff,List.all_eq_true,Bool.not_eq_true',List.any_eq_false];refine⟨fun h x hx=>?_,fun h x hx=>?_⟩
  .have:=h x hx
   simp[aCc,wiN] at this ⊢;omega
  .have a:=h x hx;have b:=h1 x hx;simp[aCc,wiN,bA] at a b ⊢;omega
 .rw[Bool.eq_iff_iff,List.all_eq_true,Bool.not_eq_true',List.any_eq_false];refine⟨fun h x hx=>?_,fun h x hx=>?_⟩
  .have:=h x hx
   simp[aDI,wiX] at this ⊢;omega
  .have a:=h x hx;have b:=h2 x hx;simp[aDI,wiX,dT,bA] at a b ⊢;omega
theorem zV(t:Ty)(ht:t.Fit)(g:Gr)(hg:g.Fit)(hv:vG g=0):DC 192 [t.av,g.av] (B (oH t g)):=by
 intro tok nt box nb;have h1:=fun y box nb k tok nt hbk=>aGU y box nb k tok nt t hbk
 have h2:=fun y box nb k tok nt hbk=>aGP y box nb k tok nt t hbk
 rw[aKr hv];obtain⟨p,hp⟩:∃p,wiN t=p:=⟨_,rfl⟩
 obtain⟨q,hq⟩:∃q,wiX t=q:=⟨_,rfl⟩
 have e1:∀y,decide ((t.nodes.length:Int)<=y)=p y:=fun y=>by rw[<-hp];rfl
 have e2:∀y:E,decide ((t.edges.length:Int)<=y.ty)=q y:=fun y=>by rw[<-hq];rfl
 simp only[e1] at h1;simp only[e2] at h2;rw[hp,hq];have hgn:=hg.n;have hge:=hg.e;refine sI func192 ntmps192 fun Hb Ht=>?_
 repeat first|simp|refine sR ?_
 refine aN.of_b (iW g.nodes 249 [.ptr (nb+2) 0 0] p hgn _ _ _ _ (fun c hc=>by rw[List.mem_singleton.1 hc];simp[aQ]) (fun y hy box' nb' he=>h1 y box' nb' _ _ _ (he _ _ (by simp[aQ])))) ?_;simp;cases c1:bB p g.nodes
 .repeat first|simp|refine sR ?_
  refine aN.of_b (eR g.edges 250 [.ptr (nb+2) 0 0] q hge _ _ _ _ (fun c hc=>by rw[List.mem_singleton.1 hc];simp[aQ]) (fun y hy box' nb' he=>h2 y box' nb' _ _ _ (he _ _ (by simp[aQ])))) ?_;repeat first|simp|refine sR ?_
  refine sT (sH Hb Ht ?_);simp
 .repeat first|simp|refine sR ?_
  refine sT (sH Hb Ht ?_);simp
def QFo(s:Sr)(fm:Nat)(box:Bxs)(nb:Nat)(tok:Tks)(nt:Nat)(v:AV)(m:bH):Prop :=
 ∃own' tok' nt',v=.osl 2 (aGr (s.fnP fm s.p.nodes.length [] [])) own'/\m=⟨box,nb,tok',nt'⟩/\TK tok nt tok' nt' [own']
set_option maxRecDepth 100000 in
theorem aIP(s:Sr)(h:s.Ok)(h0:tyE s.t=0)(nl:Bool)(hnl:s.Nl nl)(fm:Nat)(hfm:fm<=1000000)(box:Bxs)(nb:Nat)(tok:Tks)(nt:Nat):
  aD prog 133 [s.t.av,s.p.av,s.g.av,.agg [.d (ptD nl s.pt.nodes),.d (ptD nl s.pt.edges)],B s.inj,I fm] ⟨box,nb,tok,nt⟩ (QFo s fm box nb tok nt):=by
 have hb:=aHP s.t h.t h0;refine sI func133 ntmps133 fun Hb Ht=>?_
 repeat first|simp|refine sR ?_
 refine sD (hb _ _) ?_;simp;refine AL.weak (wM (l':=[(13,.ptr (nb+22) 0 0)]) (loc':=[(22,[[.d (ints s.p.nodes),.d (AM.edges s.p.edges),.d (ints s.g.nodes),.d (AM.edges s.g.edges),.d (isD s.t),.d (ptD nl s.pt.nodes),.d (ptD nl s.pt.edges),B s.inj,I fm,.osl 0 [] .full,.osl 0 [] .full,.osl 2 [] .full]])]) (nr0 _) rfl (by simp[ToL,lk]) (by simp[aC,lk])) ?_;refine AL.trans (iR.opn (l':=[(13,.ptr (nb+22) 0 0)]) (loc':=[(22,[[.d (ints s.p.nodes),.d (AM.edges s.p.edges),.d (ints s.g.nodes),.d (AM.edges s.g.edges),.d (isD s.t),.d (ptD nl s.pt.nodes),.d (ptD nl s.pt.edges),B s.inj,I fm,.stk nt 1 [],.osl 0 [] .full,.osl 2 [] .full]])]) 1 (by simp[CvL]) ⟨rfl,vF (aZ .same (aZ .same (aZ .same (aZ .same (aZ .same (aZ .same (aZ .same (aZ .same (aZ .same (aZ .nil (aZ .same (aZ .same aBm)))))))))))),trivial⟩) ?_;refine AL.trans (iR.opn (l':=[(13,.ptr (nb+22) 0 0)]) (loc':=[(22,[[.d (ints s.p.nodes),.d (AM.edges s.p.edges),.d (ints s.g.nodes),.d (AM.edges s.g.edges),.d (isD s.t),.d (ptD nl s.pt.nodes),.d (ptD nl s.pt.edges),B s.inj,I fm,.stk nt 1 [],.stk (nt+1) 1 [],.osl 2 [] .full]])]) 1 (by simp[CvL]) ⟨rfl,vF (aZ .same (aZ .same (aZ .same (aZ .same (aZ .same (aZ .same (aZ .same (aZ .same (aZ .same (aZ .same (aZ .nil (aZ .same aBm)))))))))))),trivial⟩) ?_;have htk0:=(TK.start Ht).full.full.full.app.swap.app.swap;repeat first|simp|refine sR ?_
 refine aN.of_a (aKx s h nl hnl fm hfm tok nt s.p.nodes.length [] [] nt (nt+1) .full _ _ (nb+22) _ _ (by simp) (by simp) (by simp[aQ]) htk0) ?_;rintro v m' ⟨rfl,a,b,own,tok2,nt2,rfl,htk2,hle⟩;try (simp)
 repeat ((first|refine sR ?_|refine sC ?_|refine sX ?_);simp)
 refine sN ?_;refine AL.ret ?_;try simp only[AU]
 have htk3:=htk2.tail.tail;exact⟨by simp,(Fin.gen (av:=.osl 2 (aGr (s.fnP fm s.p.nodes.length [] [])) own) (tok':=tok2) (nt':=nt2) (by simp[aP,bI];rfl) Hb htk3.le (nr0 _) (fun t h=>⟨h,.inl rfl⟩) (fun k rows _ h=>.inl h) (by simp)).mono fun v m hq=>⟨own,tok2,nt2,hq.1,hq.2,htk3⟩⟩
def aNX(t:Ty)(p g:Gr)(nb:Nat)(box:Bxs)(tok:Tks)(nt:Nat)(i:Nat):AS :=
 ⟨tl [(24,I i),(23,I 2),(22,.d (.sl 2 [[ints p.nodes,AM.edges p.edges],[ints g.nodes,AM.edges g.edges]])),(5,.ptr (nb+5) 0 0),(4,.ptr (nb+4) 0 0),(3,.ptr (nb+3) 0 0)],lb nb box [(5,[[.d (ints g.nodes),.d (AM.edges g.edges)]]),(4,[[.d (ints p.nodes),.d (AM.edges p.edges)]]),(3,[[.d (nts t.nodes),.d (ets t.edges)]])],tok,nt⟩
theorem aIK(t:Ty)(ht:t.Fit)(p g:Gr)(hp:p.Fit)(hg:g.Fit):DC 124 [t.av,p.av,g.av] (I (lW t p g)):=by
 intro tok nt box nb;have hv:=nC t ht ht.hM;have h1:=bU p hp;have h2:=bU g hg;have h3:=zV t ht p hp;have h4:=zV t ht g hg;obtain⟨R,hR⟩:∃R,lW t p g=R:=⟨_,rfl⟩
 rw[hR];unfold lW at hR;generalize tyE t=E at *;generalize vG p=V at *;generalize vG g=W at *;refine sI func124 ntmps124 fun Hb Ht=>?_
 repeat first|simp|refine sR ?_
 refine sD (hv _ _) ?_;simp;by_cases e0:E=0
 .rw[if_neg (by simp[e0])] at hR;try (simp[e0])
  repeat ((first|refine sR ?_|refine sC ?_|refine sX ?_);simp[e0])
  refine⟨rfl,?_⟩;try (simp)
  repeat ((first|refine sR ?_|refine sC ?_|refine sX ?_);simp)
  refine sN ?_;refine sL (aNX t p g nb box tok nt) (fun i=>i<=2/\(1<=i->V=0)/\(2<=i->W=0)) (fun i=>2-i) 0 ⟨by omega,by omega,by omega⟩ wkA ?_;rintro i S ⟨hi,g0,g1⟩ hS;simp only[aNX] at hS;subst hS;have h012:i=0∨i=1∨i=2:=by omega
  rcases h012 with rfl|rfl|rfl
  .try (simp)
   repeat ((first|refine sR ?_|refine sC ?_|refine sX ?_);simp)
   refine sD (h1 _ _) ?_;simp;by_cases c:V=0
   .try (simp[c,show IntKind.i64.wrap 1=1 from rfl])
    repeat ((first|refine sR ?_|refine sC ?_|refine sX ?_);simp[c,show IntKind.i64.wrap 1=1 from rfl])
    refine sE ?_;exact⟨1,⟨by omega,fun h=>by omega⟩,by decide,wkA⟩
   .have b:(V != 0)=true:=by simp[c]
    rw[if_pos c] at hR;try (simp[b])
    repeat ((first|refine sR ?_|refine sC ?_|refine sX ?_);simp[b])
    refine sT (sH Hb Ht ?_);simp[hR]
  .try (simp)
   repeat ((first|refine sR ?_|refine sC ?_|refine sX ?_);simp)
   refine sD (h2 _ _) ?_;simp;by_cases c:W=0
   .try (simp[c,show IntKind.i64.wrap 2=2 from rfl])
    repeat ((first|refine sR ?_|refine sC ?_|refine sX ?_);simp[c,show IntKind.i64.wrap 2=2 from rfl])
    refine sE ?_;exact⟨2,⟨by omega,fun _=>g0 (by omega)⟩,by decide,wkA⟩
   .have b:(W != 0)=true:=by simp[c]
    have g0:=g0 (by omega);rw[if_neg (by simp[g0]),if_pos c] at hR;try (simp[b])
    repeat ((first|refine sR ?_|refine sC ?_|refine sX ?_);simp[b])
    refine sT (sH Hb Ht ?_);simp[hR]
  .have g0:=g0 (by omega);have g1:=g1 (by omega);rw[if_neg (by simp[g0]),if_neg (by simp[g1])] at hR;have h3:=h3 g0;have h4:=h4 g1;try (simp)
   repeat ((first|refine sR ?_|refine sC ?_|refine sX ?_);simp)
   refine sD (h3 _ _) ?_;simp;cases e3:oH t p
   .rw[e3,if_pos rfl] at hR;try (simp)
    repeat ((first|refine sR ?_|refine sC ?_|refine sX ?_);simp)
    refine sT (sH Hb Ht ?_);simp[hR]
   .rw[e3,if_neg (by simp)] at hR;try (simp)
    repeat ((first|refine sR ?_|refine sC ?_|refine sX ?_);simp)
    refine sD (h4 _ _) ?_;simp;cases e4:oH t g
    .rw[e4,if_pos rfl] at hR;try (simp)
     repeat ((first|refine sR ?_|refine sC ?_|refine sX ?_);simp)
     refine sT (sH Hb Ht ?_);simp[hR]
    .rw[e4,if_neg (by simp)] at hR;try (simp)
     repeat ((first|refine sR ?_|refine sC ?_|refine sX ?_);simp)
     refine sT (sH Hb Ht ?_);simp[hR]
 .rw[if_pos e0] at hR;have b:(E != 0)=true:=by simp[e0]
  try (simp[b])
  repeat ((first|refine sR ?_|refine sC ?_|refine sX ?_);simp[b])
  refine sT (sH Hb Ht ?_);simp[hR]
def aPl(l r k:List Int)(nb:Nat)(box:Bxs)(tok:Tks)(nt:Nat)(i:Nat):AS :=
 ⟨tl [(11,I i),(10,I l.length),(9,.d (ints l)),(1,.d (ints r)),(2,.d (ints k))],lb nb box [],tok,nt⟩
theorem aFe(l r k:List Int)(hl:l.length<=1000000)(hr:r.length<=1000000)(hk:k.length<=1000000):DC 140 [.d (ints l),.d (ints r),.d (ints k)] (B (dZ l r k)):=by
 intro tok nt box nb;have c1:=fun v=>bO k v hk
 have c2:=fun v=>bO r v hr
 obtain⟨N,hN⟩:∃N,dZ l r k=N:=⟨_,rfl⟩
 rw[hN];refine sI func140 ntmps140 fun Hb Ht=>?_
 repeat first|simp|refine sR ?_
 refine sN ?_;refine sL (aPl l r k nb box tok nt) (fun i=>i<=l.length/\∀j,j<i->pD l r k j=false) (fun i=>l.length-i) 0 ⟨Nat.zero_le _,fun j h=>absurd h (Nat.not_lt_zero _)⟩ wkA ?_;rintro i S' ⟨hi,hok⟩ hS;simp only[aPl] at hS;subst hS;have hw:=sW (i:=i) (by omega);repeat first|simp|refine sR ?_|refine sC ?_
 refine⟨fun hlt=>?_,fun hge=>?_⟩
 .have hd:pD l r k i=if decide ((i:Int)∈k)=true then false else decide (l[i]∈r):=by simp[pD,hlt]
  have hyes:pD l r k i=true->dZ l r k=true:=fun h=>aAJ hlt h
  have hno:pD l r k i=false->∀j,j<i+1->pD l r k j=false:=fun h j hj=>by
   rcases Nat.lt_succ_iff_lt_or_eq.1 hj with h1|h1
   .exact hok j h1
   .rw[h1];exact h
  repeat first|simp[hlt]|refine sR ?_
  refine sD (c1 _ _ _) ?_;simp;cases e1:decide ((i:Int)∈k)
  .rw[e1,if_neg (by simp)] at hd;have e1':¬(i:Int)∈k:=by simpa using e1
   repeat first|simp[hlt,e1']|refine sR ?_
   refine sD (c2 _ _ _) ?_;simp;cases e2:decide (l[i]∈r)
   .rw[e2] at hd;have e2':¬l[i]∈r:=by simpa using e2
    try (simp[hw,e2'])
    repeat ((first|refine sR ?_|refine sC ?_|refine sX ?_);simp[hw,e2'])
    refine sE ?_;exact⟨i+1,⟨hlt,hno hd⟩,by omega,wkA⟩
   .rw[e2] at hd;have e2':l[i]∈r:=by simpa using e2
    rw[hyes hd] at hN;try (simp[e2'])
    repeat ((first|refine sR ?_|refine sC ?_|refine sX ?_);simp[e2'])
    refine sT (sH Hb Ht ?_);simp[<-hN]
  .rw[e1,if_pos rfl] at hd;have e1':(i:Int)∈k:=by simpa using e1
   try (simp[hw,e1'])
   repeat ((first|refine sR ?_|refine sC ?_|refine sX ?_);simp[hw,e1'])
   refine sE ?_;exact⟨i+1,⟨hlt,hno hd⟩,by omega,wkA⟩
 .refine sX ?_;simp only[AU,↓reduceIte];have:i=l.length:=by omega
  subst this;rw[aCR hok] at hN;repeat first|simp|refine sR ?_
  refine sT (sH Hb Ht ?_);simp[<-hN]
def aNN(l:List Int)(n:Int)(nb:Nat)(box:Bxs)(tok:Tks)(nt:Nat)(i:Nat):AS :=
 ⟨tl [(0,.d (ints l)),(1,I n),(5,I i)],lb nb box [],tok,nt⟩
theorem aE6(l:List Int)(n:Int)(hl:l.length<=1000000):DC 207 [.d (ints l),I n] (B (decide (n∈l))):=by
 intro tok nt box nb;obtain⟨N,hN⟩:∃N,decide (n∈l)=N:=⟨_,rfl⟩
 rw[hN];refine sI func207 ntmps207 fun Hb Ht=>?_
 repeat first|simp|refine sR ?_
 refine sN ?_;refine sL (aNN l n nb box tok nt) (fun i=>i<=l.length/\n∉l.take i) (fun i=>l.length-i) 0 ⟨Nat.zero_le _,by simp⟩ wkA ?_;rintro i S' ⟨hi,hok⟩ hS;simp only[aNN] at hS;subst hS;have hw:=sW (i:=i) (by omega);repeat first|simp|refine sR ?_|refine sC ?_
 refine⟨fun hlt=>?_,fun hge=>?_⟩
 .by_cases e:l[i]=n
  .have b:(l[i]==n)=true:=by simp[e]
   have hm:decide (n∈l)=true:=by rw[<-e];simp
   rw[hm] at hN;try (simp[hlt,b])
   repeat ((first|refine sR ?_|refine sC ?_|refine sX ?_);simp[hlt,b])
   refine sT (sH Hb Ht ?_);simp[<-hN]
  .have b:(l[i]==n)=false:=by simp[e]
   have hno:n∉l.take (i+1):=by
    rw[List.take_succ_eq_append_getElem hlt];simp only[List.mem_append,List.mem_singleton,not_or];exact⟨hok,fun h=>e h.symm⟩
   try (simp[hlt,b,hw])
   repeat ((first|refine sR ?_|refine sC ?_|refine sX ?_);simp[hlt,b,hw])
   refine sE ?_;exact⟨i+1,⟨hlt,hno⟩,by omega,wkA⟩
 .refine sX ?_;simp only[AU,↓reduceIte];have:i=l.length:=by omega
  subst this;rw[List.take_length] at hok;rw[decide_eq_false hok] at hN;repeat first|simp|refine sR ?_
  refine sT (sH Hb Ht ?_);simp[<-hN]
def aL9(l r k:List Int)(nb:Nat)(box:Bxs)(tok:Tks)(nt:Nat)(i:Nat):AS :=
 ⟨tl [(0,.d (ints l)),(1,.d (ints r)),(2,.d (ints k)),(7,I i)],lb nb box [],tok,nt⟩
theorem vO(l r k:List Int)(hl:l.length<=1000000)(hr:r.length<=1000000)(hk:k.length<=1000000):DC 145 [.d (ints l),.d (ints r),.d (ints k)] (B (dZ l r k)):=by
 intro tok nt box nb;have c1:=fun v=>aE6 k v hk
 have c2:=fun v=>aE6 r v hr
 obtain⟨N,hN⟩:∃N,dZ l r k=N:=⟨_,rfl⟩
 rw[hN];refine sI func145 ntmps145 fun Hb Ht=>?_
 repeat first|simp|refine sR ?_
 refine sN ?_;refine sL (aL9 l r k nb box tok nt) (fun i=>i<=l.length/\∀j,j<i->pD l r k j=false) (fun i=>l.length-i) 0 ⟨Nat.zero_le _,fun j h=>absurd h (Nat.not_lt_zero _)⟩ wkA ?_;rintro i S' ⟨hi,hok⟩ hS;simp only[aL9] at hS;subst hS;have hw:=sW (i:=i) (by omega);repeat first|simp|refine sR ?_|refine sC ?_
 refine⟨fun hlt=>?_,fun hge=>?_⟩
 .have hd:pD l r k i=if decide ((i:Int)∈k)=true then false else decide (l[i]∈r):=by simp[pD,hlt]
  have hyes:pD l r k i=true->dZ l r k=true:=fun h=>aAJ hlt h
  have hno:pD l r k i=false->∀j,j<i+1->pD l r k j=false:=fun h j hj=>by
   rcases Nat.lt_succ_iff_lt_or_eq.1 hj with h1|h1
   .exact hok j h1
   .rw[h1];exact h
  repeat first|simp[hlt]|refine sR ?_
  refine sD (c1 _ _ _) ?_;simp;cases e1:decide ((i:Int)∈k)
  .rw[e1,if_neg (by simp)] at hd;have e1':¬(i:Int)∈k:=by simpa using e1
   repeat first|simp[hlt,e1']|refine sR ?_
   refine sD (c2 _ _ _) ?_;simp;cases e2:decide (l[i]∈r)
   .rw[e2] at hd;have e2':¬l[i]∈r:=by simpa using e2
    try (simp[hw,e2'])
    repeat ((first|refine sR ?_|refine sC ?_|refine sX ?_);simp[hw,e2'])
    refine sE ?_;exact⟨i+1,⟨hlt,hno hd⟩,by omega,wkA⟩
   .rw[e2] at hd;have e2':l[i]∈r:=by simpa using e2
    rw[hyes hd] at hN;try (simp[e2'])
    repeat ((first|refine sR ?_|refine sC ?_|refine sX ?_);simp[e2'])
    refine sT (sH Hb Ht ?_);simp[<-hN]
  .rw[e1,if_pos rfl] at hd;have e1':(i:Int)∈k:=by simpa using e1
   try (simp[hw,e1'])
   repeat ((first|refine sR ?_|refine sC ?_|refine sX ?_);simp[hw,e1'])
   refine sE ?_;exact⟨i+1,⟨hlt,hno hd⟩,by omega,wkA⟩
 .refine sX ?_;simp only[AU,↓reduceIte];have:i=l.length:=by omega
  subst this;rw[aCR hok] at hN;repeat first|simp|refine sR ?_
  refine sT (sH Hb Ht ?_);simp[<-hN]
def Ru.rowK(r:Ru):List D:=[.raw (.string r.name),ints r.lg.nodes,AM.edges r.lg.edges,gS r.lsl,.raw (.int .i64 r.lv),gR r.lte,ints r.rg.nodes,AM.edges r.rg.edges,gS r.rsl,.raw (.int .i64 r.rv),gR r.rte,
 ints r.k.nodes,ints r.k.edges,ints r.i.nodes,ints r.i.edges,.raw (.bool r.inj),.raw (.int .i64 r.c.kind),aAE r.c.kids,ints r.c.m.nodes,ints r.c.m.edges,ints r.c.g.nodes,AM.edges r.c.g.edges,gS r.c.sl,.raw (.int .i64 r.c.vars),gR r.c.te]
theorem aK7(r:Ru)(hr:r.Fit)(o:Ov)(ho:o.Fit):DC 139 [o.av,.cptr r.rowK 0] (B (!qD r o)):=by
 intro tok nt box nb;have c1:=aFe o.l.nodes o.r.nodes r.i.nodes ho.l.n ho.r.n hr.i.n;have c2:=aFe o.l.edges o.r.edges r.i.edges ho.l.e ho.r.e hr.i.e;obtain⟨N,hN⟩:∃N,qD r o=N:=⟨_,rfl⟩
 rw[hN];unfold qD at hN;refine sI func139 ntmps139 fun Hb Ht=>?_
 repeat first|simp[Ru.rowK]|refine sR ?_
 refine sD (c1 _ _) ?_;simp;cases e1:dZ o.l.nodes o.r.nodes r.i.nodes
 .rw[e1,if_neg (by simp)] at hN;repeat first|simp[Ru.rowK]|refine sR ?_
  refine sD (c2 _ _) ?_;repeat first|simp|refine sR ?_
  refine sT (sH Hb Ht ?_);simp[<-hN]
 .rw[e1,if_pos rfl] at hN;repeat first|simp|refine sR ?_
  refine sT (sH Hb Ht ?_);simp[<-hN]
structure aPU where
 i:Nat
 out:List Ov
 own:Nat
 tok:Nat->Bool
 nt:Nat
abbrev gP(a b:Gr)(out:List Ov)(own:Nat):List AV:=[.d (ints a.nodes),.d (AM.edges a.edges),.d (ints b.nodes),.d (AM.edges b.edges),.stk own 6 (out.map Ov.cells)]
def aPm(a b:Gr)(box:Bxs)(nb k:Nat)(tok:Tks)(nt:Nat)(own:Nat)(out:List Ov)(v:AV)(m:bH):Prop :=
 v=.tup []/\∃own' tok' nt',m=⟨upd box k (some [gP a b out own']),nb,tok',nt'⟩/\Adv tok nt (.tok own) tok' nt' (.tok own')
def aLi(a b:Gr)(nodes es:List Int)(nb k:Nat)(box:Bxs)(x:aPU):AS :=
 ⟨tl [(0,.ptr k 0 0),(1,.d (ints nodes)),(2,.d (ints es)),(7,.ptr (nb+7) 0 0),(78,.d (AM.edges a.edges)),(79,I a.edges.length),(80,I x.i)],
  lb nb (upd box k (some [gP a b x.out x.own])) [(7,[[I (lK b nodes es).ty,I (lK b nodes es).fr,I (lK b nodes es).to]])],x.tok,x.nt⟩
theorem iS{a b:Gr}{out:List Ov}{own:Nat}{box:Bxs}{k base:Nat}{p q:Nat->Prop}(hq:q=fun _=>True):∀k' rows,k'<base->(upd box k (some [gP a b out own])) k'=some rows->box k'=some rows∨∀r∈rows,∀x∈r,bF p q x:=by
 subst hq;intro k' rows hk' hr;by_cases e:k'=k
 .subst e;rw[uS] at hr;cases hr;exact .inr (by simp)
 .rw[uO _ _ e] at hr;exact .inl hr
theorem aHM(a b:Gr)(nodes:List Int)(h:OvH a b nodes):∀(n:Nat) (es:List Int) (out:List Ov) (own:Nat) (box:Bxs) (nb k:Nat) (tok:Tks) (nt:Nat),es.length+n=b.edges.length ->
  box k=some [gP a b out own]->tok own=true->aD prog 263 [.ptr k 0 0,.d (ints nodes),.d (ints es)] ⟨box,nb,tok,nt⟩ (aPm a b box nb k tok nt own (ovE a b nodes n es out)):=by
 intro n;induction n with
 | zero =>
  intro es out own box nb k tok nt hes hk hlive;have hself:box=upd box k (some [gP a b out own]):=(cL box k _ hk).symm
  refine sI func263 ntmps263 fun Hb Ht=>?_
  have hkn:=bC Hb hk;refine sR ?_;simp[lO hkn,hk];refine sC ?_;simp;refine⟨fun hbig=>?_,fun hsm=>?_⟩
  .refine sN ?_;refine AL.ret ?_;try simp only[AU]
   refine⟨by simp,(Fin.own (vs:=[]) (av:=.tup []) (by simp[aP,bI]) Hb rfl (nr0 _) (by simp)).mono fun v m hq=>⟨hq.1,own,tok,nt,?_,Adv.refl hlive Ht⟩⟩;have hbig':2000<out.length:=by omega
   rw[hq.2,ovE,if_pos hbig',<-hself]
  .have hsm':¬2000<out.length:=by omega
   have hes':es.length=b.edges.length:=by omega
   refine sR ?_;simp[lO hkn,hk];refine sC ?_;simp;refine⟨fun _=>?_,fun hne=>absurd (by omega) hne⟩;have hbe:=h.fb.e;have hbn:=h.fb.n;refine sR ?_;simp[lO hkn,hk];refine sD (aKO a b nodes es h.fa h.va (by rw[h.n];exact nr0 _) (by omega) (by rw[h.n];omega) (by omega) (fun i _ h2 _=>h.x _ (List.getElem_mem h2)) _ _) ?_;simp[lO hkn,hk,uL hkn];refine⟨⟨by omega,hlive⟩,?_⟩;refine sN ?_;refine AL.ret ?_;try simp only[AU]
   refine⟨by simp,(Fin.gen (vs:=[]) (av:=.tup []) (tok':=upd (upd tok own false) nt true) (nt':=nt+1) (by simp[aP,bI]) ?_ (by omega) (nr0 _) (fun t h=>⟨h,.inl rfl⟩) ?_ (by simp)).mono fun v m hq=>⟨hq.1,nt,upd (upd tok own false) nt true,nt+1,?_,Adv.app hlive Ht⟩⟩
   .rw[<-uL hkn,Hb]
   .intro k' rows hk' hr;by_cases e:k'=k
    .subst e;rw[uS] at hr;cases hr;exact .inr (by simp)
    .rw[uO _ _ e] at hr;exact .inl hr
   .rw[hq.2,ovE,if_neg hsm'];simp[gP]
 | succ n ih =>
  intro es out own box nb k tok nt hes hk hlive;have hself:box=upd box k (some [gP a b out own]):=(cL box k _ hk).symm
  have hae:=h.fa.e;have hbe:=h.fb.e;have hbn:=h.fb.n;have hlt:es.length<b.edges.length:=by omega
  obtain⟨x1,x2,x3,x4⟩:=h.x b.edges[es.length] (List.getElem_mem hlt);have y1:b.edges[es.length].fr.toNat<nodes.length:=by omega
  have y2:b.edges[es.length].to.toNat<nodes.length:=by omega
  refine sI func263 ntmps263 fun Hb Ht=>?_
  have hkn:=bC Hb hk;refine sR ?_;simp[lO hkn,hk];refine sC ?_;simp;refine⟨fun hbig=>?_,fun hsm=>?_⟩
  .refine sN ?_;refine AL.ret ?_;try simp only[AU]
   refine⟨by simp,(Fin.own (vs:=[]) (av:=.tup []) (by simp[aP,bI]) Hb rfl (nr0 _) (by simp)).mono fun v m hq=>⟨hq.1,own,tok,nt,?_,Adv.refl hlive Ht⟩⟩;have hbig':2000<out.length:=by omega
   rw[hq.2,ovE,if_pos hbig',<-hself]
  .have hsm':¬2000<out.length:=by omega
   refine sR ?_;simp[lO hkn,hk];refine sC ?_;simp;refine⟨fun heq=>absurd heq (by omega),fun _=>?_⟩;refine sR ?_;simp[lO hkn,hk,hlt];refine sR ?_;simp[lO hkn,hk,x1,x2,x3,x4,y1,y2];refine sR ?_;simp[lO hkn,hk];refine sD (gI es (by omega) _ _) ?_;simp;refine⟨⟨by omega,by simp[uS]⟩,?_⟩;refine aN.data ?_;simp only[List.map,AV.asD];rw[eP];have had:=Adv.fresh (own:=.tok own) hlive Ht;refine aN.of_a (ih (es++[-1]) out own _ _ k _ _ (by simp;omega) (by simp only[lO hkn,hk]) had.live) ?_;rintro v m' ⟨rfl,own1,tok1,nt1,rfl,hadv⟩;simp[uL hkn];have had1:Adv tok nt (.tok own) tok1 nt1 (.tok own1):=had.trans Ht hadv
   clear hadv had;refine sR ?_;simp[lO hkn,uS];refine sN ?_;have hwant:lK b nodes es=⟨b.edges[es.length].ty,nodes[b.edges[es.length].fr.toNat],nodes[b.edges[es.length].to.toNat]⟩:=by simp[lK,hlt,y1,y2]
   refine sL (aLi a b nodes es nb k box) (fun x=>x.i<=a.edges.length/\x.out=(List.range x.i).foldl (iN a b nodes n es) (ovE a b nodes n (es++[-1]) out)/\Adv tok nt (.tok own) x.tok x.nt (.tok x.own)) (fun x=>a.edges.length-x.i)
    ⟨0,ovE a b nodes n (es++[-1]) out,own1,tok1,nt1⟩ ⟨Nat.zero_le _,rfl,had1⟩ (aS.mk' had1.le (by simp[ToL,lk,hwant];exact aI (by rw[lO hkn,uS];simp)) (by simp[aC,lk,hwant]) (iS rfl)) ?_
   rintro⟨i,out2,own2,tok2,nt2⟩ S ⟨hi,hout,hadv2⟩ hS;simp only[aLi] at hS hi hout hadv2;subst hS;have hw:=sW (i:=i) (by omega);refine sR ?_;simp;refine sC ?_;simp;refine⟨fun hli=>?_,fun hge=>?_⟩
   .refine sR ?_;simp[hli];refine sR ?_;simp[lO hkn,uS];have hfold:(List.range (i+1)).foldl (iN a b nodes n es) (ovE a b nodes n (es++[-1]) out)=iN a b nodes n es out2 i:=by
     rw[List.range_succ,List.foldl_append,<-hout];rfl
    have hgi:a.edges.getD i default=a.edges[i]:=by simp[hli]
    simp only[E.eq_and];first|refine Gd.dt (fun hE=>?_) (fun hE=>?_)|refine Gd.df (fun hE=>?_) (fun hE=>?_)|refine Gd.t (fun hE=>?_) (fun hE=>?_)|refine Gd.f (fun hE=>?_) (fun hE=>?_)
    .simp[hE];refine sD (bO es i (by omega) _ _) ?_;simp[hE];refine sC ?_;simp;refine⟨fun hni=>?_,fun hin=>?_⟩
     .refine sR ?_;simp[lO hkn,uS];refine sD (gI es (by omega) _ _) ?_;simp;refine⟨⟨by omega,by simp[uS]⟩,?_⟩;refine aN.data ?_;simp only[List.map,AV.asD];rw[eP];have had:=Adv.fresh hadv2.live hadv2.lt;refine aN.of_a (ih (es++[(i:Int)]) out2 own2 _ _ k _ _ (by simp;omega) (by simp only[lO hkn,uS]) had.live) ?_;rintro v m' ⟨rfl,own3,tok3,nt3,rfl,hadv⟩;simp[uL hkn,bD];have had3:Adv tok nt (.tok own) tok3 nt3 (.tok own3):=hadv2.trans Ht (had.trans hadv2.lt hadv)
      clear hadv had;refine sR ?_;simp[hw];refine sE ?_;refine⟨⟨i+1,ovE a b nodes n (es++[(i:Int)]) out2,own3,tok3,nt3⟩,⟨hli,?_,had3⟩,by simp;omega,aS.mk' had3.le (by simp[ToL,lk];exact aI (by rw[lO hkn,uS];simp)) (by simp[aC,lk]) (iS rfl)⟩;rw[hfold,iN,if_pos ⟨by rw[hgi,hE],hni⟩]
     .refine sR ?_;simp[hw];refine sE ?_;refine⟨⟨i+1,out2,own2,tok2,nt2⟩,⟨hli,?_,hadv2⟩,by simp;omega,aS.mk' hadv2.le (by simp[ToL,lk];exact aI (by rw[lO hkn,uS];simp)) (by simp[aC,lk]) (iS rfl)⟩;rw[hfold,iN,if_neg (fun hh=>hh.2 hin)]
    .simp[hE];refine sC ?_;simp;refine sR ?_;simp[hw];refine sE ?_;refine⟨⟨i+1,out2,own2,tok2,nt2⟩,⟨hli,?_,hadv2⟩,by simp;omega,aS.mk' hadv2.le (by simp[ToL,lk];exact aI (by rw[lO hkn,uS];simp)) (by simp[aC,lk]) (iS rfl)⟩;rw[hfold,iN,if_neg (fun hh=>hE (by rw[<-hgi,hh.1]))]
   .refine sX ?_;simp only[AU,↓reduceIte];have hin:i=a.edges.length:=by omega
    subst hin;refine sE ?_;refine⟨by simp,(Fin.gen (vs:=[]) (av:=.tup []) (tok':=tok2) (nt':=nt2) (by simp[aP,bI]) ?_ hadv2.le (nr0 _) (fun t h=>⟨h,.inl rfl⟩) (iS (by simp)) (by simp)).mono fun v m hq=>⟨hq.1,own2,tok2,nt2,?_,hadv2⟩⟩
    .rw[<-uL hkn,Hb]
    .rw[hq.2,ovE,if_neg hsm',hout];rfl
def aLE(a b:Gr)(l:List Int)(nb k:Nat)(box:Bxs)(x:aPU):AS :=
 ⟨tl [(0,.ptr k 0 0),(1,.d (ints l)),(34,.d (ints a.nodes)),(35,I a.nodes.length),(36,I x.i)],
  lb nb (upd box k (some [gP a b x.out x.own])) [],x.tok,x.nt⟩
theorem aHt(a b:Gr)(h:NoH a b):∀(n:Nat) (l:List Int) (out:List Ov) (own:Nat) (box:Bxs) (nb k:Nat) (tok:Tks) (nt:Nat),l.length+n=b.nodes.length ->
  box k=some [gP a b out own]->tok own=true->aD prog 203 [.ptr k 0 0,.d (ints l)] ⟨box,nb,tok,nt⟩ (aPm a b box nb k tok nt own (ovN a b n l out)):=by
 intro n;induction n with
 | zero =>
  intro l out own box nb k tok nt hl hk hlive;have hself:box=upd box k (some [gP a b out own]):=(cL box k _ hk).symm
  refine sI func203 ntmps203 fun Hb Ht=>?_
  have hkn:=bC Hb hk;refine sR ?_;simp[lO hkn,hk];refine sC ?_;simp;refine⟨fun hbig=>?_,fun hsm=>?_⟩
  .refine sN ?_;refine AL.ret ?_;try simp only[AU]
   refine⟨by simp,(Fin.own (vs:=[]) (av:=.tup []) (by simp[aP,bI]) Hb rfl (nr0 _) (by simp)).mono fun v m hq=>⟨hq.1,own,tok,nt,?_,Adv.refl hlive Ht⟩⟩;have hbig':2000<out.length:=by omega
   rw[hq.2,ovN,if_pos hbig',<-hself]
  .have hsm':¬2000<out.length:=by omega
   have hl':l.length=b.nodes.length:=by omega
   refine sR ?_;simp[lO hkn,hk];refine sC ?_;simp;refine⟨fun _=>?_,fun hne=>absurd (by omega) hne⟩;have hbe:=h.fb.e;have hbn:=h.fb.n;refine sR ?_;simp[lO hkn,hk];refine aN.sub (args':=[.ptr k 0 0,.d (ints l),.d (ints [])]) ⟨Sub.refl _,Sub.refl _,Sub.nil _ _ _,trivial⟩ ?_;refine aN.of_a (aHM a b l ⟨h.fa,h.va,h.fb,hl',by rw[hl'];exact h.x⟩ b.edges.length [] out own _ _ k _ _ (by simp) (by simp only[lO hkn,hk]) hlive) ?_;rintro v m' ⟨rfl,own1,tok1,nt1,rfl,hadv⟩;simp[uL hkn];refine sN ?_;refine AL.ret ?_;try simp only[AU]
   refine⟨by simp,(Fin.gen (vs:=[]) (av:=.tup []) (tok':=tok1) (nt':=nt1) (by simp[aP,bI]) ?_ hadv.le (nr0 _) (fun t h=>⟨h,.inl rfl⟩) (iS (by simp)) (by simp)).mono fun v m hq=>⟨hq.1,own1,tok1,nt1,?_,hadv⟩⟩
   .rw[<-uL hkn,Hb]
   .rw[hq.2,ovN,if_neg hsm']
 | succ n ih =>
  intro l out own box nb k tok nt hl hk hlive;have hself:box=upd box k (some [gP a b out own]):=(cL box k _ hk).symm
  have han:=h.fa.n;have hbn:=h.fb.n;have hlt:l.length<b.nodes.length:=by omega
  refine sI func203 ntmps203 fun Hb Ht=>?_
  have hkn:=bC Hb hk;refine sR ?_;simp[lO hkn,hk];refine sC ?_;simp;refine⟨fun hbig=>?_,fun hsm=>?_⟩
  .refine sN ?_;refine AL.ret ?_;try simp only[AU]
   refine⟨by simp,(Fin.own (vs:=[]) (av:=.tup []) (by simp[aP,bI]) Hb rfl (nr0 _) (by simp)).mono fun v m hq=>⟨hq.1,own,tok,nt,?_,Adv.refl hlive Ht⟩⟩;have hbig':2000<out.length:=by omega
   rw[hq.2,ovN,if_pos hbig',<-hself]
  .have hsm':¬2000<out.length:=by omega
   refine sR ?_;simp[lO hkn,hk];refine sC ?_;simp;refine⟨fun heq=>absurd heq (by omega),fun _=>?_⟩;refine sR ?_;simp[lO hkn,hk];refine sD (gI l (by omega) _ _) ?_;simp;refine⟨⟨by omega,by simp[uS]⟩,?_⟩;refine aN.data ?_;simp only[List.map,AV.asD];rw[eP];have had:=Adv.fresh (own:=.tok own) hlive Ht;refine aN.of_a (ih (l++[-1]) out own _ _ k _ _ (by simp;omega) (by simp only[lO hkn,hk]) had.live) ?_;rintro v m' ⟨rfl,own1,tok1,nt1,rfl,hadv⟩;simp[uL hkn];have had1:Adv tok nt (.tok own) tok1 nt1 (.tok own1):=had.trans Ht hadv
   clear hadv had;refine sR ?_;simp[lO hkn,uS];refine sN ?_;refine sL (aLE a b l nb k box) (fun x=>x.i<=a.nodes.length/\x.out=(List.range x.i).foldl (cT a b (ovN a b n) l) (ovN a b n (l++[-1]) out)/\Adv tok nt (.tok own) x.tok x.nt (.tok x.own)) (fun x=>a.nodes.length-x.i)
    ⟨0,ovN a b n (l++[-1]) out,own1,tok1,nt1⟩ ⟨Nat.zero_le _,rfl,had1⟩ (aS.mk' had1.le (by simp[ToL,lk];exact aI (by rw[lO hkn,uS];simp)) (by simp[aC,lk]) (iS rfl)) ?_
   rintro⟨i,out2,own2,tok2,nt2⟩ S ⟨hi,hout,hadv2⟩ hS;simp only[aLE] at hS hi hout hadv2;subst hS;have hw:=sW (i:=i) (by omega);refine sR ?_;simp;refine sC ?_;simp;refine⟨fun hli=>?_,fun hge=>?_⟩
   .refine sR ?_;simp[hli];refine sR ?_;simp[lO hkn,uS,hlt];have hfold:(List.range (i+1)).foldl (cT a b (ovN a b n) l) (ovN a b n (l++[-1]) out)=cT a b (ovN a b n) l out2 i:=by
     rw[List.range_succ,List.foldl_append,<-hout];rfl
    have hgi:a.nodes.getD i 0=a.nodes[i]:=by simp[hli]
    have hgl:b.nodes.getD l.length 0=b.nodes[l.length]:=by simp[hlt]
    simp only[aP5];first|refine Gd.dt (fun hE=>?_) (fun hE=>?_)|refine Gd.df (fun hE=>?_) (fun hE=>?_)|refine Gd.t (fun hE=>?_) (fun hE=>?_)|refine Gd.f (fun hE=>?_) (fun hE=>?_)
    .simp[hE];refine sD (bO l i (by omega) _ _) ?_;simp[hE];refine sC ?_;simp;refine⟨fun hni=>?_,fun hin=>?_⟩
     .refine sR ?_;simp[lO hkn,uS];refine sD (gI l (by omega) _ _) ?_;simp;refine⟨⟨by omega,by simp[uS]⟩,?_⟩;refine aN.data ?_;simp only[List.map,AV.asD];rw[eP];have had:=Adv.fresh hadv2.live hadv2.lt;refine aN.of_a (ih (l++[(i:Int)]) out2 own2 _ _ k _ _ (by simp;omega) (by simp only[lO hkn,uS]) had.live) ?_;rintro v m' ⟨rfl,own3,tok3,nt3,rfl,hadv⟩;simp[uL hkn,bD];have had3:Adv tok nt (.tok own) tok3 nt3 (.tok own3):=hadv2.trans Ht (had.trans hadv2.lt hadv)
      clear hadv had;refine sR ?_;simp[hw];refine sE ?_;refine⟨⟨i+1,ovN a b n (l++[(i:Int)]) out2,own3,tok3,nt3⟩,⟨hli,?_,had3⟩,by simp;omega,aS.mk' had3.le (by simp[ToL,lk];exact aI (by rw[lO hkn,uS];simp)) (by simp[aC,lk]) (iS rfl)⟩;rw[hfold,cT,if_pos ⟨by rw[hgi,hgl,hE],hni⟩]
     .refine sR ?_;simp[hw];refine sE ?_;refine⟨⟨i+1,out2,own2,tok2,nt2⟩,⟨hli,?_,hadv2⟩,by simp;omega,aS.mk' hadv2.le (by simp[ToL,lk];exact aI (by rw[lO hkn,uS];simp)) (by simp[aC,lk]) (iS rfl)⟩;rw[hfold,cT,if_neg (fun hh=>hh.2 hin)]
    .simp[hE];refine sC ?_;simp;refine sR ?_;simp[hw];refine sE ?_;refine⟨⟨i+1,out2,own2,tok2,nt2⟩,⟨hli,?_,hadv2⟩,by simp;omega,aS.mk' hadv2.le (by simp[ToL,lk];exact aI (by rw[lO hkn,uS];simp)) (by simp[aC,lk]) (iS rfl)⟩;rw[hfold,cT,if_neg (fun hh=>hE (by rw[<-hgi,hh.1,hgl]))]
   .refine sX ?_;simp only[AU,↓reduceIte];have hin:i=a.nodes.length:=by omega
    subst hin;refine sE ?_;refine⟨by simp,(Fin.gen (vs:=[]) (av:=.tup []) (tok':=tok2) (nt':=nt2) (by simp[aP,bI]) ?_ hadv2.le (nr0 _) (fun t h=>⟨h,.inl rfl⟩) (iS (by simp)) (by simp)).mono fun v m hq=>⟨hq.1,own2,tok2,nt2,?_,hadv2⟩⟩
    .rw[<-uL hkn,Hb]
    .rw[hq.2,ovN,if_neg hsm',hout]
def QOl(a b:Gr)(box:Bxs)(nb:Nat)(tok:Tks)(nt:Nat)(v:AV)(m:bH):Prop :=
 ((oR a b).2≠0/\v=.tup [.osl 0 [] .full,I (oR a b).2]/\m=⟨box,nb,tok,nt⟩) ∨
 ((oR a b).2=0/\∃t tok' nt',v=.tup [.stk t 6 ((oR a b).1.map Ov.cells),I 0]/\m=⟨box,nb,tok',nt'⟩/\(∀s,tok s=true->tok' s=true/\s≠t)/\nt<=nt'/\tok' t=true/\∀s,tok' s=true->s<nt')
theorem aCG(a b:Gr)(ha:a.Fit)(hb:b.Fit)(box:Bxs)(nb:Nat)(tok:Tks)(nt:Nat):aD prog 137 [a.av,b.av] ⟨box,nb,tok,nt⟩ (QOl a b box nb tok nt):=by
 have han:=ha.n;have hae:=ha.e;have hbn:=hb.n;have hbe:=hb.e;refine sI func137 ntmps137 fun Hb Ht=>?_
 refine sR ?_;simp;refine sR ?_;simp;refine⟨rfl,?_⟩;refine sN ?_;refine sL (aP6 a b nb box tok nt) (aOv a b) aQH 0 ⟨by omega,by omega,by omega⟩ wkA ?_;rintro i S ⟨hi,h0,h1⟩ hS;simp only[aP6] at hS;subst hS;refine sR ?_;simp;refine sC ?_;simp;have h012:i=0∨i=1∨i=2:=by omega
 rcases h012 with rfl|rfl|rfl
 .simp;refine sR ?_;simp;refine sR ?_;simp;refine sD (bU a ha _ _) ?_;simp;by_cases hv:vG a=0
  .refine sR ?_;simp[hv];refine sC ?_;simp;refine sR ?_;simp[show IntKind.i64.wrap 1=1 from rfl];refine sE ?_;refine⟨1,⟨by omega,fun _=>hv,by omega⟩,by decide,wkA⟩
  .refine sR ?_;simp;refine sC ?_;simp[hv];refine sR ?_;simp;have hR:oR a b=([],vG a):=by simp[oR,hv]
   refine sN ?_;refine AL.ret ?_;try simp only[AU]
   refine⟨by simp,(Fin.data (av:=.tup [.osl 0 [] .full,I (vG a)]) (by simp[aP,bI];rfl) Hb rfl Ht (fun _ h=>h) (nr0 _) (by simp)).mono fun v m hq=>.inl ⟨by rw[hR];first|assumption|decide,by rw[hR,hq.1],hq.2⟩⟩
 .simp;have h0:vG a=0:=h0 (by omega)
  refine sR ?_;simp;refine sR ?_;simp;refine sD (bU b hb _ _) ?_;simp;by_cases hv:vG b=0
  .refine sR ?_;simp[hv];refine sC ?_;simp;refine sR ?_;simp[show IntKind.i64.wrap 2=2 from rfl];refine sE ?_;refine⟨2,⟨by omega,fun _=>h0,fun _=>hv⟩,by decide,wkA⟩
  .refine sR ?_;simp;refine sC ?_;simp[hv];refine sR ?_;simp;have hR:oR a b=([],vG b):=by simp[oR,hv,h0]
   refine sN ?_;refine AL.ret ?_;try simp only[AU]
   refine⟨by simp,(Fin.data (av:=.tup [.osl 0 [] .full,I (vG b)]) (by simp[aP,bI];rfl) Hb rfl Ht (fun _ h=>h) (nr0 _) (by simp)).mono fun v m hq=>.inl ⟨by rw[hR];first|assumption|decide,by rw[hR,hq.1],hq.2⟩⟩
 .simp;refine sX ?_;simp only[AU,↓reduceIte];have hva:vG a=0:=h0 (by omega)
  have hvb:vG b=0:=h1 (by omega)
  have hw1:IntKind.i64.wrap (↑a.nodes.length+↑b.nodes.length)=(a.nodes.length:Int)+b.nodes.length:=aM (by omega) (by omega)
  have hw2:IntKind.i64.wrap (↑a.edges.length+↑b.edges.length)=(a.edges.length:Int)+b.edges.length:=aM (by omega) (by omega)
  have big:(40<a.nodes.length+b.nodes.length∨80<a.edges.length+b.edges.length)->∀{l loc},Fin prog ⟨nb,nb+58,58,box⟩ nt [ResultVar.tmp 4,ResultVar.tmp 5] (QOl a b box nb tok nt)
    ⟨tl ((5,I 3)::(4,.osl 0 [] .full)::l),lb nb box loc,tok,nt⟩:=fun hbig {l loc}=>by
   have hR:oR a b=([],3):=by simp[oR,hva,hvb,hbig]
   exact(Fin.data (av:=.tup [.osl 0 [] .full,I 3]) (by simp[aP,bI];rfl) Hb rfl Ht (fun _ h=>h) (nr0 _) (by simp)).mono fun v m hq=>.inl ⟨by rw[hR];first|assumption|decide,by rw[hR,hq.1],hq.2⟩
  refine sR ?_;simp[hw1,hw2];first|refine Gd.dt (fun hs1=>?_) (fun hs1=>?_)|refine Gd.df (fun hs1=>?_) (fun hs1=>?_)|refine Gd.t (fun hs1=>?_) (fun hs1=>?_)|refine Gd.f (fun hs1=>?_) (fun hs1=>?_)
  .simp[hs1,hw1,hw2];refine sC ?_;simp;refine sR ?_;simp;refine sN ?_;refine AL.ret ?_;try simp only[AU]
   exact⟨by simp,big (by omega)⟩
  .simp[hs1,hw1,hw2];refine sC ?_;simp;refine⟨fun hs2=>?_,fun hs2=>?_⟩
   .refine sR ?_;simp;refine sN ?_;refine AL.ret ?_;try simp only[AU]
    exact⟨by simp,big (by omega)⟩
   .have hsm:¬(40<a.nodes.length+b.nodes.length∨80<a.edges.length+b.edges.length):=by omega
    refine sR ?_;simp;refine AL.weak (wM (l':=[(9,.ptr (nb+45) 0 0)]) (loc':=[(45,[iD a b [] .full])]) (nr0 _) rfl (by simp[ToL,lk]) (by simp[aC,lk])) ?_;refine AL.trans (iR.opn (l':=[(9,.ptr (nb+45) 0 0)]) (loc':=[(45,[gP a b [] nt])]) 6 (by simp[CvL]) ⟨rfl,vF (aZ .same (aZ .same (aZ .same (aZ .same (aZ .nil aBm))))),trivial⟩) ?_;refine sR ?_;simp;refine aN.sub (args':=[.ptr (nb+45) 0 0,.d (ints [])]) ⟨Sub.refl _,Sub.nil _ _ _,trivial⟩ ?_;refine aN.of_a (aHt a b ⟨ha,hva,hb,aE hvb⟩ b.nodes.length [] [] nt _ _ (nb+45) _ _ (by simp) (by simp) (uS _ _ _)) ?_;rintro v m' ⟨rfl,own1,tok1,nt1,rfl,hadv⟩;have hadv:Adv (upd tok nt true) (nt+1) (.tok nt) tok1 nt1 (.tok own1):=hadv
    simp;refine sR ?_;simp;refine sC ?_;simp;have hkeep:∀t,tok t=true->tok1 t=true:=fun t ht=>by
     have h1:=Ht t ht;exact hadv.keep t (by rw[uO _ _ (by omega)];exact ht) (by intro e;cases e;omega)
    have hne:∀t,tok t=true->t≠own1:=fun t ht e=>by
     have h1:=Ht t ht;rcases hadv.new with e2|⟨s,e2,hs⟩
     .cases e2;omega
     .cases e2;omega
    have hle:=hadv.le;have hlv:tok1 own1=true:=hadv.live
    have hlt:=hadv.lt;refine⟨fun hmany=>?_,fun hfew=>?_⟩
    .have hR:oR a b=([],3):=by
      have:2000<(ovN a b b.nodes.length [] []).length:=by omega
      simp[oR,hva,hvb,hsm,this]
     refine sR ?_;simp;refine sN ?_;refine AL.ret ?_;try simp only[AU]
     exact⟨by simp,(Fin.data (av:=.tup [.osl 0 [] .full,I 3]) (by simp[aP,bI];rfl) Hb rfl Ht hkeep (by omega) (by simp)).mono fun v m hq=>.inl ⟨by rw[hR];first|assumption|decide,by rw[hR,hq.1],hq.2⟩⟩
    .have hR:oR a b=(ovN a b b.nodes.length [] [],0):=by
      have:¬2000<(ovN a b b.nodes.length [] []).length:=by omega
      simp[oR,hva,hvb,hsm,this]
     refine sR ?_;simp;refine sN ?_;refine AL.ret ?_;try simp only[AU]
     exact⟨by simp,(Fin.gen (av:=.tup [.stk own1 6 ((ovN a b b.nodes.length [] []).map Ov.cells),I 0]) (tok':=tok1) (nt':=nt1) (by simp[aP,bI];rfl) Hb (by omega) (nr0 _) (fun t h=>⟨h,.inl rfl⟩) (fun k rows _ h=>.inl h) (by simp)).mono fun v m hq=>.inr ⟨by rw[hR],own1,tok1,nt1,by rw[hR,hq.1],hq.2,fun s hs=>⟨hkeep s hs,hne s hs⟩,by omega,hlv,hlt⟩⟩
def fJ(ys:List Ov):List (List AV):=cG (ys.map Ov.cells)
theorem zB{ys:List Ov}{i:Nat}(h:i<ys.length)(R:List (List AV)):(fJ ys++R)[i]?=some [.d (ints ys[i].g.nodes),.d (AM.edges ys[i].g.edges),.d (ints ys[i].l.nodes),.d (ints ys[i].l.edges),.d (ints ys[i].r.nodes),.d (ints ys[i].r.edges)]:=by
 rw[List.getElem?_append_left (by simp[fJ,cG];exact h)];simp[fJ,cG,h]
theorem aGK(ys:List Ov)(i:Nat)(h:i<ys.length)(o:Ov)(R:List (List AV)):(fJ ys++R).set i [.d (ints o.g.nodes),.d (AM.edges o.g.edges),.d (ints o.l.nodes),.d (ints o.l.edges),.d (ints o.r.nodes),.d (ints o.r.edges)]=fJ (ys.set i o)++R:=by
 rw[List.set_append_left _ _ (by simp[fJ,cG];exact h)];simp[fJ,cG,List.map_set]
theorem aAF(ys:List Ov):(fJ ys).length=ys.length:=by simp[fJ]
structure aNc where
 j:Nat
 i:Nat
 ys:List Ov
structure jB (xs:List Ov) (p:Ov->Bool) (x:aNc):Prop where
 ij:x.i<x.j
 jn:x.j<=xs.length
 len:x.ys.length=xs.length
 tk:x.ys.take x.i=(xs.take x.j).filter fun o=>!p o
 dr:x.ys.drop x.j=xs.drop x.j
theorem jB.at{xs:List Ov}{p:Ov->Bool}{x:aNc}(h:jB xs p x)(hj:x.j<xs.length):x.ys[x.j]'(by rw[h.len];exact hj)=xs[x.j]:=by
 have h1:x.ys[x.j]'(by rw[h.len];exact hj)=(x.ys.drop x.j)[0]'(by simp[h.len];omega):=by simp
 have h2:xs[x.j]=(xs.drop x.j)[0]'(by simp;omega):=by simp
 rw[h1,h2];simp only[h.dr]
theorem jB.skip{xs:List Ov}{p:Ov->Bool}{j i:Nat}{ys:List Ov}(h:jB xs p ⟨j,i,ys⟩)(hj:j<xs.length)(hp:p xs[j]=true):jB xs p ⟨j+1,i,ys⟩:=by
 obtain⟨h1,h2,h3,h4,h5⟩:=h;simp only at h1 h2 h3 h4 h5;refine⟨by simp only;omega,hj,h3,?_,?_⟩
 .simp only;rw[h4,<-List.take_append_getElem hj,List.filter_append];simp[hp]
 .simp only;rw[<-List.drop_drop,<-List.drop_drop,h5]
theorem jB.put{xs:List Ov}{p:Ov->Bool}{j i:Nat}{ys:List Ov}(h:jB xs p ⟨j,i,ys⟩)(hj:j<xs.length)(hp:p xs[j]=false):jB xs p ⟨j+1,i+1,ys.set i xs[j]⟩:=by
 obtain⟨h1,h2,h3,h4,h5⟩:=h;simp only at h1 h2 h3 h4 h5;refine⟨by simp only;omega,hj,by simp[h3],?_,?_⟩
 .simp only;have hi:i<(ys.set i xs[j]).length:=by simp;omega
  rw[<-List.take_append_getElem hi,<-List.take_append_getElem hj,List.filter_append,<-h4];simp[hp,List.take_set_of_le]
 .simp only;rw[List.drop_set_of_lt (by omega),<-List.drop_drop,<-List.drop_drop,h5]
theorem jB.end{xs:List Ov}{p:Ov->Bool}{i:Nat}{ys:List Ov}(h:jB xs p ⟨xs.length,i,ys⟩):ys.take i=xs.filter fun o=>!p o:=by
 have:=h.tk
 simpa using this
theorem jB.start{xs:List Ov}{p:Ov->Bool}(h:xs.any p=true):jB xs p ⟨xs.findIdx p+1,xs.findIdx p,xs⟩:=by
 have hlt:xs.findIdx p<xs.length:=by
  rw[List.findIdx_lt_length];simpa using h
 refine⟨Nat.lt_succ_self _,hlt,rfl,?_,rfl⟩;simp only;rw[<-List.take_append_getElem hlt,List.filter_append];have h1:p xs[xs.findIdx p]=true:=List.findIdx_getElem (w:=hlt)
 have h2:(xs.take (xs.findIdx p)).filter (fun o=>!p o)=xs.take (xs.findIdx p):=by
  refine List.filter_eq_self.2 fun a ha=>?_
  obtain⟨q,hq,rfl⟩:=List.getElem_of_mem ha;rw[List.getElem_take];have:=List.not_of_lt_findIdx (p:=p) (xs:=xs) (i:=q) (by simp at hq;omega)
  simpa using this
 rw[h2];simp[h1]
def aOl(n k:Nat)(f:FuncId)(nb:Nat)(box:Bxs)(tok:Tks)(nt:Nat)(R:List (List AV))(x:aNc):AS :=
 ⟨tl [(0,.msl (nb+8) 0 n 6),(1,.fn (.func f) [.ptr k 0 0]),(5,I x.i),(6,I x.j)],lb nb box [(8,fJ x.ys++R)],tok,nt⟩
theorem yF(xs:List Ov)(f:FuncId)(p:Ov->Bool)(hx:xs.length<=1000000)(row:List AV)(ds:List D)(k t:Nat)(box:Bxs)(nb:Nat)(tok:Tks)(nt:Nat)(hk:box k=some [row])(hcd:∀tok,mU tok row ds)(ht:tok t=true)(hf:∀x∈xs,∀tok nt,dI prog f [x.av,.cptr ds 0] tok nt (B (p x)) tok nt):
  aD prog 138 [.stk t 6 (xs.map Ov.cells),.fn (.func f) [.ptr k 0 0]] ⟨box,nb,tok,nt⟩ fun v m=>v=.d (ovs (xs.filter fun x=>!p x))/\m=⟨box,nb,upd tok t false,nt⟩:=by
 have hix:∀tok,dI prog 204 [.d (ovs xs),.fn (.func f) [.cptr ds 0]] tok nt (I (fB p xs)) tok nt:=fun tok box nb =>
  aBl xs f [.cptr ds 0] p hx box nb tok nt (fun c hc=>by rw[List.mem_singleton.1 hc];exact .cptr) (fun x hx box' nb' _=>hf x hx tok nt box' nb')
 refine sI func138 ntmps138 fun Hb Ht=>?_
 have kn:=bC Hb hk;repeat first|simp|refine sR ?_
 refine aN.of_r (cW.lends rfl hix ⟨.stk ht,.fn1 (.ptr (by simp[lO kn,hk]) (hcd _)),trivial⟩) ?_;repeat first|simp|refine sR ?_
 by_cases hn:fB p xs = -1
 .have hb:(fB p xs == -1)=true:=by simp[hn]
  refine AL.stkD t ht ?_;simp only[List.map_cons,List.map_nil,AV.sdT,↓reduceIte];refine sC ?_;simp[hb];have hfl:(xs.filter fun x=>!p x)=xs:=by
   refine List.filter_eq_self.2 fun x hx'=>?_
   by_cases hany:xs.any p=true
   .simp only[fB,hany,↓reduceIte] at hn;omega
   .have:=List.any_eq_false.1 (by simpa using hany) x hx'
    simpa using this
  repeat first|simp|refine sR ?_
  refine sT ?_;try simp only[AU]
  refine⟨by simp,(Fin.gen (av:=.d (ovs xs)) (tok':=upd tok t false) (nt':=nt) (by simp[aP,bI,lk];rfl) Hb (nr0 _) (nr0 _) (fun t ht=>⟨ht,.inl rfl⟩) (fun k rows _ h=>.inl h) (by simp)).mono fun v m hq=>?_⟩;rw[hfl];exact hq
 .have hany:xs.any p=true:=by
   by_cases h:xs.any p=true
   .exact h
   .exact absurd (by simp[fB,h]) hn
  have hne:xs.map Ov.cells≠[]:=by
   intro h;have:xs=[]:=by simpa using h
   rw[this] at hany;cases hany
  have hb:(fB p xs == -1)=false:=by simp[hn]
  have hfi:fB p xs=(xs.findIdx p:Nat):=by simp[fB,hany]
  refine sC ?_;simp[hb];refine AL.thawS (l':=[(12,.bot),(11,.bot),(5,I (fB p xs)),(10,.bot),(9,.bot),(8,.bot),(4,.bot),(0,.msl (nb+8) 0 xs.length 6),(1,.fn (.func f) [.ptr k 0 0])]) (loc':=[]) t 8 6 (xs.map Ov.cells) 0 rfl (show (8:Nat)<42 by decide) rfl ht hne rfl ?_ trivial ?_
  .simp[CvL]
  intro m;have hst:=jB.start hany;rw[hfi];generalize xs.findIdx p=i0 at *;generalize hRm:List.replicate m (List.replicate 6 AV.bot)=R;have hbt:∀t',upd tok t false t'=true->upd tok t false t'=true:=fun _ h=>h
  have hw0:IntKind.i64.wrap (↑i0+1)=((i0+1:Nat):Int):=by rw[aM (by omega) (by have:=hst.jn;simp only at this;omega)];rfl
  have hfn:∀(loc:List (Nat × List (List AV))) (fz:Option (Nat × Nat × List (List D))),To (fun k=>lb nb box loc k≠none) (fun _=>True) fz (.fn (.func f) [.ptr k 0 0]) (.fn (.func f) [.ptr k 0 0]):=fun loc fz=>.same (lC (fun c hc=>by rw[List.mem_singleton.1 hc];simp[hk]) Hb loc rfl rfl _)
  have hro:∀(ys:List Ov) (p q:Nat->Prop) (fz:Option (Nat × Nat × List (List D))),gE p q fz (fJ ys++R) (fJ ys++R):=fun ys p q fz=>mG fun r hr x hx=>by
   rcases List.mem_append.1 hr with hr|hr
   .obtain⟨e,_,rfl⟩:=List.mem_map.1 hr;obtain⟨d,_,rfl⟩:=List.mem_map.1 hx;exact .d
   .rw[<-hRm] at hr;rw[List.eq_of_mem_replicate hr] at hx;rw[List.eq_of_mem_replicate hx];exact .bot
  repeat first|simp[hw0]|refine sR ?_
  refine sN ?_;refine sL (aOl xs.length k f nb box (upd tok t false) nt R) (jB xs p) (fun x=>xs.length-x.j) ⟨i0+1,i0,xs⟩ hst (wM (nr0 _) rfl (by simp[ToL,lk,aQ];exact hfn _ _) (by simp only[aC,cB,↓reduceIte,and_true];exact⟨_,rfl,hro _ _ _ _⟩)) ?_;rintro⟨j,i,ys⟩ S hok hS;simp only[aOl] at hS;subst hS;have h1:=hok.ij;have h2:=hok.jn;have h3:=hok.len;simp only at h1 h2 h3;have hwj:=sW (i:=j) (by omega);have hwi:=sW (i:=i) (by omega);repeat first|simp|refine sR ?_|refine sC ?_
  refine⟨fun hlt=>?_,fun hge=>?_⟩
  .have hat:=hok.at hlt;simp only at hat;have hys:j<ys.length:=by omega
   have hyi:i<ys.length:=by omega
   have hget:=zB hys R;have hgi:=zB hyi R;have hset:=aGK ys i hyi xs[j] R;have hsk:=fun h=>hok.skip hlt h
   have hpt:=fun h=>hok.put hlt h
   have hdel:=hf xs[j] (List.getElem_mem hlt);rw[hat] at hget;generalize xs[j]=x at *;repeat first|simp[hlt,hget]|refine sR ?_
   refine aN.of_r (cW.lends rfl (fun tok=>hdel tok nt) ⟨.same (by simp),.ptr (by simp[lO kn,hk]) (hcd _),trivial⟩) ?_;simp;cases hp:p x
   .repeat first|simp[hgi,hset,hwi,hwj]|refine sR ?_|refine sC ?_
    refine⟨by omega,?_⟩;repeat first|simp[hwi,hwj]|refine sR ?_
    refine sE ?_;exact⟨⟨j+1,i+1,ys.set i x⟩,hpt hp,by simp only;omega,wM (nr0 _) rfl (by simp[ToL,lk,aQ];exact hfn _ _) (by simp only[aC,cB,↓reduceIte,and_true];exact⟨_,rfl,hro _ _ _ _⟩)⟩
   .repeat first|simp[hwj]|refine sR ?_|refine sC ?_
    refine sE ?_;exact⟨⟨j+1,i,ys⟩,hsk hp,by simp only;omega,wM (nr0 _) rfl (by simp[ToL,lk,aQ];exact hfn _ _) (by simp only[aC,cB];simp;exact hro _ _ _ _)⟩
  .refine sX ?_;simp only[AU,↓reduceIte];have hj:j=xs.length:=by omega
   subst hj;have hend:=hok.end;have hil:i<xs.length:=by omega
   repeat first|simp[hil]|refine sR ?_
   refine⟨by omega,by rw[aAF];omega,?_⟩;have hcut:List.take i (fJ ys++R)=fJ (ys.take i):=by
    rw[List.take_append_of_le_length (by rw[aAF];omega)];simp[fJ,cG,List.map_take]
   rw[hcut];obtain⟨rest,hrest⟩:∃rest,(List.replicate (xs.length-i) [AV.osl 0 [] .full,AV.osl 0 [] .full,AV.osl 0 [] .full,AV.osl 0 [] .full,AV.osl 0 [] .full,AV.osl 0 [] .full]++List.drop (i+(xs.length-i)) (fJ ys++R))=rest:=⟨_,rfl⟩
   rw[hrest];have hrr:∀(p:Nat->Prop) (fz:Option (Nat × Nat × List (List D))),gE p (fun _=>True) fz (fJ (ys.take i)++rest) (fJ (ys.take i)++rest):=fun p fz=>mG fun r hr x hx=>by
    rcases List.mem_append.1 hr with hr|hr
    .obtain⟨e,_,rfl⟩:=List.mem_map.1 hr;obtain⟨d,_,rfl⟩:=List.mem_map.1 hx;exact .d
    .rw[<-hrest] at hr;rcases List.mem_append.1 hr with hr|hr
     .rw[List.eq_of_mem_replicate hr] at hx;simp at hx;rw[hx];exact .osl fun _ _=>trivial
     .rcases List.mem_append.1 (List.mem_of_mem_drop hr) with hr|hr
      .obtain⟨e,_,rfl⟩:=List.mem_map.1 hr;obtain⟨d,_,rfl⟩:=List.mem_map.1 hx;exact .d
      .rw[<-hRm] at hr;rw[List.eq_of_mem_replicate hr] at hx;rw[List.eq_of_mem_replicate hx];exact .bot
   have hes:((ys.take i).map Ov.cells).length=i:=by simp;omega
   repeat first|simp[hil]|refine sR ?_
   try refine⟨by omega,?_⟩
   refine AL.weak (wM (l':=[(4,.msl (nb+8) 0 i 6)]) (loc':=[(8,fJ (ys.take i)++rest)]) (nr0 _) rfl (by simp[ToL,lk,aQ]) (by simp only[aC,cB,↓reduceIte,and_true];exact⟨_,rfl,hrr _ _⟩)) ?_;refine AL.trans (iR.sealD (l':=[(4,.d (.sl 6 ((ys.take i).map Ov.cells)))]) (loc:=[]) (loc':=[]) 8 6 ((ys.take i).map Ov.cells) rest 4 rfl (fun e he=>by obtain⟨o,_,rfl⟩:=List.mem_map.1 he;rfl) (by rw[hes];rfl) rfl ⟨rfl,by have:=@uB.msl (nb+8) 6 ((ys.take i).map Ov.cells);rw[hes] at this;exact this,trivial⟩ trivial) ?_;rw[hend];refine sT ?_;try simp only[AU]
   refine⟨by simp,(Fin.gen (av:=.d (ovs (xs.filter fun x=>!p x))) (tok':=upd tok t false) (nt':=nt) (by simp[aP,bI,lk];rfl) Hb (nr0 _) (nr0 _) (fun t ht=>⟨ht,.inl rfl⟩) (fun k rows _ h=>.inl h) (by simp))⟩
theorem aMH(r:Ru)(tok:Tks):mU tok r.row r.rowK:=⟨.d,.d,.d,.d,.d,.d,.d,.d,.d,.d,.d,.d,.d,.d,.d,.d,.d,.d,.d,.d,.d,.d,.d,.d,.d,trivial⟩
structure aMD (t:Ty) (r:Ru) (c:Co):Prop where
 n:(cF t r c).1.length<=1000000
 fit:∀o∈(cF t r c).1,o.Fit
theorem aAS{t:Ty}{r:Ru}{c:Co}(h:rM t r c=0):tyE t=0/\cN r=0/\lA c=0:=by
 unfold rM at h;split at h
 .contradiction
 rename_i h1;split at h
 .contradiction
 rename_i h2;split at h
 .split at h
  .unfold cnE at h;split at h
   .contradiction
   split at h
   .contradiction
   rename_i h3;exact⟨by simpa using h1,by simpa using h2,by simpa using h3⟩
  .cases h
 .cases h
theorem aBj{t:Ty}{r:Ru}{c:Co}(hr:r.Fit)(hc:c.Fit):aMD t r c:=by
 obtain⟨W,hW⟩:∃W,cF t r c=W:=⟨_,rfl⟩
 suffices h:W.1.length<=1000000/\∀o∈W.1,o.Fit by
  constructor
  .rw[hW];exact h.1
  .rw[hW];exact h.2
 unfold cF at hW;split at hW
 .subst hW;simp
 .rename_i hg;have hg:=aAS (Decidable.not_not.1 hg);split at hW
  .split at hW
   .subst hW;simp
   .have hv:=(gD hg.2.1).2.2;obtain⟨hok,hfit⟩:=aEA hr.rg hv hc.g rfl;have hfew:=aBB (p:=c.g) hv rfl;subst hW;refine⟨Nat.le_trans (List.length_filter_le _ _) (by omega),fun o ho=>hfit o ((List.mem_filter.1 ho).1)⟩
  .subst hW;simp
set_option maxRecDepth 100000 in
theorem aFI(t:Ty)(ht:t.Fit)(r:Ru)(hr:r.Fit)(c:Co)(hc:c.Fit):DC 88 [t.av,r.av,c.av] (.tup [.d (ovs (cF t r c).1),I (cF t r c).2]):=by
 intro tok nt box nb;have h1:=aH2 t ht r hr c hc;have hg:=@aAS t r c;have h2:=aCG r.rg c.g hr.rg hc.g;obtain⟨N,hN⟩:∃N,cF t r c=N:=⟨_,rfl⟩
 rw[hN];unfold cF at hN;generalize rM t r c=E at *;refine sI func88 ntmps88 fun Hb Ht=>?_
 repeat first|simp|refine sR ?_
 refine sD (h1 _ _) ?_;repeat first|simp|refine sR ?_
 by_cases e1:E=0
 .rw[if_neg (by simp[e1])] at hN;refine sC ?_;simp[e1];repeat first|simp|refine sR ?_
  by_cases e2:c.kind=1
  .rw[if_pos e2] at hN;have hv:=(gD (hg e1).2.1).2.2;obtain⟨_,hfit⟩:=aEA hr.rg hv hc.g rfl;have hfew:=aBB (p:=c.g) hv rfl;try (simp[e2])
   repeat ((first|refine sR ?_|refine sC ?_|refine sX ?_);simp[e2])
   refine aN.of_a (h2 _ _ _ _) ?_;unfold QOl;generalize oR r.rg c.g=R at *;rintro v m' (⟨e3,rfl,rfl⟩|⟨e3,t',tok',nt',rfl,rfl,hkp,hle,hlv,hlt⟩)
   .rw[if_pos e3] at hN;have b3:(R.2 != 0)=true:=by simp[e3]
    try (simp[b3])
    repeat ((first|refine sR ?_|refine sC ?_|refine sX ?_);simp[b3])
    refine sT (sH Hb Ht ?_);simp[<-hN,ovs]
   .rw[if_neg (by simp[e3])] at hN;repeat first|simp|refine sR ?_
    refine sC ?_;repeat first|simp|refine sR ?_
    refine aN.of_b (yF R.1 139 (fun o=>!qD r o) (by omega) r.row r.rowK (nb+4) t' _ _ _ _ (by simp[aQ]) (aMH r) hlv (fun o ho tok nt=>aK7 r hr o (hfit o ho) tok nt)) ?_;simp only[Bool.not_not];repeat first|simp|refine sR ?_
    refine sT ?_;try simp only[AU]
    refine⟨by simp,sF Hb Ht (fun s hs=>by rw[uO _ _ (hkp s hs).2];exact(hkp s hs).1) hle ?_⟩;simp[<-hN,ovs]
  .rw[if_neg e2] at hN;have b2:(c.kind != 1)=true:=by simp[e2]
   try (simp[b2])
   repeat ((first|refine sR ?_|refine sC ?_|refine sX ?_);simp[b2])
   refine sT (sH Hb Ht ?_);simp[<-hN,ovs]
 .rw[if_pos e1] at hN;have b1:(E != 0)=true:=by simp[e1]
  refine sC ?_;simp[b1];repeat first|simp|refine sR ?_
  refine sT (sH Hb Ht ?_);simp[<-hN,ovs]
structure Sd where
 k:Int
 o:Bool
 near:Int
 far:Int
 low:Int
 high:Int
abbrev Sd.cells(s:Sd):List D:=[.raw (.int .i64 s.k),.raw (.bool s.o),.raw (.int .i64 s.near),.raw (.int .i64 s.far),.raw (.int .i64 s.low),.raw (.int .i64 s.high)]
abbrev Sd.av(s:Sd):AV:=.agg [I s.k,B s.o,I s.near,I s.far,I s.low,I s.high]
structure Ar where
 to:Gr
 m:Mo
abbrev Ar.av(x:Ar):AV:=.agg [.d (ints x.to.nodes),.d (AM.edges x.to.edges),.d (ints x.m.nodes),.d (ints x.m.edges)]
structure Ar.Big (x:Ar):Prop where
 n:x.m.nodes.length<=dN
 e:x.m.edges.length<=dN
structure Ch where
 a:Dr
 b:List Int
 g:List Int
 c:List Int
structure Ch.U8 (x:Ch):Prop where
 a:x.a.U8
 b:U8s x.b
 g:U8s x.g
 c:U8s x.c
abbrev Ch.av(x:Ch):AV:=.agg [.d (.sl 1 (x.a.nodes.map fun n=>[u8 n])),.d (.sl 3 (x.a.edges.map fun e=>[u8 e.1,u8 e.2.1,u8 e.2.2])),.d (bytes x.b),.d (bytes x.g),.d (bytes x.c)]
def Ch.ok(x:Ch):Bool:=decide (x.a.nodes.length<=1/\x.a.edges.length<=1/\x.c.length<=12/\x.b.length<=10/\x.g.length<=10)
def Ch.A(x:Ch):Gr:=iG x.a
def Ch.B(x:Ch):Gr:=aPf x.A x.b 2
theorem Pre.le{a b:Gr}(h:Pre a b):a.nodes.length<=b.nodes.length/\a.edges.length<=b.edges.length:=by
 obtain⟨t,ht⟩:=h.n;obtain⟨u,hu⟩:=h.e;rw[ht,hu];simp
theorem aGq{α:Type}(p:α->Bool)(l:List α){i:Nat}(h:i<l.length):(l.take (i+1)).filter p=if p l[i]=true then (l.take i).filter p++[l[i]] else (l.take i).filter p:=by
 rw[<-List.take_append_getElem h,List.filter_append];by_cases e:p l[i]=true<;>simp[e]
def aN6(r:Ru)(l:List Ov)(nb:Nat)(box:Bxs)(x:Acc):AS :=
 ⟨tl [(12,I x.i),(9,.d (ovs l)),(11,.osl 6 (((l.take x.i).filter (qD r)).map Ov.cells) x.own),(4,.ptr (nb+4) 0 0)],lb nb box [(4,[r.row])],x.tok,x.nt⟩
set_option maxRecDepth 100000 in
theorem aKc(t:Ty)(ht:t.Fit)(r:Ru)(hr:r.Fit)(c:Co)(hc:c.Fit):DC 91 [t.av,r.av,c.av] (.tup [.d (ovs (cF t r c).1),I (cF t r c).2]):=by
 intro tok nt box nb;have h1:=aFW t ht r hr c hc;have hg:=@aAS t r c;have h2:=aBH r.rg c.g hr.rg hc.g;obtain⟨N,hN⟩:∃N,cF t r c=N:=⟨_,rfl⟩
 rw[hN];unfold cF at hN;generalize rM t r c=E at *;refine sI func91 ntmps91 fun Hb Ht=>?_
 repeat first|simp|refine sR ?_
 refine sD (h1 _ _) ?_;repeat first|simp|refine sR ?_
 by_cases e1:E=0
 .rw[if_neg (by simp[e1])] at hN;refine sC ?_;simp[e1];repeat first|simp|refine sR ?_
  by_cases e2:c.kind=1
  .rw[if_pos e2] at hN;have hv:=(gD (hg e1).2.1).2.2;obtain⟨_,hfit⟩:=aEA hr.rg hv hc.g rfl;have hfew:=aBB (p:=c.g) hv rfl;try (simp[e2])
   repeat ((first|refine sR ?_|refine sC ?_|refine sX ?_);simp[e2])
   refine sD (h2 _ _) ?_;simp;generalize oR r.rg c.g=R at *;repeat first|simp|refine sR ?_
   by_cases e3:R.2=0
   .rw[if_neg (by simp[e3])] at hN;refine sC ?_;simp[e3];repeat first|simp|refine sR ?_
    refine sN ?_;refine sL (aN6 r R.1 nb box) (fun x=>x.i<=R.1.length/\TK tok nt x.tok x.nt [x.own]) (fun x=>R.1.length-x.i) ⟨0,.full,tok,nt⟩ ⟨Nat.zero_le _,(TK.start Ht).full⟩ wkA ?_;rintro⟨i,own,tok',nt'⟩ S ⟨hi,htk⟩ hS;simp only[aN6] at hS hi htk;subst hS;have hw:=sW (i:=i) (by omega);obtain⟨K,hK⟩:∃K,(R.1.take i).filter (qD r)=K:=⟨_,rfl⟩
    have hKl:K.length<=i:=by rw[<-hK];exact Nat.le_trans (List.length_filter_le _ _) (by simp;omega)
    rw[hK];repeat first|simp|refine sR ?_|refine sC ?_
    refine⟨fun hlt=>?_,fun hge=>?_⟩
    .have hstep:=aGq (qD r) R.1 hlt;rw[hK] at hstep;have ho:=hfit _ (List.getElem_mem hlt);have c1:=vO R.1[i].l.nodes R.1[i].r.nodes r.i.nodes ho.l.n ho.r.n hr.i.n;have c2:=vO R.1[i].l.edges R.1[i].r.edges r.i.edges ho.l.e ho.r.e hr.i.e;have hd:qD r R.1[i]=if dZ R.1[i].l.nodes R.1[i].r.nodes r.i.nodes=true then true else dZ R.1[i].l.edges R.1[i].r.edges r.i.edges:=rfl
     repeat first|simp[hlt]|refine sR ?_
     refine sD (c1 _ _) ?_;simp;cases e5:dZ R.1[i].l.nodes R.1[i].r.nodes r.i.nodes
     .rw[e5,if_neg (by simp)] at hd;repeat first|simp[hlt]|refine sR ?_
      refine sD (c2 _ _) ?_;simp;cases e6:dZ R.1[i].l.edges R.1[i].r.edges r.i.edges
      .rw[e6] at hd;rw[hd,if_neg (by simp)] at hstep;try (simp[hw])
       repeat ((first|refine sR ?_|refine sC ?_|refine sX ?_);simp[hw])
       refine sE ?_;exact⟨⟨i+1,own,tok',nt'⟩,⟨hlt,htk⟩,by simp only;omega,wM htk.le rfl (by simp[ToL,lk,hstep]) (by simp[aC,lk])⟩
      .rw[e6] at hd;rw[hd,if_pos rfl] at hstep;try (simp[hlt])
       repeat ((first|refine sR ?_|refine sC ?_|refine sX ?_);simp[hlt])
       refine⟨⟨by omega,htk.live⟩,?_⟩;repeat first|simp[hw]|refine sR ?_
       refine sE ?_;exact⟨⟨i+1,_,_,_⟩,⟨hlt,htk.app⟩,by simp only;omega,wM htk.app.le rfl (by simp[ToL,lk,hstep]) (by simp[aC,lk])⟩
     .rw[e5,if_pos rfl] at hd;rw[hd,if_pos rfl] at hstep;try (simp[hlt])
      repeat ((first|refine sR ?_|refine sC ?_|refine sX ?_);simp[hlt])
      refine⟨⟨by omega,htk.live⟩,?_⟩;repeat first|simp[hw]|refine sR ?_
      refine sE ?_;exact⟨⟨i+1,_,_,_⟩,⟨hlt,htk.app⟩,by simp only;omega,wM htk.app.le rfl (by simp[ToL,lk,hstep]) (by simp[aC,lk])⟩
    .refine sX ?_;simp only[AU,↓reduceIte];have:i=R.1.length:=by omega
     subst this;rw[List.take_length] at hK;rw[hK] at hN;repeat first|simp|refine sR ?_
     refine sT (sG Hb Ht htk.old htk.le ?_);simp[<-hN,ovs]
   .rw[if_pos e3] at hN;have b3:(R.2 != 0)=true:=by simp[e3]
    refine sC ?_;simp[b3];repeat first|simp|refine sR ?_
    refine sT (sH Hb Ht ?_);simp[<-hN,ovs]
  .rw[if_neg e2] at hN;have b2:(c.kind != 1)=true:=by simp[e2]
   try (simp[b2])
   repeat ((first|refine sR ?_|refine sC ?_|refine sX ?_);simp[b2])
   refine sT (sH Hb Ht ?_);simp[<-hN,ovs]
 .rw[if_pos e1] at hN;have b1:(E != 0)=true:=by simp[e1]
  refine sC ?_;simp[b1];repeat first|simp|refine sR ?_
  refine sT (sH Hb Ht ?_);simp[<-hN,ovs]
inductive Cd.Pl:Cd->Prop
 | mk {c:Cd} (hs:c.sl=[]) (hv:c.vars=0) (ht:c.te=[]) (h:∀x∈c.kids,Cd.Pl x):Cd.Pl c
theorem Cd.Pl.sl{c:Cd}(h:c.Pl):c.sl=[]:=by cases h;assumption
theorem Cd.Pl.te{c:Cd}(h:c.Pl):c.te=[]:=by cases h;assumption
theorem Cd.Pl.vars{c:Cd}(h:c.Pl):c.vars=0:=by cases h;assumption
def exT:Ty:=⟨[⟨⟨#[65,99,99,111,117,110,116]⟩, -1,true,[⟨⟨#[98,97,108,97,110,99,101]⟩, -1000,1000,[]⟩]⟩,⟨⟨#[67,97,115,104]⟩,0,false,[]⟩,⟨⟨#[76,111,97,110]⟩,0,false,[⟨⟨#[115,116,97,116,101]⟩,0,1,[⟨#[111,112,101,110]⟩,⟨#[99,108,111,115,101,100]⟩]⟩]⟩,⟨⟨#[80,101,114,115,111,110]⟩, -1,false,[]⟩],
 [⟨⟨#[111,119,110,115]⟩,3,0,0, -1,1,1⟩,⟨⟨#[112,97,121,115]⟩,1,1,0, -1,0, -1⟩]⟩
theorem aK0:exT.Fit:=⟨by decide,by decide,by decide,by decide,by simp[exT];exact⟨⟨by decide,by decide,by decide⟩,⟨by decide,by decide,by decide⟩⟩⟩
theorem aAK:DSs [] []:=⟨rfl,fun i h=>by simp at h⟩
theorem xG{x y:List D}{xs ys:List (List D)}:DSs (x::xs) (y::ys)↔DS1 x y/\DSs xs ys:=by
 constructor
 .rintro⟨h1,h2⟩;exact⟨h2 0 (by simp) (by simp),by simpa using h1,fun j g1 g2=>h2 (j+1) (by simpa using g1) (by simpa using g2)⟩
 .rintro⟨h1,h2,h3⟩;refine⟨by simp[h2],fun j g1 g2=>?_⟩
  match j with
  | 0=>exact h1
  | j+1=>exact h3 j (by simpa using g1) (by simpa using g2)
theorem vT{sz:Nat}{es es':List (List D)}(h:DSs es es'):mP (.sl sz es) (.sl sz es'):=h.sub sz
theorem aDO{p q:Nat->Prop}{fz:Option (Nat × Nat × List (List D))}{sz:Nat}{es es':List (List D)}{o:Own}(h:DSs es es'):To p q fz (.osl sz es o) (.d (.sl sz es')):=.odsub (h.sub sz)
set_option maxRecDepth 100000 in
theorem aDn:DC 34 [] exT.av:=by
 intro tok nt box nb;refine sI func34 ntmps34 fun Hb Ht=>?_
 repeat first|simp|refine sR ?_
 try refine⟨rfl,?_⟩
 repeat first|simp|refine sR ?_
 try refine⟨rfl,?_⟩
 repeat first|simp|refine sR ?_
 try refine⟨rfl,?_⟩
 repeat first|simp|refine sR ?_
 try refine⟨rfl,?_⟩
 repeat first|simp|refine sR ?_
 refine sT (sH Hb Ht ?_);simp[exT,nts,ets,qZ,lH];exact aDO (by simp[xG,aAK,vT,qZ,lH])
abbrev Co.cells(c:Co):List D:=[.raw (.string c.name),.raw (.int .i64 c.kind),ints c.g.nodes,AM.edges c.g.edges,xts c.exts]
abbrev rCo(l:List Co):List (List D):=l.map Co.cells
structure Ob where
 ru:Int
 con:Int
 way:Int
 g:Gr
structure Du where
 o:Ob
 step:Bool
structure Dc where
 o:Ob
 con:Int
 m:Mo
abbrev Ob.cells(o:Ob):List D:=[.raw (.int .i64 o.ru),.raw (.int .i64 o.con),.raw (.int .i64 o.way),ints o.g.nodes,AM.edges o.g.edges]
abbrev Du.cells(d:Du):List D:=[.raw (.int .i64 d.o.ru),.raw (.int .i64 d.o.con),.raw (.int .i64 d.o.way),ints d.o.g.nodes,AM.edges d.o.g.edges,.raw (.bool d.step)]
abbrev Dc.cells(d:Dc):List D:=[.raw (.int .i64 d.o.ru),.raw (.int .i64 d.o.con),.raw (.int .i64 d.o.way),ints d.o.g.nodes,AM.edges d.o.g.edges,.raw (.int .i64 d.con),ints d.m.nodes,AM.ints d.m.edges]
abbrev sQ(l:List Ob):D:=.sl 5 (l.map Ob.cells)
abbrev rK(l:List Du):D:=.sl 6 (l.map Du.cells)
abbrev aHQ(l:List Dc):D:=.sl 8 (l.map Dc.cells)
abbrev Ob.row(o:Ob):List AV:=[I o.ru,I o.con,I o.way,.d (ints o.g.nodes),.d (AM.edges o.g.edges)]
abbrev Ob.av(o:Ob):AV:=.agg o.row
abbrev Du.row(d:Du):List AV:=[I d.o.ru,I d.o.con,I d.o.way,.d (ints d.o.g.nodes),.d (AM.edges d.o.g.edges),B d.step]
abbrev Du.av(d:Du):AV:=.agg d.row
abbrev Dc.row(d:Dc):List AV:=[I d.o.ru,I d.o.con,I d.o.way,.d (ints d.o.g.nodes),.d (AM.edges d.o.g.edges),I d.con,.d (ints d.m.nodes),.d (ints d.m.edges)]
abbrev Dc.av(d:Dc):AV:=.agg d.row
abbrev eS(l:List Ru):D:=.sl 25 (l.map Ru.rowK)
structure Dc.Fit (d:Dc):Prop where
 g:d.o.g.Fit
 m:d.m.Fit
def pX(t:Ty)(p g:Gr)(inj:Bool):Sr:=⟨t,p,g,opM p,inj,0⟩
def aHc(t:Ty)(p g:Gr)(inj:Bool):List Mo:=(pX t p g inj).fnR p.nodes.length [] []
def hdM:List Mo->Mo × Int
 | []=>(⟨[],[]⟩,10)
 | m::_=>(m,0)
def mX(t:Ty)(p g:Gr)(inj:Bool):Mo × Int:=if lW t p g≠0 then (⟨[],[]⟩,lW t p g) else hdM (aHc t p g inj)
def qH(t:Ty)(p g:Gr)(m:Mo)(i:Nat):Int:=if m.nodes.getD i 0<0∨(g.nodes.length:Int)<=m.nodes.getD i 0 then 6 else if isB t (g.nodes.getD (m.nodes.getD i 0).toNat 0) (p.nodes.getD i 0)=true then 0 else 13
def qM(p g:Gr)(m:Mo)(i:Nat):Int :=
 if m.edges.getD i 0<0∨(g.edges.length:Int)<=m.edges.getD i 0 then 6
 else if (p.edges.getD i default).ty≠(g.edges.getD (m.edges.getD i 0).toNat default).ty then 13
 else if m.nodes.getD (p.edges.getD i default).fr.toNat 0≠(g.edges.getD (m.edges.getD i 0).toNat default).fr∨m.nodes.getD (p.edges.getD i default).to.toNat 0≠(g.edges.getD (m.edges.getD i 0).toNat default).to then 11 else 0
def qJ(t:Ty)(p g:Gr)(m:Mo):Int :=
 if m.nodes.length≠p.nodes.length∨m.edges.length≠p.edges.length then 20 else if aA (qH t p g m) m.nodes.length≠0 then aA (qH t p g m) m.nodes.length else aA (qM p g m) m.edges.length
def yV(t:Ty)(p g:Gr)(m:Mo)(inj:Bool):Int:=if qJ t p g m≠0 then qJ t p g m else if inj=true/\(¬m.nodes.Nodup∨¬m.edges.Nodup) then 5 else 0
def aGX(t:Ty)(p g:Gr)(m:Mo)(inj:Bool):Int:=if lW t p g≠0 then lW t p g else yV t p g m inj
def ruE(t:Ty)(r:Ru):Int:=if cN r≠0 then cN r else if dB t r.lg=true then (if dB t r.rg=true then 0 else 13) else 13
def coE(t:Ty)(c:Co):Int:=if cnE t c≠0 then cnE t c else if c.kind=1 then 0 else 8
def rL(t:Ty)(L:List Ru)(i:Nat):Int:=match L[i]? with|some r=>ruE t r|none=>0
def wL(t:Ty)(l:List Co)(i:Nat):Int:=match l[i]? with|some c=>coE t c|none=>0
def fL(t:Ty)(L:List Ru)(l:List Co):Int :=
 if tyE t≠0 then tyE t else if 6<L.length∨8<l.length then 3 else if aA (rL t L) L.length≠0 then aA (rL t L) L.length else aA (wL t l) l.length
def kpI(r:Ru):Mo:=yE r.rg r.i
def eG(r:Ru)(o:Ov):Mo:=aGH o.g (kpI r) o.l
def bE(k:List Int)(n:Nat):List Int:=((List.range n).filter fun (i:Nat)=>decide ((i:Int)∉k)).map fun (i:Nat)=>(i:Int)
def rP(r:Ru)(o:Ov)(i:Nat):Int :=
 if (i:Int)∈r.k.nodes then aU (eG r o).nodes (o.l.nodes.getD (r.i.nodes.getD (aU r.k.nodes i).toNat 0).toNat 0) else ((exG o.g (eG r o)).nodes.length+(bE r.k.nodes i).length:Nat)
def xN(r:Ru)(o:Ov):Gr :=
 ⟨(exG o.g (eG r o)).nodes++(bE r.k.nodes r.lg.nodes.length).map fun n=>r.lg.nodes.getD n.toNat 0,
  (exG o.g (eG r o)).edges++(bE r.k.edges r.lg.edges.length).map fun n=>⟨(r.lg.edges.getD n.toNat default).ty,rP r o (r.lg.edges.getD n.toNat default).fr.toNat,rP r o (r.lg.edges.getD n.toNat default).to.toNat⟩⟩
def lV(r:Ru)(o:Ov):Gr × Bool:=if jF o.g (kpI r) o.l=true then (⟨[],[]⟩,false) else (xN r o,true)
def duN(r:Ru)(i k:Nat)(ws:List Ov)(n:Nat):List Du:=(List.range n).map fun (j:Nat)=>⟨⟨i,k,j,(lV r (ws.getD j ⟨⟨[],[]⟩,⟨[],[]⟩,⟨[],[]⟩⟩)).1⟩,(lV r (ws.getD j ⟨⟨[],[]⟩,⟨[],[]⟩,⟨[],[]⟩⟩)).2⟩
def duW(t:Ty)(L:List Ru)(l:List Co)(i k:Nat):List Ov × Int:=match L[i]?,l[k]? with|some r,some c=>cF t r c|_,_=>([],0)
def duC(t:Ty)(L:List Ru)(l:List Co)(i k:Nat):List Du:=match L[i]? with|some r=>duN r i k (duW t L l i k).1 (duW t L l i k).1.length|none=>[]
def duK(t:Ty)(L:List Ru)(l:List Co)(i n:Nat):List Du:=(List.range n).flatMap (duC t L l i)
def duL(t:Ty)(L:List Ru)(l:List Co)(n:Nat):List Du:=(List.range n).flatMap fun i=>duK t L l i l.length
def duE(t:Ty)(L:List Ru)(l:List Co)(i:Nat):Int:=aA (fun k=>(duW t L l i k).2) l.length
def aM4(t:Ty)(L:List Ru)(l:List Co):Int:=aA (duE t L l) L.length
def iX(t:Ty)(L:List Ru)(l:List Co):List Du × Int:=if aM4 t L l≠0 then ([],aM4 t L l) else (duL t L l L.length,0)
def dX(t:Ty)(L:List Ru)(l:List Co):List Du × Int:=if fL t L l≠0 then ([],fL t L l) else iX t L l
def nP(t:Ty)(g:Gr)(c:Co):Bool:=decide ((mX t c.g g true).2=0)
def vK(t:Ty)(l:List Co)(g:Gr):Nat:=l.findIdx (nP t g)
def zOb:Ob:=⟨0,0,0,⟨[],[]⟩⟩
def iI(t:Ty)(l:List Co)(d:Du):Dc × Bool :=
 if d.step=true then (if h:vK t l d.o.g<l.length then (⟨d.o,(vK t l d.o.g:Nat),(mX t l[vK t l d.o.g].g d.o.g true).1⟩,true) else (⟨zOb,0,⟨[],[]⟩⟩,false)) else (⟨d.o, -1,⟨[],[]⟩⟩,true)
def jQ(t:Ty)(l:List Co)(D:List Du):List Ob:=(D.filter fun d=>!(iI t l d).2).map Du.o
def gG(t:Ty)(L:List Ru)(l:List Co):List Ob × Int:=if (dX t L l).2≠0 then ([],(dX t L l).2) else (jQ t l (dX t L l).1,0)
def aHD(t:Ty)(l:List Co)(D:List Du):List Dc × Int:=if D.all (fun d=>(iI t l d).2)=true then (D.map fun d=>(iI t l d).1,0) else ([],10)
def lZ(t:Ty)(L:List Ru)(l:List Co):List Dc × Int:=if (dX t L l).2≠0 then ([],(dX t L l).2) else aHD t l (dX t L l).1
def obE(a b:Ob):Bool:=decide (a.ru=b.ru)&&decide (a.con=b.con)&&decide (a.way=b.way)&&decide (a.g=b.g)
def aGo(t:Ty)(l:List Co)(d:Du)(x:Dc):Bool :=
 obE x.o d.o&&if d.step=true then decide (0<=x.con/\x.con<l.length)&&(match l[x.con.toNat]? with|some c=>decide (aGX t c.g d.o.g x.m true=0)|none=>false) else decide (x.con = -1)&&decide (x.m.nodes.length+x.m.edges.length=0)
def aMn(t:Ty)(L:List Ru)(l:List Co)(p:List Dc):Bool :=
 decide ((dX t L l).2=0)&&decide ((dX t L l).1.length=p.length)&&(List.range p.length).all fun i=>match (dX t L l).1[i]?,p[i]? with|some d,some x=>aGo t l d x|_,_=>false
end Go.AM
namespace Go.Proofs.YtchfmhhbiealcaaGreatDoor.sortedV
open Go Go.Proofs Go.RowKit Go.Shelf Go.Sort
open Go.Proofs.Tryz
set_option maxHeartbeats 2000000 in
set_option maxRecDepth 100000 in
theorem any(b off n c:Nat)(zs:List Int)(w:World)(hz:zs.length=n)(hbig:n*8<=140737488355328)(hc:∀j,j<zs.length->w.cell? ⟨b,off+j,none⟩=some (.int .i64 (zs.getD j 0))):
    Calls prog 141 #[.slice (some ⟨b,off,none⟩) n c] w fun e w'=>∃v,e=.returned v/\w'.ownsRow w.heap.size 3 1 v zs.length ((zs.mergeSort fun x y=>decide (x<=y)).map (Value.int .i64))/\Below w.heap.size w w':=by
  have hclone:=Tryz.slices_Clone_int b off n c zs w (by omega) hbig hc;rw[List.take_of_length_le (by omega)] at hclone;clear hc
  go_enter func141,ntmps141
  go_wp2_with (first
    | (go_at_call 83;refine hclone.mono ?_;rintro e w1 ⟨v1,rfl,hown,hnn,hbel⟩
       have hown':=hown
       obtain⟨g,cap,rfl,hbg,hgl,hncap,hcm,hlen2,hH⟩:=Lib.holds_of_ownsRow hown hnn;have hsort:=Tryz.slices_Sort_int g 0 cap zs w1 hH hgl (by omega);rw[hlen2] at hsort;have X:Aside (w1.ownsRow w.heap.size 3 1 (.slice (some ⟨g,0,none⟩) n cap) n (zs.map (Value.int .i64))/\Below w.heap.size w w1/\w.heap.size<=g/\g<w1.heap.size/\n<=cap/\cap<=maxLen):=⟨hown',hbel,hbg,hgl,hncap,hcm⟩
       clear hown hown' hbel hH hnn)
    | (go_at_call 205;refine hsort.mono ?_;rintro e w2 ⟨rfl,nn,os,rfl⟩))
  go_ret
  obtain⟨x1,x2,x3,x4,x5,x6⟩:=X.out;rcases x1.2 with ⟨e0,_⟩|⟨g',cap',cur,hv,hbase,hb,h1,h2,h3,h4⟩
  . cases e0
  cases hv;subst hz;exact⟨_,rfl,ownsRow_sortedI (by simp) hbase hb h1 h2 h3,x2.grown (grownBy_sortedI _) x2.size (fun j hj=>by cases hj;exact hbase)⟩
set_option maxHeartbeats 2000000 in
set_option maxRecDepth 100000 in
theorem zero(a:Addr)(c:Nat)(w:World):Calls prog 141 #[.slice (some a) 0 c] w fun e w'=>∃v,e=.returned v/\w'.ownsRow w.heap.size 3 1 v 0 []/\Below w.heap.size w w':=by
  have hclone:=Tryz.slices_Clone_int_zero a c w
  go_enter func141,ntmps141
  go_wp2_with (first
    | (go_at_call 83;refine hclone.mono ?_;rintro e w1 ⟨v1,rfl,hown,hnn,hbel⟩
       have hown':=hown
       obtain⟨g,cap,rfl,_,_,_,_,_,_⟩:=Lib.holds_of_ownsRow (enc:=Value.int .i64) (zs:=[]) hown hnn;have X:Aside (w1.ownsRow w.heap.size 3 1 (.slice (some ⟨g,0,none⟩) 0 cap) 0 []/\Below w.heap.size w w1):=⟨hown',hbel⟩
       clear hown hown' hbel hnn)
    | (go_at_call 205;refine(Tryz.slices_Sort_int_none _ _ _).mono ?_;rintro e w2 ⟨rfl,rfl⟩))
  go_ret
  exact⟨_,rfl,X.out.1,X.out.2⟩
set_option maxHeartbeats 2000000 in
set_option maxRecDepth 100000 in
theorem none(n c:Nat)(w:World):Calls prog 141 #[.slice none n c] w fun e w'=>e=.returned (.slice none 0 0)/\Below w.heap.size w w':=by
 go_enter func141,ntmps141
 go_wp2_with (first
  | (go_at_call 83;refine(Tryz.slices_Clone_int_nil n c _).mono ?_;rintro e w1 ⟨rfl,rfl⟩)
  | (go_at_call 205;refine(Tryz.slices_Sort_int_none _ _ _).mono ?_;rintro e w2 ⟨rfl,rfl⟩))
 go_ret
 exact⟨rfl,Below.refl _ _⟩
end Go.Proofs.YtchfmhhbiealcaaGreatDoor.sortedV
namespace Go.AM
open Go Go.Proofs Go.RowKit
open Go.Proofs.Tryz
theorem aAv(l:List Int)(hl:l.length<=1000000):DC 141 [.d (ints l)] (.d (ints (cX l))):=by
 intro tok nt box nb;refine⟨iJ.mk func141 rfl (by kernel_rfl),fun G w vals hm hr=>?_⟩;obtain⟨hlen,hrv⟩:=hr
 match vals,hlen with
 | [v],_ =>
  have h0:=hrv 0 (by simp) (by simp);simp only[List.getElem_cons_zero] at h0;cases h0 with
  | d h0 =>
   obtain⟨A,cap,rfl,hcap,hmax,hA,hc⟩:=aDt h0;by_cases e:l=[]
   .subst e;have e0:cX []=[]:=by simp[cX]
    cases A with
    | none =>
     refine(YtchfmhhbiealcaaGreatDoor.sortedV.none _ cap w).mono ?_;rintro e w' ⟨rfl,hb⟩;exact⟨_,_,_,G,rfl,⟨rfl,rfl⟩,rfl,eV hm hb,.d (by rw[e0];exact .sl (es:=[]) (fun _ _=>default) (nr0 _) (by decide) (by simp) (by simp) (by simp) (by simp)),gJ hm hb,fun k hk=>⟨hk,rfl⟩⟩
    | some a =>
     refine(YtchfmhhbiealcaaGreatDoor.sortedV.zero a cap w).mono ?_;rintro e w' ⟨v,rfl,ho,hb⟩;exact⟨_,_,_,G,rfl,⟨rfl,rfl⟩,rfl,eV hm hb,.d (by rw[e0];exact mT (xs:=[]) hm ho),gJ hm hb,fun k hk=>⟨hk,rfl⟩⟩
   .obtain⟨a,rfl⟩:=hA e;have hp:0<l.length:=List.length_pos_iff.2 e
    have hc':=hc a rfl
    have hs:a.spot=none:=by
     cases hsp:a.spot with
     | none=>rfl
     | some q =>
      exfalso
      have:=hc' 0 hp
      simp only[World.cell?,Addr.add,hsp,Option.isSome_some,↓reduceIte] at this;split at this<;>simp at this
    obtain⟨b,off,sp⟩:=a;simp only at hs;subst hs;refine(YtchfmhhbiealcaaGreatDoor.sortedV.any b off l.length cap l w rfl (by omega) fun j hj=>?_).mono ?_
    .have h1:=hc' j hj;unfold Addr.add at h1;split at h1
     .rename_i e;subst e;exact h1
     .exact h1
    .rintro e w' ⟨v,rfl,hown,hb⟩;have hl2:l.length=(cX l).length:=by simp[cX]
     rw[hl2] at hown;exact⟨v,_,_,G,rfl,⟨rfl,rfl⟩,rfl,eV hm hb,.d (mT hm hown),gJ hm hb,fun k hk=>⟨hk,rfl⟩⟩
theorem aCy(k:List Int)(i:Nat):bE k (i+1)=bE k i++if (i:Int)∈k then [] else [(i:Int)]:=by
 unfold bE;rw[List.range_succ,List.filter_append,List.map_append];by_cases h:(i:Int)∈k<;>simp[h]
theorem nH(k:List Int)(n:Nat):(bE k n).length<=n:=by
 unfold bE;rw[List.length_map];exact Nat.le_trans (List.length_filter_le _ _) (by simp)
theorem vD{k:List Int}{n:Nat}:∀x∈bE k n,0<=x/\x<(n:Int):=fun x hx=>by
 unfold bE at hx;obtain⟨i,hi,rfl⟩:=List.mem_map.1 hx;have:=List.mem_range.1 (List.mem_filter.1 hi).1
 omega
def aPY(l:List Int)(n:Nat)(nb:Nat)(box:Bxs)(x:Acc):AS:=⟨tl [(8,I x.i),(7,I n),(5,.osl 1 (rI (bE l x.i)) x.own),(0,.d (ints l))],lb nb box [],x.tok,x.nt⟩
theorem aAf(l:List Int)(hl:l.length<=1000000)(n:Nat)(hn:n<=1000000):DC 142 [.d (ints l),I n] (.d (ints (bE l n))):=by
 intro tok nt box nb;refine sI func142 ntmps142 fun Hb Ht=>?_
 repeat first|simp|refine sR ?_
 refine sN ?_;refine sL (aPY l n nb box) (fun x=>x.i<=n/\TK tok nt x.tok x.nt [x.own]) (fun x=>n-x.i) ⟨0,.full,tok,nt⟩ ⟨Nat.zero_le _,(TK.start Ht).full⟩ (wM (nr0 _) rfl (by simp[ToL,lk,bE]) (by simp[aC,lk])) ?_;rintro⟨i,own,tok',nt'⟩ S ⟨hi,htk⟩ hS;simp only[aPY] at hS hi htk;subst hS;have hw:=sW (i:=i) (by omega);have hs:=aCy l i;have hml:=nH l i;by_cases hlt:i<n
 .have c1:=bO l (i:Int) hl;try (simp[hlt])
  repeat ((first|refine sR ?_|refine sC ?_|refine sX ?_);simp[hlt])
  refine sD (c1 _ _) ?_;simp;by_cases e:(i:Int)∈l
  .rw[if_pos e,List.append_nil] at hs;try (simp[e,hw])
   repeat ((first|refine sR ?_|refine sC ?_|refine sX ?_);simp[e,hw])
   refine sE ?_;exact⟨⟨i+1,_,_,_⟩,⟨hlt,htk⟩,by simp only;omega,wM htk.le rfl (by simp[ToL,lk,hs]) (by simp[aC,lk])⟩
  .rw[if_neg e] at hs;try (simp[e])
   repeat ((first|refine sR ?_|refine sC ?_|refine sX ?_);simp[e])
   refine⟨⟨by omega,htk.live⟩,?_⟩;try (simp[hw])
   repeat ((first|refine sR ?_|refine sC ?_|refine sX ?_);simp[hw])
   refine sE ?_;exact⟨⟨i+1,_,_,_⟩,⟨hlt,htk.app⟩,by simp only;omega,wM htk.app.le rfl (by simp[ToL,lk,hs]) (by simp[aC,lk])⟩
 .have:i=n:=by omega
  subst this;try (simp)
  repeat ((first|refine sR ?_|refine sC ?_|refine sX ?_);simp)
  refine sT (sG Hb Ht htk.old htk.le ?_);simp
def QEx(g:Gr)(p:Mo)(box:Bxs)(nb:Nat)(tok:Tks)(nt:Nat)(v:AV)(m:bH):Prop :=
 ∃o1 o2 tok' nt',v=.tup [.agg [.osl 1 (rI (exG g p).nodes) o1,.osl 3 (rE (exG g p).edges) o2],p.av,I 0]/\m=⟨box,nb,tok',nt'⟩/\TK tok nt tok' nt' [o1,o2]
def aL0(g:Gr)(p:Mo)(own1:Own)(nb:Nat)(box:Bxs)(x:Acc):AS :=
 ⟨tl [(43,I x.i),(42,I p.edges.length),(41,.d (ints p.edges)),(8,.ptr (nb+8) 0 0),(5,.ptr (nb+5) 0 0),(4,.ptr (nb+4) 0 0),(3,.ptr (nb+3) 0 0),(2,.ptr (nb+2) 0 0)],
  lb nb box [(8,[[.osl 1 (rI (iT g p p.nodes.length)) own1,.osl 3 (rE (kR g p x.i)) x.own]]),(3,[[.d (ints p.nodes),.d (ints p.edges)]]),(2,[[.d (ints g.nodes),.d (AM.edges g.edges)]]),(5,[[cQ,cQ]]),(4,[[cQ,cQ]])],x.tok,x.nt⟩
theorem aDC(g:Gr)(p:Mo)(hg:g.Fit)(hp:p.Fit)(h:VP g p)(box:Bxs)(nb:Nat)(tok:Tks)(nt:Nat):aD prog 69 [g.av,p.av] ⟨box,nb,tok,nt⟩ (QEx g p box nb tok nt):=by
 have h1:=qT g p hg hp;rw[h.v] at h1;refine sI func69 ntmps69 fun Hb Ht=>?_
 repeat first|simp|refine sR ?_
 refine sD (h1 _ _) ?_;repeat first|simp|refine sR ?_
 refine sC ?_;repeat first|simp|refine sR ?_
 refine sN ?_;have hpn:=hp.n;have hpe:=hp.e;refine sL (aFO g p nb box) (fun x=>x.i<=p.nodes.length/\TK tok nt x.tok x.nt [x.own]) (fun x=>p.nodes.length-x.i) ⟨0,.full,tok,nt⟩ ⟨Nat.zero_le _,(TK.start Ht).full⟩ (wM (nr0 _) rfl (by simp[ToL,lk]) (by simp[aC,lk,lJ])) ?_;rintro⟨i,own,tok',nt'⟩ S ⟨hi,htk⟩ hS;simp only[aFO] at hS hi htk;subst hS;have hw:=sW (i:=i) (by omega);repeat first|simp|refine sR ?_|refine sC ?_
 refine⟨fun hlt=>?_,fun hge=>?_⟩
 .obtain⟨r1,r2⟩:=h.n _ (List.getElem_mem hlt);have r3:p.nodes[i].toNat<g.nodes.length:=by omega
  repeat first|simp[hlt,r1,r2,r3]|refine sR ?_
  refine⟨⟨by have:=oG g p i;omega,htk.live⟩,?_⟩;repeat first|simp[hw]|refine sR ?_
  refine sE ?_;exact⟨⟨i+1,_,_,_⟩,⟨hlt,htk.app⟩,by simp only;omega,wM htk.app.le rfl (by simp[ToL,lk]) (by simp[aC,lk,kV g p hlt,r3])⟩
 .refine sX ?_;simp only[AU,↓reduceIte];have:i=p.nodes.length:=by omega
  subst this;repeat first|simp|refine sR ?_
  refine sN ?_;refine sL (aL0 g p own nb box) (fun x=>x.i<=p.edges.length/\TK tok nt x.tok x.nt [x.own,own]) (fun x=>p.edges.length-x.i) ⟨0,.full,tok',nt'⟩ ⟨Nat.zero_le _,htk.full⟩ (wM htk.le rfl (by simp[ToL,lk]) (by simp[aC,lk,lB])) ?_;rintro⟨i,own2,tok2,nt2⟩ S ⟨hi,htk2⟩ hS;simp only[aL0] at hS hi htk2;subst hS;have hw:=sW (i:=i) (by omega);have hh:=fun v=>wP p.nodes v hp.n h.sn
  repeat first|simp|refine sR ?_|refine sC ?_
  refine⟨fun hlt=>?_,fun hge=>?_⟩
  .obtain⟨r1,r2⟩:=h.e _ (List.getElem_mem hlt);have r3:p.edges[i].toNat<g.edges.length:=by omega
   have hE:qL g p p.edges[i]=⟨g.edges[p.edges[i].toNat].ty,aU p.nodes g.edges[p.edges[i].toNat].fr,aU p.nodes g.edges[p.edges[i].toNat].to⟩:=by
    have q2:g.edges.getD p.edges[i].toNat default=g.edges[p.edges[i].toNat]:=by simp[r3]
    rw[qL,q2]
   have hsucc:=lD g p hlt;rw[hE] at hsucc;have hcc:=h.c _ (List.getElem_mem hlt);have q3:g.edges.getD p.edges[i].toNat default=g.edges[p.edges[i].toNat]:=by simp[r3]
   rw[q3] at hcc;have hh1:=hh g.edges[p.edges[i].toNat].fr;have hh2:=hh g.edges[p.edges[i].toNat].to;rw[kW h.sn hcc.1] at hh1;rw[kW h.sn hcc.2] at hh2;refine sR ?_;simp[hlt];refine sR ?_;simp[r1,r2,r3];generalize g.edges[p.edges[i].toNat]=x at *;repeat first|simp|refine sR ?_
   refine sD (hh1 _ _) ?_;repeat first|simp|refine sR ?_
   refine sD (hh2 _ _) ?_;repeat first|simp|refine sR ?_
   refine⟨⟨by have:=nV g p i;omega,htk2.live⟩,?_⟩;repeat first|simp[hw]|refine sR ?_
   refine sE ?_;exact⟨⟨i+1,_,_,_⟩,⟨hlt,htk2.app⟩,by simp only;omega,wM htk2.app.le rfl (by simp[ToL,lk]) (by simp[aC,lk,hsucc])⟩
  .refine sX ?_;simp only[AU,↓reduceIte];have:i=p.edges.length:=by omega
   subst this;have c1:=gI p.nodes hp.n;have c2:=gI p.edges hp.e;have hG:=aAR g p;repeat first|simp|refine sR ?_
   refine sD (c1 _ _) ?_;repeat first|simp|refine sR ?_
   refine sD (c2 _ _) ?_;simp;have htk3:=(htk2.full.app.full.app).tail.tail.swap;repeat first|simp|refine sR ?_
   refine sT ?_;try simp only[AU]
   refine⟨by simp,(Fin.gen (av:=.tup [.agg [.osl 1 (rI (exG g p).nodes) own,.osl 3 (rE (exG g p).edges) own2],p.av,I 0]) (by simp[aP,bI];rfl) Hb htk3.le (nr0 _) (fun t h=>⟨h,.inl rfl⟩) (fun k rows _ h=>.inl h) (by simp[hG])).mono fun v m hq=>⟨own,own2,_,_,hq.1,hq.2,htk3⟩⟩
structure Lyr (nl nr ng nh:Nat) (m n:Nat->Nat) (K F:Nat->Nat->Prop):Prop where
 f1:∀b c c',F b c->F b c'->c=c'
 f2:∀b b' c,F b c->F b' c->b=b'
 d:∀b,b<ng->((∃c,F b c)↔¬∃a,a<nl/\m a=b/\¬∃a',K a a')
 r:∀c,c<nh->((∃b,F b c)↔¬∃a,a<nr/\n a=c/\¬∃a',K a' a)
 k:∀a a',K a a'->F (m a) (n a')
 fr:∀b c,F b c->b<ng/\c<nh
 kr:∀a a',K a a'->a<nl/\a'<nr
 mr:∀a,a<nl->m a<ng
 nr':∀a,a<nr->n a<nh
 mi:∀a a',a<nl->a'<nl->m a=m a'->a=a'
 ni:∀a a',a<nr->a'<nr->n a=n a'->a=a'
theorem Lyr.symm{nl nr ng nh:Nat}{m n:Nat->Nat}{K F:Nat->Nat->Prop}(h:Lyr nl nr ng nh m n K F):Lyr nr nl nh ng n m (fun a b=>K b a) (fun a b=>F b a) :=
 ⟨fun b c c' h1 h2=>h.f2 _ _ _ h1 h2,fun b b' c h1 h2=>h.f1 _ _ _ h1 h2,h.r,h.d,fun a a' hk=>h.k _ _ hk,fun b c hf=>(h.fr _ _ hf).symm,fun a a' hk=>(h.kr _ _ hk).symm,h.nr',h.mr,h.ni,h.mi⟩
def tX(nr:Nat)(a n q':Nat->Nat)(K J F:Nat->Nat->Prop)(v w:Nat):Prop:=(∃u,J u v/\F (q' u) w)∨∃b,b<nr/\a b=v/\(¬∃b0,K b0 b)/\n b=w
section
variable {nl nr ny nx ng nh:Nat} {p a m n q':Nat->Nat} {K J F:Nat->Nat->Prop}
theorem aCz(h1:Lyr nl nr ny nx p a K J)(h2:Lyr nl nr ng nh m n K F)(hr:∀u,u<ny->q' u<ng)(hi:∀u u',u<ny->u'<ny->q' u=q' u'->u=u')(hp:∀b,b<nl->q' (p b)=m b){u v:Nat}(hj:J u v):∃w,F (q' u) w:=by
 obtain⟨u1,v1⟩:=h1.fr _ _ hj;rw[h2.d _ (hr _ u1)];rintro⟨b,hb,e,hk⟩;have e2:u=p b:=hi _ _ u1 (h1.mr _ hb) (by rw[hp _ hb,e])
 exact(h1.d _ u1).1 ⟨v,hj⟩ ⟨b,hb,e2.symm,hk⟩
theorem aEO(h1:Lyr nl nr ny nx p a K J)(h2:Lyr nl nr ng nh m n K F)(hr:∀u,u<ny->q' u<ng)(hi:∀u u',u<ny->u'<ny->q' u=q' u'->u=u')(hp:∀b,b<nl->q' (p b)=m b){v:Nat}(hv:v<nx):∃w,tX nr a n q' K J F v w:=by
 by_cases h:∃u,J u v
 .obtain⟨u,hu⟩:=h;obtain⟨w,hw⟩:=aCz h1 h2 hr hi hp hu;exact⟨w,.inl ⟨u,hu,hw⟩⟩
 .have h3:∃a0,a0<nr/\a a0=v/\¬∃a',K a' a0:=Classical.byContradiction fun hc=>h ((h1.r _ hv).2 hc)
  obtain⟨b,hb,e,hk⟩:=h3;exact⟨n b,.inr ⟨b,hb,e,hk,rfl⟩⟩
theorem aB4(h1:Lyr nl nr ny nx p a K J){v u b:Nat}(hj:J u v)(hb:b<nr)(e:a b=v)(hk:¬∃b0,K b0 b):False :=
 (h1.r _ (h1.fr _ _ hj).2).1 ⟨u,hj⟩ ⟨b,hb,e,hk⟩
theorem kJ(h1:Lyr nl nr ny nx p a K J)(h2:Lyr nl nr ng nh m n K F){v w w':Nat}(k1:tX nr a n q' K J F v w)(k2:tX nr a n q' K J F v w'):w=w':=by
 rcases k1 with ⟨u,j,f⟩|⟨b,hb,e,hk,hw⟩<;>rcases k2 with ⟨u',j',f'⟩|⟨b',hb',e',hk',hw'⟩
 .have:=h1.f2 _ _ _ j j'
  subst this;exact h2.f1 _ _ _ f f'
 .exact(aB4 h1 j hb' e' hk').elim
 .exact(aB4 h1 j' hb e hk).elim
 .have:=h1.ni _ _ hb hb' (by rw[e,e'])
  subst this;rw[<-hw,<-hw']
theorem aHb(h1:Lyr nl nr ny nx p a K J)(h2:Lyr nl nr ng nh m n K F)(hi:∀u u',u<ny->u'<ny->q' u=q' u'->u=u'){v v' w:Nat}(k1:tX nr a n q' K J F v w)(k2:tX nr a n q' K J F v' w):v=v':=by
 have key:∀u b,F (q' u) w->b<nr->(¬∃b0,K b0 b)->n b=w->False:=fun u b f hb hk hw =>
  (h2.r _ (h2.fr _ _ f).2).1 ⟨_,f⟩ ⟨b,hb,hw,hk⟩
 rcases k1 with ⟨u,j,f⟩|⟨b,hb,e,hk,hw⟩<;>rcases k2 with ⟨u',j',f'⟩|⟨b',hb',e',hk',hw'⟩
 .have e:=h2.f2 _ _ _ f f';have:=hi _ _ (h1.fr _ _ j).1 (h1.fr _ _ j').1 e
  subst this;exact h1.f1 _ _ _ j j'
 .exact(key _ _ f hb' hk' hw').elim
 .exact(key _ _ f' hb hk hw).elim
 .have:=h2.ni _ _ hb hb' (by rw[hw,hw'])
  subst this;rw[<-e,<-e']
theorem aBu(h1:Lyr nl nr ny nx p a K J)(h2:Lyr nl nr ng nh m n K F)(hp:∀b,b<nl->q' (p b)=m b){b:Nat}(hb:b<nr):tX nr a n q' K J F (a b) (n b):=by
 by_cases h:∃b0,K b0 b
 .obtain⟨b0,hk⟩:=h;refine .inl ⟨p b0,h1.k _ _ hk,?_⟩;rw[hp _ (h1.kr _ _ hk).1];exact h2.k _ _ hk
 .exact .inr ⟨b,hb,rfl,h,rfl⟩
theorem aIr(h2:Lyr nl nr ng nh m n K F){v w:Nat}(k:tX nr a n q' K J F v w):w<nh:=by
 rcases k with ⟨u,j,f⟩|⟨b,hb,e,hk,hw⟩
 .exact(h2.fr _ _ f).2
 .rw[<-hw];exact h2.nr' _ hb
theorem aCJ(h1:Lyr nl nr ny nx p a K J)(h2:Lyr nl nr ng nh m n K F)(hr:∀u,u<ny->q' u<ng)(hi:∀u u',u<ny->u'<ny->q' u=q' u'->u=u')(hp:∀b,b<nl->q' (p b)=m b){q:Nat->Nat}(hq:∀v,v<nx->tX nr a n q' K J F v (q v)):Lyr ny nx ng nh q' q J F:=by
 have hqa:∀b,b<nr->q (a b)=n b:=fun b hb=>kJ h1 h2 (hq _ (h1.nr' _ hb)) (aBu h1 h2 hp hb)
 refine⟨h2.f1,h2.f2,fun b hb=>?_,fun c hc=>?_,fun u v j=>?_,h2.fr,h1.fr,hr,fun v hv=>aIr h2 (hq v hv),hi,fun v v' hv hv' e=>aHb h1 h2 hi (hq v hv) (by rw[e];exact hq v' hv')⟩
 .rw[h2.d b hb];refine not_congr ?_;constructor
  .rintro⟨c,hc,e,hk⟩;exact⟨p c,h1.mr _ hc,by rw[hp _ hc,e],fun hj=>(h1.d _ (h1.mr _ hc)).1 hj ⟨c,hc,rfl,hk⟩⟩
  .rintro⟨u,hu,e,hj⟩;have h3:∃a,a<nl/\p a=u/\¬∃a',K a a':=Classical.byContradiction fun hc=>hj ((h1.d _ hu).2 hc)
   obtain⟨c,hc,e2,hk⟩:=h3;exact⟨c,hc,by rw[<-hp _ hc,e2,e],hk⟩
 .rw[h2.r c hc];refine not_congr ?_;constructor
  .rintro⟨b,hb,e,hk⟩;exact⟨a b,h1.nr' _ hb,by rw[hqa _ hb,e],fun hj=>(h1.r _ (h1.nr' _ hb)).1 hj ⟨b,hb,rfl,hk⟩⟩
  .rintro⟨v,hv,e,hj⟩;have h3:∃b,b<nr/\a b=v/\¬∃a',K a' b:=Classical.byContradiction fun hc=>hj ((h1.r _ hv).2 hc)
   obtain⟨b,hb,e2,hk⟩:=h3;exact⟨b,hb,by rw[<-hqa _ hb,e2,e],hk⟩
 .obtain⟨w,hw⟩:=aCz h1 h2 hr hi hp j;have:=kJ h1 h2 (hq v (h1.fr _ _ j).2) (.inl ⟨u,j,hw⟩)
  rw[this];exact hw
end
def atN(l:List Int)(i:Nat):Nat:=(l.getD i 0).toNat
theorem jN{l:List Int}{n i:Nat}(hr:∀x∈l,0<=x/\x<n)(hi:i<l.length):((atN l i:Nat):Int)=l.getD i 0/\atN l i<n:=by
 have:=hr _ (aR (d:=0) hi)
 unfold atN;omega
theorem aBp{l:List Int}{n i j:Nat}(hn:l.Nodup)(hr:∀x∈l,0<=x/\x<n)(hi:i<l.length)(hj:j<l.length)(e:atN l i=atN l j):i=j:=by
 have h1:=jN hr hi;have h2:=jN hr hj;exact nJ hn hi hj (by rw[<-h1.1,<-h2.1,e])
theorem uT{l h:List Int}{i:Nat}(hi:i<l.length):atN (byK l h l.length) i=atN h (atN l i):=by
 unfold atN;rw[mI hi]
structure Stp (l r g h:Gr) (m n:Mo) (KN KE FN FE:Nat->Nat->Prop):Prop where
 em:Emb l g m
 en:Emb r h n
 ln:Lyr l.nodes.length r.nodes.length g.nodes.length h.nodes.length (atN m.nodes) (atN n.nodes) KN FN
 le:Lyr l.edges.length r.edges.length g.edges.length h.edges.length (atN m.edges) (atN n.edges) KE FE
 ty:∀b c,FN b c->g.nodes.getD b 0=h.nodes.getD c 0
 te:∀e f,FE e f->(g.edges.getD e default).ty=(h.edges.getD f default).ty/\FN (g.edges.getD e default).fr.toNat (h.edges.getD f default).fr.toNat/\FN (g.edges.getD e default).to.toNat (h.edges.getD f default).to.toNat
theorem Stp.symm{l r g h:Gr}{m n:Mo}{KN KE FN FE:Nat->Nat->Prop}(s:Stp l r g h m n KN KE FN FE):Stp r l h g n m (fun a b=>KN b a) (fun a b=>KE b a) (fun a b=>FN b a) (fun a b=>FE b a) :=
 ⟨s.en,s.em,s.ln.symm,s.le.symm,fun b c hf=>(s.ty _ _ hf).symm,fun e f hf=>have:=s.te _ _ hf;⟨this.1.symm,this.2⟩⟩
theorem Emb.at{a b:Gr}{m:Mo}(h:Emb a b m){i:Nat}(hi:i<a.nodes.length):((atN m.nodes i:Nat):Int)=m.nodes.getD i 0/\atN m.nodes i<b.nodes.length:=jN h.vm.n (by rw[h.vm.ln];exact hi)
theorem Emb.atE{a b:Gr}{m:Mo}(h:Emb a b m){i:Nat}(hi:i<a.edges.length):((atN m.edges i:Nat):Int)=m.edges.getD i 0/\atN m.edges i<b.edges.length:=jN h.vm.e (by rw[h.vm.le];exact hi)
theorem Emb.an{a b:Gr}{m:Mo}(h:Emb a b m){i:Nat}(hi:i<a.nodes.length):b.nodes.getD (atN m.nodes i) 0=a.nodes.getD i 0:=h.vm.nt i hi
theorem Emb.ae{a b:Gr}{m:Mo}(h:Emb a b m){i:Nat}(hi:i<a.edges.length):(b.edges.getD (atN m.edges i) default).ty=(a.edges.getD i default).ty/\(b.edges.getD (atN m.edges i) default).fr.toNat=atN m.nodes (a.edges.getD i default).fr.toNat/\(b.edges.getD (atN m.edges i) default).to.toNat=atN m.nodes (a.edges.getD i default).to.toNat:=by
 have:=h.vm.et i hi
 unfold atN;rw[this];exact⟨rfl,rfl,rfl⟩
theorem Emb.ends{a b:Gr}{m:Mo}(h:Emb a b m){i:Nat}(hi:i<a.edges.length):(0<=(a.edges.getD i default).fr/\(a.edges.getD i default).fr.toNat<a.nodes.length)/\0<=(a.edges.getD i default).to/\(a.edges.getD i default).to.toNat<a.nodes.length:=by
 have:=aE h.vm.va _ (aR (d:=default) hi)
 omega
theorem aMS{a b:Gr}(va:vG a=0)(vb:vG b=0){f e:Nat->Nat}(fr:∀i,i<a.nodes.length->f i<b.nodes.length)(er:∀i,i<a.edges.length->e i<b.edges.length)(fi:∀i j,i<a.nodes.length->j<a.nodes.length->f i=f j->i=j)(ei:∀i j,i<a.edges.length->j<a.edges.length->e i=e j->i=j)(ft:∀i,i<a.nodes.length->b.nodes.getD (f i) 0=a.nodes.getD i 0)(et:∀i,i<a.edges.length->(b.edges.getD (e i) default).ty=(a.edges.getD i default).ty/\(b.edges.getD (e i) default).fr.toNat=f (a.edges.getD i default).fr.toNat/\(b.edges.getD (e i) default).to.toNat=f (a.edges.getD i default).to.toNat):
  ∃q,Emb a b q/\(∀i,i<a.nodes.length->atN q.nodes i=f i)/\∀i,i<a.edges.length->atN q.edges i=e i:=by
 have g1:∀(f:Nat->Nat) n i,i<n->((List.range n).map fun k=>((f k:Nat):Int)).getD i 0=f i:=fun f n i h=>by simp[h]
 have nd:∀(f:Nat->Nat) n,(∀i j,i<n->j<n->f i=f j->i=j)->((List.range n).map fun k=>((f k:Nat):Int)).Nodup:=fun f n h=>by
  rw[iF];intro i j hij hj;have hj':j<n:=by simpa using hj
  rw[g1 f n i (by omega),g1 f n j hj'];intro e;have:=h i j (by omega) hj' (by omega)
  omega
 refine⟨⟨(List.range a.nodes.length).map fun k=>((f k:Nat):Int),(List.range a.edges.length).map fun k=>((e k:Nat):Int)⟩,⟨oA ⟨va,vb,by simp,by simp,fun x hx=>?_,fun x hx=>?_,fun i hi=>?_,fun i hi=>?_⟩,nd _ _ fi,nd _ _ ei⟩,fun i hi=>?_,fun i hi=>?_⟩
 .obtain⟨k,hk,rfl⟩:=List.mem_map.1 hx;have:=fr k (List.mem_range.1 hk)
  omega
 .obtain⟨k,hk,rfl⟩:=List.mem_map.1 hx;have:=er k (List.mem_range.1 hk)
  omega
 .rw[g1 f _ i hi,Int.toNat_natCast];exact ft i hi
 .have hx:=aE va _ (aR (d:=default) hi);have hy:=aE vb _ (aR (d:=default) (er i hi));obtain⟨t1,t2,t3⟩:=et i hi;simp only;rw[g1 e _ i hi,Int.toNat_natCast,g1 f _ _ (by omega),g1 f _ _ (by omega)];generalize b.edges.getD (e i) default=be at *;cases be;simp only at t1 t2 t3 hy ⊢;rw[E.mk.injEq];exact⟨t1,by omega,by omega⟩
 .unfold atN;rw[g1 f _ i hi,Int.toNat_natCast]
 .unfold atN;rw[g1 e _ i hi,Int.toNat_natCast]
theorem aMA{a b:Gr}{q q':Mo}(h:Emb a b q)(h':Emb a b q')(hn:∀i,i<a.nodes.length->atN q.nodes i=atN q'.nodes i)(he:∀i,i<a.edges.length->atN q.edges i=atN q'.edges i):q=q':=by
 have l1:=h.vm.ln;have l2:=h'.vm.ln;have l3:=h.vm.le;have l4:=h'.vm.le;have e1:q.nodes=q'.nodes:=aCP (by omega) fun j hj=>by
  rw[<-(h.at (by omega)).1,<-(h'.at (by omega)).1,hn j (by omega)]
 have e2:q.edges=q'.edges:=aCP (by omega) fun j hj=>by
  rw[<-(h.atE (by omega)).1,<-(h'.atE (by omega)).1,he j (by omega)]
 cases q;cases q'
 simp only at e1 e2;rw[e1,e2]
theorem Stp.ext{l r y x g h:Gr}{p a m n q':Mo}{KN KE JN JE FN FE:Nat->Nat->Prop}(s1:Stp l r y x p a KN KE JN JE)(s2:Stp l r g h m n KN KE FN FE)(hq:Emb y g q')(hp:oW p q'=m):
  ∃q,Emb x h q/\oW a q=n/\Stp y x g h q' q JN JE FN FE:=by
 have pn:∀b,b<l.nodes.length->atN q'.nodes (atN p.nodes b)=atN m.nodes b:=fun b hb=>by
  rw[<-hp];exact(uT (by rw[s1.em.vm.ln];exact hb)).symm
 have pe:∀b,b<l.edges.length->atN q'.edges (atN p.edges b)=atN m.edges b:=fun b hb=>by
  rw[<-hp];exact(uT (by rw[s1.em.vm.le];exact hb)).symm
 have rn:∀u,u<y.nodes.length->atN q'.nodes u<g.nodes.length:=fun u hu=>(hq.at hu).2
 have re:∀u,u<y.edges.length->atN q'.edges u<g.edges.length:=fun u hu=>(hq.atE hu).2
 have jn:∀u u',u<y.nodes.length->u'<y.nodes.length->atN q'.nodes u=atN q'.nodes u'->u=u':=fun u u' hu hu' e=>aBp hq.n hq.vm.n (by rw[hq.vm.ln];exact hu) (by rw[hq.vm.ln];exact hu') e
 have je:∀u u',u<y.edges.length->u'<y.edges.length->atN q'.edges u=atN q'.edges u'->u=u':=fun u u' hu hu' e=>aBp hq.e hq.vm.e (by rw[hq.vm.le];exact hu) (by rw[hq.vm.le];exact hu') e
 have exN:∀v,v<x.nodes.length->∃w,tX r.nodes.length (atN a.nodes) (atN n.nodes) (atN q'.nodes) KN JN FN v w:=fun v hv=>aEO s1.ln s2.ln rn jn pn hv
 have exE:∀v,v<x.edges.length->∃w,tX r.edges.length (atN a.edges) (atN n.edges) (atN q'.edges) KE JE FE v w:=fun v hv=>aEO s1.le s2.le re je pe hv
 obtain⟨f,hf⟩:∃f:Nat->Nat,∀v,v<x.nodes.length->tX r.nodes.length (atN a.nodes) (atN n.nodes) (atN q'.nodes) KN JN FN v (f v):=by
  classical
  exact⟨fun v=>if hv:v<x.nodes.length then Classical.choose (exN v hv) else 0,fun v hv=>by simp only[hv,dif_pos];exact Classical.choose_spec (exN v hv)⟩
 obtain⟨e,he⟩:∃e:Nat->Nat,∀v,v<x.edges.length->tX r.edges.length (atN a.edges) (atN n.edges) (atN q'.edges) KE JE FE v (e v):=by
  classical
  exact⟨fun v=>if hv:v<x.edges.length then Classical.choose (exE v hv) else 0,fun v hv=>by simp only[hv,dif_pos];exact Classical.choose_spec (exE v hv)⟩
 have ln:=aCJ s1.ln s2.ln rn jn pn hf;have le:=aCJ s1.le s2.le re je pe he;have fa:∀b,b<r.nodes.length->f (atN a.nodes b)=atN n.nodes b:=fun b hb=>kJ s1.ln s2.ln (hf _ (s1.ln.nr' _ hb)) (aBu s1.ln s2.ln pn hb)
 have ea:∀b,b<r.edges.length->e (atN a.edges b)=atN n.edges b:=fun b hb=>kJ s1.le s2.le (he _ (s1.le.nr' _ hb)) (aBu s1.le s2.le pe hb)
 obtain⟨q,q1,q2,q3⟩:=aMS (a:=x) (b:=h) (f:=f) (e:=e) s1.en.vm.vb s2.en.vm.vb ln.nr' le.nr' ln.ni le.ni (fun v hv=>by
   rcases hf v hv with ⟨u,j,k⟩|⟨b,hb,e1,_,e2⟩
   .rw[<-s2.ty _ _ k,<-s1.ty _ _ j];exact hq.an (s1.ln.fr _ _ j).1
   .rw[<-e2,<-e1,s2.en.an hb,s1.en.an hb]) (fun v hv=>by
   rcases he v hv with ⟨u,j,k⟩|⟨b,hb,e1,_,e2⟩
   .obtain⟨j1,j2,j3⟩:=s1.te _ _ j;obtain⟨k1,k2,k3⟩:=s2.te _ _ k;have hu:=(s1.le.fr _ _ j).1;obtain⟨a1,a2,a3⟩:=hq.ae hu;rw[a2] at k2;rw[a3] at k3;refine⟨by rw[<-k1,a1,j1],?_,?_⟩
    .exact kJ s1.ln s2.ln (.inl ⟨_,j2,k2⟩) (hf _ (s1.ln.fr _ _ j2).2)
    .exact kJ s1.ln s2.ln (.inl ⟨_,j3,k3⟩) (hf _ (s1.ln.fr _ _ j3).2)
   .obtain⟨a1,a2,a3⟩:=s1.en.ae hb;obtain⟨b1,b2,b3⟩:=s2.en.ae hb;obtain⟨c1,c2⟩:=s1.en.ends hb;rw[<-e2,<-e1,a1,a2,a3,b1,b2,b3,fa _ c1.2,fa _ c2.2];exact⟨rfl,rfl,rfl⟩)
 have hc:oW a q=n:=aMA (s1.en.comp q1) s2.en (fun i hi=>by
   show atN (byK a.nodes q.nodes a.nodes.length) i=_
   rw[uT (by rw[s1.en.vm.ln];exact hi),q2 _ (s1.ln.nr' _ hi),fa _ hi]) (fun i hi=>by
   show atN (byK a.edges q.edges a.edges.length) i=_
   rw[uT (by rw[s1.en.vm.le];exact hi),q3 _ (s1.le.nr' _ hi),ea _ hi])
 have cong:∀{n1 n2 n3 n4:Nat} {m f f':Nat->Nat} {K F:Nat->Nat->Prop},Lyr n1 n2 n3 n4 m f K F->(∀i,i<n2->f' i=f i)->Lyr n1 n2 n3 n4 m f' K F:=fun h e =>
  ⟨h.f1,h.f2,h.d,fun c hc=>by
   rw[h.r c hc];exact not_congr <| exists_congr fun a=>and_congr_right fun ha=>by rw[e a ha],fun a a' k=>by rw[e _ (h.kr _ _ k).2];exact h.k _ _ k,h.fr,h.kr,h.mr,fun a ha=>by rw[e a ha];exact h.nr' a ha,h.mi,fun a a' ha ha' k=>by rw[e a ha,e a' ha'] at k;exact h.ni _ _ ha ha' k⟩
 exact⟨q,q1,hc,hq,q1,cong ln q2,cong le q3,s2.ty,s2.te⟩
theorem aB6{n nr na:Nat}{images keep:List Int}{i:Nat->Nat}(hl:images.length=nr)(hr:∀x∈images,0<=x/\x<n)(hk:∀a,a<nr->((a:Int)∈keep↔∃j,j<na/\i j=a)):
  ∀v,v<n->((∃z,z<(fZ n images keep).length/\atN (fZ n images keep) z=v)↔¬∃a,a<nr/\atN images a=v/\¬∃j,j<na/\i j=a):=fun v hv=>by
 have e1:(∃z,z<(fZ n images keep).length/\atN (fZ n images keep) z=v)↔(v:Int)∈fZ n images keep:=by
  constructor
  .rintro⟨z,z1,z2⟩;have h1:=aR (d:=0) z1;have h2:=(eA.1 h1).1;have:(v:Int)=(fZ n images keep).getD z 0:=by rw[<-z2];unfold atN;omega
   rw[this];exact h1
  .intro h;obtain⟨z,z1,z2⟩:=eH h;exact⟨z,z1,by unfold atN;rw[z2];rfl⟩
 rw[e1,eA];constructor
 .rintro⟨_,h⟩ ⟨a,a1,a2,a3⟩;refine h (oD.2 ⟨a,by omega,fun hc=>a3 ((hk a a1).1 hc),?_⟩);have:=hr _ (aR (d:=0) (show a<images.length by omega))
  rw[<-a2];unfold atN;omega
 .intro h;refine⟨⟨by omega,by omega⟩,fun hg=>?_⟩;obtain⟨a,a1,a2,a3⟩:=oD.1 hg;exact h ⟨a,by omega,by unfold atN;rw[a3];rfl,fun hc=>a2 ((hk a (by omega)).2 hc)⟩
theorem aHo{a0 r:Gr}{i:Mo}(hi:Emb a0 r i):(∀a,a<r.nodes.length->((a:Int)∈(yE r i).nodes↔∃j,j<a0.nodes.length/\atN i.nodes j=a))/\∀a,a<r.edges.length->((a:Int)∈(yE r i).edges↔∃j,j<a0.edges.length/\atN i.edges j=a):=by
 have key:∀(l:List Int) (n m:Nat),l.length=m->(∀x∈l,0<=x/\x<n)->∀a,a<n->((a:Int)∈lY l n↔∃j,j<m/\atN l j=a):=fun l n m hl hr a ha=>by
  rw[iQ];constructor
  .rintro⟨h,_⟩;obtain⟨j,j1,j2⟩:=eH h;exact⟨j,by omega,by unfold atN;rw[j2];rfl⟩
  .rintro⟨j,j1,j2⟩;have h1:=aR (d:=0) (show j<l.length by omega);have h2:=hr _ h1;have:(a:Int)=l.getD j 0:=by rw[<-j2];unfold atN;omega
   rw[this];exact⟨h1,by omega,by omega⟩
 exact⟨key _ _ _ hi.vm.ln hi.vm.n,key _ _ _ hi.vm.le hi.vm.e⟩
end Go.AM
