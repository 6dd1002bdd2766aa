/-
 Parts of the proof, as merged from many texts: a machine over data, what the functions compute, plain laws.
-/
import Derived.Test.YtainalmfffjnjaaGreatDoorPTT12
set_option linter.unusedSimpArgs false
set_option linter.unusedVariables false
namespace Go.AM
open Go Go.Proofs
open Go.Proofs.Tryz
def Sr.stNp(s:Sr)(fm:Nat)(N:List Int)(r:Nat)(out:List Mo)(k:Nat):List Mo :=
 if s.okN N k=true then (if s.pos (N++[(k:Int)])=true then s.fnP fm r (N++[(k:Int)]) out else out) else out
def stFdN(s:Sr)(nl:Bool)(fm:Nat)(N:List Int)(nb k:Nat)(box:Bxs)(x:AccK):AS :=
 ⟨tl [(63,I x.i),(62,I s.g.nodes.length),(61,.d (ints s.g.nodes)),(2,I N.length),(0,.ptr k 0 0)],lb nb (upd box k (some [s.rowF nl fm N x.a [] x.b x.out x.own])) [],x.tok,x.nt⟩
theorem isD_row{t:Ty}{a:Nat}(h:a<t.nodes.length):(isTb t)[a]'(by simp[isTb];exact h)=isRow t a:=by simp[isTb]
set_option maxRecDepth 100000 in
theorem findN_c(s:Sr)(h:s.Ok)(nl:Bool)(hnl:s.Nl nl)(fm:Nat)(hfm:fm<=1000000)(mtok:Tks)(nt0:Nat):∀(r:Nat) (N:List Int) (out:List Mo) (a b:Nat) (own:Own) (box:Bxs) (nb k:Nat) (tok:Tks) (nt:Nat),N.length+r=s.p.nodes.length->out.length<=fm ->
  box k=some [s.rowF nl fm N a [] b out own]->TK mtok nt0 tok nt [.tok a,.tok b,own]->ACalls prog 286 [.ptr k 0 0] ⟨box,nb,tok,nt⟩ (QFd s nl fm box nb k mtok nt0 nt N [] (s.fnP fm r N out)):=by
 have hpn:=h.p.n;have hpe:=h.p.e;have hgn:=h.g.n;have hge:=h.g.e;have htn:=h.t.n;intro r;induction r with
 | zero =>
  intro N out a b own box nb k tok nt hN ho hk htk;exact findE_c s h nl hnl fm hfm N (by omega) mtok nt0 s.p.edges.length [] out a b own box nb k tok nt (by simp) ho hk htk
 | succ r ih =>
  intro N out a b own box nb k tok nt hN ho hk htk;have hself:box=upd box k (some [s.rowF nl fm N a [] b out own]):=(upd_self box k _ hk).symm
  have hlt:N.length<s.p.nodes.length:=by omega
  refine sI func286 ntmps286 fun Hb Ht=>?_
  have hkn:=key_lt Hb hk;repeat first|simp[lO hkn,hk]|refine sR ?_
  by_cases hbig:out.length=fm
  .have b1:((out.length:Int)==(fm:Int))=true:=by simp[hbig]
   try (simp[lO hkn,hk,b1])
   repeat (first|(refine sR ?_;simp[lO hkn,hk,b1])|(refine sC ?_;simp[lO hkn,hk,b1])|(refine sX ?_;simp only[AU,↓reduceIte]))
   refine sN ?_;refine sE ?_;refine⟨by simp,(Fin.own (vs:=[]) (av:=.tup []) (by simp[resAs,resA]) Hb rfl (nr _) (by simp)).mono fun v m hq=>⟨hq.1,a,b,own,tok,nt,?_,htk,nr _⟩⟩;rw[hq.2,Sr.fnP,fndN,if_pos hbig,<-hself]
  .have b1:((out.length:Int)==(fm:Int))=false:=by simp;omega
   try (simp[lO hkn,hk,b1,hlt])
   repeat (first|(refine sR ?_;simp[lO hkn,hk,b1,hlt])|(refine sC ?_;simp[lO hkn,hk,b1,hlt])|(refine sX ?_;simp only[AU,↓reduceIte]))
   refine sN ?_;have hlb:∀loc,lb nb box loc=lb nb (upd box k (some [s.rowF nl fm N a [] b out own])) loc:=fun loc=>by rw[<-hself]
   rw[hlb];refine sL (stFdN s nl fm N nb k box) (fun x=>x.i<=s.g.nodes.length/\x.out=(List.range x.i).foldl (s.stNp fm N r) out/\x.out.length<=fm/\TK mtok nt0 x.tok x.nt [.tok x.a,.tok x.b,x.own]/\nt<=x.nt) (fun x=>s.g.nodes.length-x.i)
    ⟨0,out,a,b,own,tok,nt⟩ ⟨Nat.zero_le _,rfl,ho,htk,nr _⟩ (Weaks.mk' (nr _) (by simp[ToL,lk];exact to_ptr (by rw[lO hkn,uS];simp)) (by simp[BoxL,lk]) (outFd rfl)) ?_
   rintro⟨i,out2,a2,b2,own2,tok2,nt2⟩ S ⟨hi,hout,ho2,htk2,hnt2⟩ hS;simp only[stFdN] at hS hi hout ho2 htk2 hnt2;subst hS;have hw:IntKind.i64.wrap (↑i+1)=((i+1:Nat):Int):=by rw[wrap_in (by omega) (by omega)];omega
   have hfold:(List.range (i+1)).foldl (s.stNp fm N r) out=s.stNp fm N r out2 i:=by
    rw[hout,List.range_succ,List.foldl_append];rfl
   have hta:tok2 a2=true:=htk2.live
   have htb:tok2 b2=true:=htk2.swap.live
   by_cases hli:i<s.g.nodes.length
   .have hlp:N.length<s.pt.nodes.length:=by rw[h.pn];exact hlt
    have hgv:=gvB_gvI hnl.n hlp i;have hgiv:=givenF_c nl s.pt.nodes N.length hlp (by rw[h.pn];omega);obtain⟨z1,z2⟩:=h.np _ (List.getElem_mem hlt);obtain⟨z3,z4⟩:=h.ng _ (List.getElem_mem hli);have hgi:s.g.nodes.getD i 0=s.g.nodes[i]:=by simp[hli]
    have hpn2:s.p.nodes.getD N.length 0=s.p.nodes[N.length]:=by simp[hlt]
    obtain⟨q,hq⟩:=Int.eq_ofNat_of_zero_le z1;obtain⟨u,hu⟩:=Int.eq_ofNat_of_zero_le z3;have hq2:q<s.t.nodes.length:=by omega
    have hu2:u<s.t.nodes.length:=by omega
    have hokN:s.okN N i=if (if 0<=gvI nl s.pt.nodes N.length then decide (gvI nl s.pt.nodes N.length=(i:Int)) else true)=true then (if usB s.inj N i=true then false else isB s.t (u:Int) (q:Int)) else false:=by
     unfold Sr.okN;rw[hgv,hgi,hpn2,hq,hu]
    generalize gvI nl s.pt.nodes N.length=W at *;have hisD:D.sl 1 (List.map (fun r=>[blB r]) (isTb s.t))=isD s.t:=rfl
    have hlt1:(isTb s.t).length=s.t.nodes.length:=by simp[isTb]
    have hlt2:(isRow s.t q).length=s.t.nodes.length:=by simp[isRow]
    have hrow:(isTb s.t)[q]'(by rw[hlt1];exact hq2)=isRow s.t q:=isD_row hq2
    have hcol:(isRow s.t q)[u]'(by rw[hlt2];exact hu2)=isB s.t (u:Int) (q:Int):=by simp[isRow]
    try (simp[lO hkn,uS,hli])
    repeat (first|(refine sR ?_;simp[lO hkn,uS,hli])|(refine sC ?_;simp[lO hkn,uS,hli])|(refine sX ?_;simp only[AU,↓reduceIte]))
    refine sD (hgiv _ _) ?_;simp;by_cases p01:0<=W/\W≠(i:Int)
    .obtain⟨p0,p1⟩:=p01;have bw:(W != (i:Int))=true:=by simp[p1]
     have hok:s.okN N i=false:=by rw[hokN,if_pos p0];simp[p1]
     try (simp[lO hkn,uS,p0,bw,hw])
     repeat (first|(refine sR ?_;simp[lO hkn,uS,p0,bw,hw])|(refine sC ?_;simp[lO hkn,uS,p0,bw,hw])|(refine sX ?_;simp only[AU,↓reduceIte]))
     refine sE ?_;exact⟨⟨i+1,out2,a2,b2,own2,tok2,nt2⟩,⟨hli,by rw[hfold,Sr.stNp,hok];simp,ho2,htk2,hnt2⟩,by simp only;omega,Weaks.mk' (by have:=htk2.le;omega) (by simp[ToL,lk];exact to_ptr (by rw[lO hkn,uS];simp)) (by simp[BoxL,lk]) (outFd rfl)⟩
    .have hW:(if 0<=W then decide (W=(i:Int)) else true)=true:=by
      by_cases p0:0<=W
      .rw[if_pos p0];by_cases p1:W=(i:Int)
       .simp[p1]
       .exact absurd ⟨p0,p1⟩ p01
      .rw[if_neg p0]
     rw[if_pos hW] at hokN;have hst:∀Q,(0<=W->(W != (i:Int))=false->Q)->(¬0<=W->Q)->Q:=by
      intro Q h1 h2;by_cases p0:0<=W
      .refine h1 p0 ?_;by_cases p1:W=(i:Int)
       .simp[p1]
       .exact absurd ⟨p0,p1⟩ p01
      .exact h2 p0
     have skip:∀Q:Prop,(s.inj=true->decide ((i:Int)∈N)=true->Q)->(s.inj=true->decide ((i:Int)∈N)=false->Q)->(s.inj=false->Q)->Q:=by
      intro Q h1 h2 h3;cases ei:s.inj
      .exact h3 ei
      .cases ed:decide ((i:Int)∈N)
       .exact h2 ei ed
       .exact h1 ei ed
     refine hst _ (fun p0 bw=>?_) (fun p0=>?_)
     .cases hB:isB s.t (u:Int) (q:Int)
      .have hok:s.okN N i=false:=by rw[hokN,hB];simp
       try (simp[lO hkn,uS,p0,bw,hw,hlt,hq,hu,hq2,hu2,isD,hlt1,hlt2,hrow,hcol,hB])
       repeat (first|(refine sR ?_;simp[lO hkn,uS,p0,bw,hw,hlt,hq,hu,hq2,hu2,isD,hlt1,hlt2,hrow,hcol,hB])|(refine sC ?_;simp[lO hkn,uS,p0,bw,hw,hlt,hq,hu,hq2,hu2,isD,hlt1,hlt2,hrow,hcol,hB])|(refine sX ?_;simp only[AU,↓reduceIte]))
       refine sE ?_;exact⟨⟨i+1,out2,a2,b2,own2,tok2,nt2⟩,⟨hli,by rw[hfold,Sr.stNp,hok];simp,ho2,htk2,hnt2⟩,by simp only;omega,Weaks.mk' (by have:=htk2.le;omega) (by simp[ToL,lk];exact to_ptr (by rw[lO hkn,uS];simp)) (by simp[BoxL,lk]) (outFd rfl)⟩
      .rw[hB] at hokN;refine skip _ (fun ei ed=>?_) (fun ei ed=>?_) (fun ei=>?_)
       .have hok:s.okN N i=false:=by rw[hokN,usB,if_pos ei,ed];rfl
        try (simp[lO hkn,uS,p0,bw,hw,hlt,hq,hu,hq2,hu2,isD,hlt1,hlt2,hrow,hcol,hB,ei])
        repeat (first|(refine sR ?_;simp[lO hkn,uS,p0,bw,hw,hlt,hq,hu,hq2,hu2,isD,hlt1,hlt2,hrow,hcol,hB,ei])|(refine sC ?_;simp[lO hkn,uS,p0,bw,hw,hlt,hq,hu,hq2,hu2,isD,hlt1,hlt2,hrow,hcol,hB,ei])|(refine sX ?_;simp only[AU,↓reduceIte]))
        refine Stop.of_r (RCall.lends rfl (fun tok=>contains_c N i (by omega) tok nt2) ⟨.stk hta,.same (by simp),trivial⟩) ?_;rw[ed];try (simp[hw])
        repeat (first|(refine sR ?_;simp[hw])|(refine sC ?_;simp[hw])|(refine sX ?_;simp only[AU,↓reduceIte]))
        refine sE ?_;exact⟨⟨i+1,out2,a2,b2,own2,tok2,nt2⟩,⟨hli,by rw[hfold,Sr.stNp,hok];simp,ho2,htk2,hnt2⟩,by simp only;omega,Weaks.mk' (by have:=htk2.le;omega) (by simp[ToL,lk];exact to_ptr (by rw[lO hkn,uS];simp)) (by simp[BoxL,lk]) (outFd rfl)⟩
       .have hok:s.okN N i=true:=by rw[hokN,usB,if_pos ei,ed];rfl
        try (simp[lO hkn,uS,p0,bw,hw,hlt,hq,hu,hq2,hu2,isD,hlt1,hlt2,hrow,hcol,hB,ei])
        repeat (first|(refine sR ?_;simp[lO hkn,uS,p0,bw,hw,hlt,hq,hu,hq2,hu2,isD,hlt1,hlt2,hrow,hcol,hB,ei])|(refine sC ?_;simp[lO hkn,uS,p0,bw,hw,hlt,hq,hu,hq2,hu2,isD,hlt1,hlt2,hrow,hcol,hB,ei])|(refine sX ?_;simp only[AU,↓reduceIte]))
        refine Stop.of_r (RCall.lends rfl (fun tok=>contains_c N i (by omega) tok nt2) ⟨.stk hta,.same (by simp),trivial⟩) ?_;rw[ed];try (simp[lO hkn,uS])
        repeat (first|(refine sR ?_;simp[lO hkn,uS])|(refine sC ?_;simp[lO hkn,uS])|(refine sX ?_;simp only[AU,↓reduceIte]))
        refine⟨⟨by omega,hta⟩,?_⟩;have htk3:=htk2.app;simp only[uL hkn,upd_upd];have hta3:(upd (upd tok2 a2 false) nt2 true) nt2=true:=uS _ _ _
        have htb3:(upd (upd tok2 a2 false) nt2 true) b2=true:=htk3.swap.live
        have hpos:=possibleF_c s h nl hnl fm (N++[(i:Int)]) [] (by simp;omega) out2;try (simp[lO hkn,uS])
        repeat (first|(refine sR ?_;simp[lO hkn,uS])|(refine sC ?_;simp[lO hkn,uS])|(refine sX ?_;simp only[AU,↓reduceIte]))
        refine Stop.of_r (RCall.lends rfl (fun tok=>hpos tok (nt2+1)) ⟨.ptr (row:=s.rowF nl fm (N++[(i:Int)]) nt2 [] b2 out2 own2) (by simp[lO hkn,uS]) (Sr.row_cds (own:=own2) hta3 htb3),trivial⟩) ?_;cases hP:s.pos (N++[(i:Int)])
        .try (simp[lO hkn,uS,rI_cut,hw])
         repeat (first|(refine sR ?_;simp[lO hkn,uS,rI_cut,hw])|(refine sC ?_;simp[lO hkn,uS,rI_cut,hw])|(refine sX ?_;simp only[AU,↓reduceIte]))
         simp only[uL hkn,upd_upd];refine sE ?_;exact⟨⟨i+1,out2,nt2,b2,own2,_,nt2+1⟩,⟨hli,by rw[hfold,Sr.stNp,hok,hP];simp,ho2,htk3,Nat.le_succ_of_le hnt2⟩,by simp only;omega,Weaks.mk' (Nat.le_succ_of_le hnt2) (by simp[ToL,lk];exact to_ptr (by rw[lO hkn,uS];simp)) (by simp[BoxL,lk]) (outFd (s:=s) (nl:=nl) (fm:=fm) (N:=N) (E:=[]) (a:=nt2) (b:=b2) (out:=out2) (own:=own2) rfl)⟩
        .try (simp[lO hkn,uS])
         repeat (first|(refine sR ?_;simp[lO hkn,uS])|(refine sC ?_;simp[lO hkn,uS])|(refine sX ?_;simp only[AU,↓reduceIte]))
         refine Stop.of_a (ih (N++[(i:Int)]) out2 nt2 b2 own2 _ _ k _ _ (by simp;omega) ho2 (by simp[lO hkn,uS]) htk3) ?_;rintro v m' ⟨rfl,a3,b3,own3,tok3,nt3,rfl,htk4,hle4⟩;have hle4:nt2+1<=nt3:=hle4
         have hle5:nt<=nt3:=by omega
         simp[uL hkn,upd_upd];try (simp[lO hkn,uS,rI_cut,hw])
         repeat (first|(refine sR ?_;simp[lO hkn,uS,rI_cut,hw])|(refine sC ?_;simp[lO hkn,uS,rI_cut,hw])|(refine sX ?_;simp only[AU,↓reduceIte]))
         simp only[uL hkn,upd_upd];refine sE ?_;exact⟨⟨i+1,s.fnP fm r (N++[(i:Int)]) out2,a3,b3,own3,tok3,nt3⟩,⟨hli,by rw[hfold,Sr.stNp,hok,hP];simp,Sr.fnP_len h ho2,htk4,by omega⟩,by simp only;omega,Weaks.mk' hle5 (by simp[ToL,lk];exact to_ptr (by rw[lO hkn,uS];simp)) (by simp[BoxL,lk]) (outFd (s:=s) (nl:=nl) (fm:=fm) (N:=N) (E:=[]) (a:=a3) (b:=b3) (out:=s.fnP fm r (N++[(i:Int)]) out2) (own:=own3) rfl)⟩
       .have hok:s.okN N i=true:=by rw[hokN,usB,if_neg (by simp[ei])]
        refine sR ?_;simp[lO hkn,uS,p0,bw,hw,hlt,hq,hu,hq2,hu2,isD,hlt1,hlt2,hrow,hcol,hB,ei];refine sC ?_;simp;try (simp[lO hkn,uS])
        repeat (first|(refine sR ?_;simp[lO hkn,uS])|(refine sC ?_;simp[lO hkn,uS])|(refine sX ?_;simp only[AU,↓reduceIte]))
        refine⟨⟨by omega,hta⟩,?_⟩;have htk3:=htk2.app;simp only[uL hkn,upd_upd];have hta3:(upd (upd tok2 a2 false) nt2 true) nt2=true:=uS _ _ _
        have htb3:(upd (upd tok2 a2 false) nt2 true) b2=true:=htk3.swap.live
        have hpos:=possibleF_c s h nl hnl fm (N++[(i:Int)]) [] (by simp;omega) out2;try (simp[lO hkn,uS])
        repeat (first|(refine sR ?_;simp[lO hkn,uS])|(refine sC ?_;simp[lO hkn,uS])|(refine sX ?_;simp only[AU,↓reduceIte]))
        refine Stop.of_r (RCall.lends rfl (fun tok=>hpos tok (nt2+1)) ⟨.ptr (row:=s.rowF nl fm (N++[(i:Int)]) nt2 [] b2 out2 own2) (by simp[lO hkn,uS]) (Sr.row_cds (own:=own2) hta3 htb3),trivial⟩) ?_;cases hP:s.pos (N++[(i:Int)])
        .try (simp[lO hkn,uS,rI_cut,hw])
         repeat (first|(refine sR ?_;simp[lO hkn,uS,rI_cut,hw])|(refine sC ?_;simp[lO hkn,uS,rI_cut,hw])|(refine sX ?_;simp only[AU,↓reduceIte]))
         simp only[uL hkn,upd_upd];refine sE ?_;exact⟨⟨i+1,out2,nt2,b2,own2,_,nt2+1⟩,⟨hli,by rw[hfold,Sr.stNp,hok,hP];simp,ho2,htk3,Nat.le_succ_of_le hnt2⟩,by simp only;omega,Weaks.mk' (Nat.le_succ_of_le hnt2) (by simp[ToL,lk];exact to_ptr (by rw[lO hkn,uS];simp)) (by simp[BoxL,lk]) (outFd (s:=s) (nl:=nl) (fm:=fm) (N:=N) (E:=[]) (a:=nt2) (b:=b2) (out:=out2) (own:=own2) rfl)⟩
        .try (simp[lO hkn,uS])
         repeat (first|(refine sR ?_;simp[lO hkn,uS])|(refine sC ?_;simp[lO hkn,uS])|(refine sX ?_;simp only[AU,↓reduceIte]))
         refine Stop.of_a (ih (N++[(i:Int)]) out2 nt2 b2 own2 _ _ k _ _ (by simp;omega) ho2 (by simp[lO hkn,uS]) htk3) ?_;rintro v m' ⟨rfl,a3,b3,own3,tok3,nt3,rfl,htk4,hle4⟩;have hle4:nt2+1<=nt3:=hle4
         have hle5:nt<=nt3:=by omega
         simp[uL hkn,upd_upd];try (simp[lO hkn,uS,rI_cut,hw])
         repeat (first|(refine sR ?_;simp[lO hkn,uS,rI_cut,hw])|(refine sC ?_;simp[lO hkn,uS,rI_cut,hw])|(refine sX ?_;simp only[AU,↓reduceIte]))
         simp only[uL hkn,upd_upd];refine sE ?_;exact⟨⟨i+1,s.fnP fm r (N++[(i:Int)]) out2,a3,b3,own3,tok3,nt3⟩,⟨hli,by rw[hfold,Sr.stNp,hok,hP];simp,Sr.fnP_len h ho2,htk4,by omega⟩,by simp only;omega,Weaks.mk' hle5 (by simp[ToL,lk];exact to_ptr (by rw[lO hkn,uS];simp)) (by simp[BoxL,lk]) (outFd (s:=s) (nl:=nl) (fm:=fm) (N:=N) (E:=[]) (a:=a3) (b:=b3) (out:=s.fnP fm r (N++[(i:Int)]) out2) (own:=own3) rfl)⟩
     .cases hB:isB s.t (u:Int) (q:Int)
      .have hok:s.okN N i=false:=by rw[hokN,hB];simp
       try (simp[lO hkn,uS,p0,hw,hlt,hq,hu,hq2,hu2,isD,hlt1,hlt2,hrow,hcol,hB])
       repeat (first|(refine sR ?_;simp[lO hkn,uS,p0,hw,hlt,hq,hu,hq2,hu2,isD,hlt1,hlt2,hrow,hcol,hB])|(refine sC ?_;simp[lO hkn,uS,p0,hw,hlt,hq,hu,hq2,hu2,isD,hlt1,hlt2,hrow,hcol,hB])|(refine sX ?_;simp only[AU,↓reduceIte]))
       refine sE ?_;exact⟨⟨i+1,out2,a2,b2,own2,tok2,nt2⟩,⟨hli,by rw[hfold,Sr.stNp,hok];simp,ho2,htk2,hnt2⟩,by simp only;omega,Weaks.mk' (by have:=htk2.le;omega) (by simp[ToL,lk];exact to_ptr (by rw[lO hkn,uS];simp)) (by simp[BoxL,lk]) (outFd rfl)⟩
      .rw[hB] at hokN;refine skip _ (fun ei ed=>?_) (fun ei ed=>?_) (fun ei=>?_)
       .have hok:s.okN N i=false:=by rw[hokN,usB,if_pos ei,ed];rfl
        try (simp[lO hkn,uS,p0,hw,hlt,hq,hu,hq2,hu2,isD,hlt1,hlt2,hrow,hcol,hB,ei])
        repeat (first|(refine sR ?_;simp[lO hkn,uS,p0,hw,hlt,hq,hu,hq2,hu2,isD,hlt1,hlt2,hrow,hcol,hB,ei])|(refine sC ?_;simp[lO hkn,uS,p0,hw,hlt,hq,hu,hq2,hu2,isD,hlt1,hlt2,hrow,hcol,hB,ei])|(refine sX ?_;simp only[AU,↓reduceIte]))
        refine Stop.of_r (RCall.lends rfl (fun tok=>contains_c N i (by omega) tok nt2) ⟨.stk hta,.same (by simp),trivial⟩) ?_;rw[ed];try (simp[hw])
        repeat (first|(refine sR ?_;simp[hw])|(refine sC ?_;simp[hw])|(refine sX ?_;simp only[AU,↓reduceIte]))
        refine sE ?_;exact⟨⟨i+1,out2,a2,b2,own2,tok2,nt2⟩,⟨hli,by rw[hfold,Sr.stNp,hok];simp,ho2,htk2,hnt2⟩,by simp only;omega,Weaks.mk' (by have:=htk2.le;omega) (by simp[ToL,lk];exact to_ptr (by rw[lO hkn,uS];simp)) (by simp[BoxL,lk]) (outFd rfl)⟩
       .have hok:s.okN N i=true:=by rw[hokN,usB,if_pos ei,ed];rfl
        try (simp[lO hkn,uS,p0,hw,hlt,hq,hu,hq2,hu2,isD,hlt1,hlt2,hrow,hcol,hB,ei])
        repeat (first|(refine sR ?_;simp[lO hkn,uS,p0,hw,hlt,hq,hu,hq2,hu2,isD,hlt1,hlt2,hrow,hcol,hB,ei])|(refine sC ?_;simp[lO hkn,uS,p0,hw,hlt,hq,hu,hq2,hu2,isD,hlt1,hlt2,hrow,hcol,hB,ei])|(refine sX ?_;simp only[AU,↓reduceIte]))
        refine Stop.of_r (RCall.lends rfl (fun tok=>contains_c N i (by omega) tok nt2) ⟨.stk hta,.same (by simp),trivial⟩) ?_;rw[ed];try (simp[lO hkn,uS])
        repeat (first|(refine sR ?_;simp[lO hkn,uS])|(refine sC ?_;simp[lO hkn,uS])|(refine sX ?_;simp only[AU,↓reduceIte]))
        refine⟨⟨by omega,hta⟩,?_⟩;have htk3:=htk2.app;simp only[uL hkn,upd_upd];have hta3:(upd (upd tok2 a2 false) nt2 true) nt2=true:=uS _ _ _
        have htb3:(upd (upd tok2 a2 false) nt2 true) b2=true:=htk3.swap.live
        have hpos:=possibleF_c s h nl hnl fm (N++[(i:Int)]) [] (by simp;omega) out2;try (simp[lO hkn,uS])
        repeat (first|(refine sR ?_;simp[lO hkn,uS])|(refine sC ?_;simp[lO hkn,uS])|(refine sX ?_;simp only[AU,↓reduceIte]))
        refine Stop.of_r (RCall.lends rfl (fun tok=>hpos tok (nt2+1)) ⟨.ptr (row:=s.rowF nl fm (N++[(i:Int)]) nt2 [] b2 out2 own2) (by simp[lO hkn,uS]) (Sr.row_cds (own:=own2) hta3 htb3),trivial⟩) ?_;cases hP:s.pos (N++[(i:Int)])
        .try (simp[lO hkn,uS,rI_cut,hw])
         repeat (first|(refine sR ?_;simp[lO hkn,uS,rI_cut,hw])|(refine sC ?_;simp[lO hkn,uS,rI_cut,hw])|(refine sX ?_;simp only[AU,↓reduceIte]))
         simp only[uL hkn,upd_upd];refine sE ?_;exact⟨⟨i+1,out2,nt2,b2,own2,_,nt2+1⟩,⟨hli,by rw[hfold,Sr.stNp,hok,hP];simp,ho2,htk3,Nat.le_succ_of_le hnt2⟩,by simp only;omega,Weaks.mk' (Nat.le_succ_of_le hnt2) (by simp[ToL,lk];exact to_ptr (by rw[lO hkn,uS];simp)) (by simp[BoxL,lk]) (outFd (s:=s) (nl:=nl) (fm:=fm) (N:=N) (E:=[]) (a:=nt2) (b:=b2) (out:=out2) (own:=own2) rfl)⟩
        .try (simp[lO hkn,uS])
         repeat (first|(refine sR ?_;simp[lO hkn,uS])|(refine sC ?_;simp[lO hkn,uS])|(refine sX ?_;simp only[AU,↓reduceIte]))
         refine Stop.of_a (ih (N++[(i:Int)]) out2 nt2 b2 own2 _ _ k _ _ (by simp;omega) ho2 (by simp[lO hkn,uS]) htk3) ?_;rintro v m' ⟨rfl,a3,b3,own3,tok3,nt3,rfl,htk4,hle4⟩;have hle4:nt2+1<=nt3:=hle4
         have hle5:nt<=nt3:=by omega
         simp[uL hkn,upd_upd];try (simp[lO hkn,uS,rI_cut,hw])
         repeat (first|(refine sR ?_;simp[lO hkn,uS,rI_cut,hw])|(refine sC ?_;simp[lO hkn,uS,rI_cut,hw])|(refine sX ?_;simp only[AU,↓reduceIte]))
         simp only[uL hkn,upd_upd];refine sE ?_;exact⟨⟨i+1,s.fnP fm r (N++[(i:Int)]) out2,a3,b3,own3,tok3,nt3⟩,⟨hli,by rw[hfold,Sr.stNp,hok,hP];simp,Sr.fnP_len h ho2,htk4,by omega⟩,by simp only;omega,Weaks.mk' hle5 (by simp[ToL,lk];exact to_ptr (by rw[lO hkn,uS];simp)) (by simp[BoxL,lk]) (outFd (s:=s) (nl:=nl) (fm:=fm) (N:=N) (E:=[]) (a:=a3) (b:=b3) (out:=s.fnP fm r (N++[(i:Int)]) out2) (own:=own3) rfl)⟩
       .have hok:s.okN N i=true:=by rw[hokN,usB,if_neg (by simp[ei])]
        refine sR ?_;simp[lO hkn,uS,p0,hw,hlt,hq,hu,hq2,hu2,isD,hlt1,hlt2,hrow,hcol,hB,ei];refine sC ?_;simp;try (simp[lO hkn,uS])
        repeat (first|(refine sR ?_;simp[lO hkn,uS])|(refine sC ?_;simp[lO hkn,uS])|(refine sX ?_;simp only[AU,↓reduceIte]))
        refine⟨⟨by omega,hta⟩,?_⟩;have htk3:=htk2.app;simp only[uL hkn,upd_upd];have hta3:(upd (upd tok2 a2 false) nt2 true) nt2=true:=uS _ _ _
        have htb3:(upd (upd tok2 a2 false) nt2 true) b2=true:=htk3.swap.live
        have hpos:=possibleF_c s h nl hnl fm (N++[(i:Int)]) [] (by simp;omega) out2;try (simp[lO hkn,uS])
        repeat (first|(refine sR ?_;simp[lO hkn,uS])|(refine sC ?_;simp[lO hkn,uS])|(refine sX ?_;simp only[AU,↓reduceIte]))
        refine Stop.of_r (RCall.lends rfl (fun tok=>hpos tok (nt2+1)) ⟨.ptr (row:=s.rowF nl fm (N++[(i:Int)]) nt2 [] b2 out2 own2) (by simp[lO hkn,uS]) (Sr.row_cds (own:=own2) hta3 htb3),trivial⟩) ?_;cases hP:s.pos (N++[(i:Int)])
        .try (simp[lO hkn,uS,rI_cut,hw])
         repeat (first|(refine sR ?_;simp[lO hkn,uS,rI_cut,hw])|(refine sC ?_;simp[lO hkn,uS,rI_cut,hw])|(refine sX ?_;simp only[AU,↓reduceIte]))
         simp only[uL hkn,upd_upd];refine sE ?_;exact⟨⟨i+1,out2,nt2,b2,own2,_,nt2+1⟩,⟨hli,by rw[hfold,Sr.stNp,hok,hP];simp,ho2,htk3,Nat.le_succ_of_le hnt2⟩,by simp only;omega,Weaks.mk' (Nat.le_succ_of_le hnt2) (by simp[ToL,lk];exact to_ptr (by rw[lO hkn,uS];simp)) (by simp[BoxL,lk]) (outFd (s:=s) (nl:=nl) (fm:=fm) (N:=N) (E:=[]) (a:=nt2) (b:=b2) (out:=out2) (own:=own2) rfl)⟩
        .try (simp[lO hkn,uS])
         repeat (first|(refine sR ?_;simp[lO hkn,uS])|(refine sC ?_;simp[lO hkn,uS])|(refine sX ?_;simp only[AU,↓reduceIte]))
         refine Stop.of_a (ih (N++[(i:Int)]) out2 nt2 b2 own2 _ _ k _ _ (by simp;omega) ho2 (by simp[lO hkn,uS]) htk3) ?_;rintro v m' ⟨rfl,a3,b3,own3,tok3,nt3,rfl,htk4,hle4⟩;have hle4:nt2+1<=nt3:=hle4
         have hle5:nt<=nt3:=by omega
         simp[uL hkn,upd_upd];try (simp[lO hkn,uS,rI_cut,hw])
         repeat (first|(refine sR ?_;simp[lO hkn,uS,rI_cut,hw])|(refine sC ?_;simp[lO hkn,uS,rI_cut,hw])|(refine sX ?_;simp only[AU,↓reduceIte]))
         simp only[uL hkn,upd_upd];refine sE ?_;exact⟨⟨i+1,s.fnP fm r (N++[(i:Int)]) out2,a3,b3,own3,tok3,nt3⟩,⟨hli,by rw[hfold,Sr.stNp,hok,hP];simp,Sr.fnP_len h ho2,htk4,by omega⟩,by simp only;omega,Weaks.mk' hle5 (by simp[ToL,lk];exact to_ptr (by rw[lO hkn,uS];simp)) (by simp[BoxL,lk]) (outFd (s:=s) (nl:=nl) (fm:=fm) (N:=N) (E:=[]) (a:=a3) (b:=b3) (out:=s.fnP fm r (N++[(i:Int)]) out2) (own:=own3) rfl)⟩
   .have:i=s.g.nodes.length:=by omega
    subst this;try (simp[lO hkn,uS])
    repeat (first|(refine sR ?_;simp[lO hkn,uS])|(refine sC ?_;simp[lO hkn,uS])|(refine sX ?_;simp only[AU,↓reduceIte]))
    refine sN ?_;refine sE ?_;refine⟨by simp,(Fin.gen (vs:=[]) (av:=.tup []) (tok':=tok2) (nt':=nt2) (by simp[resAs,resA]) ?_ hnt2 (nr _) (fun t h=>⟨h,.inl rfl⟩) (outFd (by simp)) (by simp)).mono fun v m hq=>⟨hq.1,a2,b2,own2,tok2,nt2,?_,htk2,hnt2⟩⟩
    .rw[<-uL hkn,Hb]
    .rw[hq.2,Sr.fnP,fndN,if_neg hbig,hout];rfl
theorem to_frzW{p q:Nat->Prop}{k n:Nat}{L:List Bool}(h:L.length=n):To p q (some (k,1,L.map fun b=>[D.raw (.bool b)])) (.msl k 0 n 1) (.d (blB L)):=by
 have h2:=To.frz (p:=p) (q:=q) (fz:=some (k,1,L.map fun b=>[D.raw (.bool b)])) (k:=k) (sz:=1) (es:=L.map fun b=>[D.raw (.bool b)]) rfl;have:(L.map fun b=>[D.raw (.bool b)]).length=n:=by simp[h]
 rw[this] at h2;exact h2
def mkB(n:Nat)(l:List Int):List Bool:=(List.range n).map fun (b:Nat)=>decide ((b:Int)∈l)
theorem mkB_len(n:Nat)(l:List Int):(mkB n l).length=n:=by simp[mkB]
theorem mkB_nil(n:Nat):List.replicate n [B false]=rowsB (mkB n []):=by
 refine List.ext_getElem (by simp[mkB]) fun i h1 h2=>?_
 simp[rowsB,mkB]
theorem mkB_set{n:Nat}{l:List Int}{v:Int}(h0:0<=v):(mkB n l).set v.toNat true=mkB n (l++[v]):=by
 refine List.ext_getElem (by simp[mkB]) fun i h1 h2=>?_
 rw[List.getElem_set];simp only[mkB,List.getElem_map,List.getElem_range,List.mem_append,List.mem_singleton];by_cases e:v.toNat=i
 .rw[if_pos e];have:(i:Int)=v:=by omega
  simp[this]
 .rw[if_neg e];have:¬(i:Int)=v:=by omega
  simp[this]
theorem mkB_row(t:Ty)(a:Nat):mkB t.nodes.length (belK t (a:Int) t.nodes.length)=isRow t a:=by
 refine List.ext_getElem (by simp[mkB,isRow]) fun i h1 h2=>?_
 simp only[mkB,isRow,List.getElem_map,List.getElem_range];have hi:i<t.nodes.length:=by simpa[mkB] using h1
 unfold belK;by_cases h:isB t (i:Int) (a:Int)=true
 .rw[h,decide_eq_true_eq];exact List.mem_map.2 ⟨i,List.mem_filter.2 ⟨List.mem_range.2 hi,h⟩,rfl⟩
 .simp only[Bool.not_eq_true] at h;rw[h,decide_eq_false_iff_not];intro hm;obtain⟨x,hx,e⟩:=List.mem_map.1 hm;obtain⟨_,hx⟩:=List.mem_filter.1 hx;have:x=i:=by omega
  subst this;rw[h] at hx;cases hx
theorem isTb_take{t:Ty}{i:Nat}(h:i<t.nodes.length):(isTb t).take (i+1)=(isTb t).take i++[isRow t i]:=by
 have hl:i<(isTb t).length:=by simp[isTb];exact h
 rw[List.take_succ_eq_append_getElem hl,isD_row h]
def isRs(t:Ty)(i:Nat):List (List D):=((isTb t).take i).map fun r=>[blB r]
theorem isRs_succ{t:Ty}{i:Nat}(h:i<t.nodes.length):isRs t (i+1)=isRs t i++[[blB (isRow t i)]]:=by
 unfold isRs;rw[isTb_take h,List.map_append];rfl
theorem isRs_len(t:Ty)(i:Nat):(isRs t i).length<=i:=by unfold isRs;rw[List.length_map,List.length_take];omega
def stBl(t:Ty)(nb:Nat)(box:Bxs)(x:Acc):AS :=
 ⟨tl [(13,I x.i),(12,I t.nodes.length),(11,.d (nts t.nodes)),(3,.osl 1 (isRs t x.i) x.own),(1,.ptr (nb+1) 0 0)],lb nb box [(1,[[.d (nts t.nodes),.d (ets t.edges)]])],x.tok,x.nt⟩
def stBm(t:Ty)(i:Nat)(L:List Int)(own:Own)(nb:Nat)(box:Bxs)(tok:Tks)(nt:Nat)(j:Nat):AS :=
 ⟨tl [(28,I j),(27,I L.length),(26,.d (ints L)),(5,.msl (nb+19) 0 t.nodes.length 1),(13,I i),(12,I t.nodes.length),(11,.d (nts t.nodes)),(3,.osl 1 (isRs t i) own),(1,.ptr (nb+1) 0 0)],
  lb nb box [(19,rowsB (mkB t.nodes.length (L.take j))),(1,[[.d (nts t.nodes),.d (ets t.edges)]])],tok,nt⟩
theorem belowF_c(t:Ty)(ht:t.Fit)(h0:tyE t=0):DC 285 [t.av] (.d (isD t)):=by
 intro tok nt box nb;have htn:=ht.n;have hb:=fun a=>below_c t ht a
 refine sI func285 ntmps285 fun Hb Ht=>?_
 repeat first|simp|refine sR ?_
 refine sN ?_;refine sL (stBl t nb box) (fun x=>x.i<=t.nodes.length/\TK tok nt x.tok x.nt [x.own]) (fun x=>t.nodes.length-x.i) ⟨0,.full,tok,nt⟩ ⟨Nat.zero_le _,(TK.start Ht).full⟩ (wM (nr _) rfl (by simp[ToL,lk,isRs]) (by simp[BoxL,lk])) ?_;rintro⟨i,own,tok',nt'⟩ S ⟨hi,htk⟩ hS;simp only[stBl] at hS hi htk;subst hS;have hw:=sW (i:=i) (by omega);by_cases hlt:i<t.nodes.length
 .have hrow:=mkB_row t i;have hs:=isRs_succ hlt;have hsl:=isRs_len t i;have hlR:belR t (i:Int)=(belK t (i:Int) t.nodes.length,0):=by
   unfold belR;rw[givE_leaf h0 (by omega),if_neg (by omega)]
  have hLn:∀v∈belK t (i:Int) t.nodes.length,0<=v/\v<t.nodes.length:=by
   intro v hv;unfold belK at hv;simp only[List.mem_map,List.mem_filter,List.mem_range] at hv;obtain⟨x,⟨hx,_⟩,rfl⟩:=hv;omega
  have hLl:=belK_len t (i:Int) t.nodes.length;have hbi:=hb (i:Int);rw[hlR] at hbi;generalize belK t (i:Int) t.nodes.length=L at *;try (simp[hlt])
  repeat (first|(refine sR ?_;simp[hlt])|(refine sC ?_;simp[hlt])|(refine sX ?_;simp only[AU,↓reduceIte]))
  refine⟨by omega,?_⟩;try (simp)
  repeat (first|(refine sR ?_;simp)|(refine sC ?_;simp)|(refine sX ?_;simp only[AU,↓reduceIte]))
  refine sD (hbi _ _) ?_;simp;try (simp)
  repeat (first|(refine sR ?_;simp)|(refine sC ?_;simp)|(refine sX ?_;simp only[AU,↓reduceIte]))
  refine sN ?_;refine sL (stBm t i L own nb box tok' nt') (fun j=>j<=L.length) (fun j=>L.length-j) 0 (Nat.zero_le _) (wM htk.le rfl (by simp[ToL,lk]) (by simp[BoxL,lk,mkB_nil])) ?_;rintro j S hj hS;simp only[stBm] at hS;subst hS;have hwj:=sW (i:=j) (by omega);by_cases hlj:j<L.length
  .obtain⟨v0,v1⟩:=hLn _ (List.getElem_mem hlj);have hset:(mkB t.nodes.length (L.take j)).set L[j].toNat true=mkB t.nodes.length (L.take (j+1)):=by
    rw[mkB_set v0,<-List.take_succ_eq_append_getElem hlj]
   have hml:=mkB_len t.nodes.length (L.take j);have v2:L[j].toNat<t.nodes.length:=by omega
   try (simp[hlj,v0,v1,v2,hml,hwj])
   repeat (first|(refine sR ?_;simp[hlj,v0,v1,v2,hml,hwj])|(refine sC ?_;simp[hlj,v0,v1,v2,hml,hwj])|(refine sX ?_;simp only[AU,↓reduceIte]))
   refine sE ?_;exact⟨j+1,hlj,by omega,wM htk.le rfl (by simp[ToL,lk]) (by simp[BoxL,lk,hset])⟩
  .have:j=L.length:=by omega
   subst this;rw[List.take_length,hrow];refine sR ?_;simp;refine sC ?_;simp;refine sX ?_;simp only[AU,↓reduceIte];have hrl:(isRow t i).length=t.nodes.length:=by simp[isRow]
   refine AL.weak (Weaks.frz (l':=[(5,.d (blB (isRow t i))),(13,I i),(12,I t.nodes.length),(11,.d (nts t.nodes)),(3,.osl 1 (isRs t i) own),(1,.ptr (nb+1) 0 0)]) (loc':=[(1,[[.d (nts t.nodes),.d (ets t.edges)]])]) 19 1 ((isRow t i).map fun b=>[D.raw (.bool b)]) htk.le rfl (by simp[lk,rowsB_eq]) (by simp[lk]) (fun e he=>by obtain⟨b,_,rfl⟩:=List.mem_map.1 he;rfl) (by simp[ToL,lk,lb_at];exact to_frzW hrl) (by simp[BoxL,lk])) ?_;try (simp)
   repeat (first|(refine sR ?_;simp)|(refine sC ?_;simp)|(refine sX ?_;simp only[AU,↓reduceIte]))
   refine⟨⟨by omega,htk.live⟩,?_⟩;try (simp[hw])
   repeat (first|(refine sR ?_;simp[hw])|(refine sC ?_;simp[hw])|(refine sX ?_;simp only[AU,↓reduceIte]))
   refine sE ?_;exact⟨⟨i+1,_,_,_⟩,⟨hlt,htk.app⟩,by simp only;omega,wM htk.app.le rfl (by simp[ToL,lk,hs]) (by simp[BoxL,lk])⟩
 .have:i=t.nodes.length:=by omega
  subst this;have htl:isRs t t.nodes.length=(isTb t).map fun r=>[blB r]:=by unfold isRs;rw[List.take_of_length_le (by simp[isTb])]
  rw[htl];try (simp)
  repeat (first|(refine sR ?_;simp)|(refine sC ?_;simp)|(refine sX ?_;simp only[AU,↓reduceIte]))
  refine sN ?_;refine AL.ret ?_;try simp only[AU]
  exact⟨by simp,Fin.data (av:=.d (isD t)) (by simp[resAs,resA];rfl) Hb rfl Ht htk.old htk.le (by simp[isD])⟩
theorem within1_c(x:Int)(box:Bxs)(nb k:Nat)(tok:Tks)(nt:Nat)(t:Ty)(hk:box k=some [[.d (nts t.nodes),.d (ets t.edges)]]):
  ACalls prog 283 [I x,.ptr k 0 0] ⟨box,nb,tok,nt⟩ fun v m=>v=B (decide ((t.nodes.length:Int)<=x))/\m=⟨box,nb,tok,nt⟩:=by
 refine sI func283 ntmps283 fun Hb Ht=>?_
 have kn:=key_lt Hb hk;repeat first|simp[lO kn,hk]|refine sR ?_
 refine sT (sH Hb Ht ?_);simp
theorem within2_c(x:E)(box:Bxs)(nb k:Nat)(tok:Tks)(nt:Nat)(t:Ty)(hk:box k=some [[.d (nts t.nodes),.d (ets t.edges)]]):
  ACalls prog 284 [.agg [I x.ty,I x.fr,I x.to],.ptr k 0 0] ⟨box,nb,tok,nt⟩ fun v m=>v=B (decide ((t.edges.length:Int)<=x.ty))/\m=⟨box,nb,tok,nt⟩:=by
 refine sI func284 ntmps284 fun Hb Ht=>?_
 have kn:=key_lt Hb hk;repeat first|simp[lO kn,hk]|refine sR ?_
 refine sT (sH Hb Ht ?_);simp
def wiN(t:Ty)(x:Int):Bool:=decide ((t.nodes.length:Int)<=x)
def wiX(t:Ty)(x:E):Bool:=decide ((t.edges.length:Int)<=x.ty)
theorem typG_wi{t:Ty}{g:Gr}(hv:vG g=0):typG t g=(!anyB (wiN t) g.nodes&&!anyB (wiX t) g.edges):=by
 obtain⟨_,h1,h2⟩:=validG_types hv;unfold typG anyB;congr 1
 .rw[Bool.eq_iff_iff,List.all_eq_true,Bool.not_eq_true',List.any_eq_false];refine⟨fun h x hx=>?_,fun h x hx=>?_⟩
  .have:=h x hx
   simp[typN,wiN] at this ⊢;omega
  .have a:=h x hx;have b:=h1 x hx;simp[typN,wiN,withinB] at a b ⊢;omega
 .rw[Bool.eq_iff_iff,List.all_eq_true,Bool.not_eq_true',List.any_eq_false];refine⟨fun h x hx=>?_,fun h x hx=>?_⟩
  .have:=h x hx
   simp[typX,wiX] at this ⊢;omega
  .have a:=h x hx;have b:=h2 x hx;simp[typX,wiX,fitsB,withinB] at a b ⊢;omega
theorem withinF_c(t:Ty)(ht:t.Fit)(g:Gr)(hg:g.Fit)(hv:vG g=0):DC 239 [t.av,g.av] (B (typG t g)):=by
 intro tok nt box nb;have h1:=fun y box nb k tok nt hbk=>within1_c y box nb k tok nt t hbk
 have h2:=fun y box nb k tok nt hbk=>within2_c y box nb k tok nt t hbk
 rw[typG_wi hv];obtain⟨p,hp⟩:∃p,wiN t=p:=⟨_,rfl⟩
 obtain⟨q,hq⟩:∃q,wiX t=q:=⟨_,rfl⟩
 have e1:∀y,decide ((t.nodes.length:Int)<=y)=p y:=fun y=>by rw[<-hp];rfl
 have e2:∀y:E,decide ((t.edges.length:Int)<=y.ty)=q y:=fun y=>by rw[<-hq];rfl
 simp only[e1] at h1;simp only[e2] at h2;rw[hp,hq];have hgn:=hg.n;have hge:=hg.e;refine sI func239 ntmps239 fun Hb Ht=>?_
 repeat first|simp|refine sR ?_
 refine Stop.of_b (containsFunc_c g.nodes 283 [.ptr (nb+2) 0 0] p hgn _ _ _ _ (fun c hc=>by rw[List.mem_singleton.1 hc];simp[lb_at]) (fun y hy box' nb' he=>h1 y box' nb' _ _ _ (he _ _ (by simp[lb_at])))) ?_;simp;cases c1:anyB p g.nodes
 .repeat first|simp|refine sR ?_
  refine Stop.of_b (containsFuncE_c g.edges 284 [.ptr (nb+2) 0 0] q hge _ _ _ _ (fun c hc=>by rw[List.mem_singleton.1 hc];simp[lb_at]) (fun y hy box' nb' he=>h2 y box' nb' _ _ _ (he _ _ (by simp[lb_at])))) ?_;repeat first|simp|refine sR ?_
  refine sT (sH Hb Ht ?_);simp
 .repeat first|simp|refine sR ?_
  refine sT (sH Hb Ht ?_);simp
def QFo(s:Sr)(fm:Nat)(box:Bxs)(nb:Nat)(tok:Tks)(nt:Nat)(v:AV)(m:AMem):Prop :=
 ∃own' tok' nt',v=.osl 2 (mosR (s.fnP fm s.p.nodes.length [] [])) own'/\m=⟨box,nb,tok',nt'⟩/\TK tok nt tok' nt' [own']
set_option maxRecDepth 100000 in
theorem foundF_c(s:Sr)(h:s.Ok)(h0:tyE s.t=0)(nl:Bool)(hnl:s.Nl nl)(fm:Nat)(hfm:fm<=1000000)(box:Bxs)(nb:Nat)(tok:Tks)(nt:Nat):
  ACalls prog 240 [s.t.av,s.p.av,s.g.av,.agg [.d (ptD nl s.pt.nodes),.d (ptD nl s.pt.edges)],B s.inj,I fm] ⟨box,nb,tok,nt⟩ (QFo s fm box nb tok nt):=by
 have hb:=belowF_c s.t h.t h0;refine sI func240 ntmps240 fun Hb Ht=>?_
 repeat first|simp|refine sR ?_
 refine sD (hb _ _) ?_;simp;refine AL.weak (wM (l':=[(13,.ptr (nb+22) 0 0)]) (loc':=[(22,[[.d (ints s.p.nodes),.d (AM.edges s.p.edges),.d (ints s.g.nodes),.d (AM.edges s.g.edges),.d (isD s.t),.d (ptD nl s.pt.nodes),.d (ptD nl s.pt.edges),B s.inj,I fm,.osl 0 [] .full,.osl 0 [] .full,.osl 2 [] .full]])]) (nr _) rfl (by simp[ToL,lk]) (by simp[BoxL,lk])) ?_;refine AL.trans (Trans.opn (l':=[(13,.ptr (nb+22) 0 0)]) (loc':=[(22,[[.d (ints s.p.nodes),.d (AM.edges s.p.edges),.d (ints s.g.nodes),.d (AM.edges s.g.edges),.d (isD s.t),.d (ptD nl s.pt.nodes),.d (ptD nl s.pt.edges),B s.inj,I fm,.stk nt 1 [],.osl 0 [] .full,.osl 2 [] .full]])]) 1 (by simp[CvL]) ⟨rfl,cvRs_one (cvR_cons .same (cvR_cons .same (cvR_cons .same (cvR_cons .same (cvR_cons .same (cvR_cons .same (cvR_cons .same (cvR_cons .same (cvR_cons .same (cvR_cons .nil (cvR_cons .same (cvR_cons .same cvR_nil)))))))))))),trivial⟩) ?_;refine AL.trans (Trans.opn (l':=[(13,.ptr (nb+22) 0 0)]) (loc':=[(22,[[.d (ints s.p.nodes),.d (AM.edges s.p.edges),.d (ints s.g.nodes),.d (AM.edges s.g.edges),.d (isD s.t),.d (ptD nl s.pt.nodes),.d (ptD nl s.pt.edges),B s.inj,I fm,.stk nt 1 [],.stk (nt+1) 1 [],.osl 2 [] .full]])]) 1 (by simp[CvL]) ⟨rfl,cvRs_one (cvR_cons .same (cvR_cons .same (cvR_cons .same (cvR_cons .same (cvR_cons .same (cvR_cons .same (cvR_cons .same (cvR_cons .same (cvR_cons .same (cvR_cons .same (cvR_cons .nil (cvR_cons .same cvR_nil)))))))))))),trivial⟩) ?_;have htk0:=(TK.start Ht).full.full.full.app.swap.app.swap;repeat first|simp|refine sR ?_
 refine Stop.of_a (findN_c s h nl hnl fm hfm tok nt s.p.nodes.length [] [] nt (nt+1) .full _ _ (nb+22) _ _ (by simp) (by simp) (by simp[lb_at]) htk0) ?_;rintro v m' ⟨rfl,a,b,own,tok2,nt2,rfl,htk2,hle⟩;try (simp)
 repeat (first|(refine sR ?_;simp)|(refine sC ?_;simp)|(refine sX ?_;simp only[AU,↓reduceIte]))
 refine sN ?_;refine AL.ret ?_;try simp only[AU]
 have htk3:=htk2.tail.tail;exact⟨by simp,(Fin.gen (av:=.osl 2 (mosR (s.fnP fm s.p.nodes.length [] [])) own) (tok':=tok2) (nt':=nt2) (by simp[resAs,resA];rfl) Hb htk3.le (nr _) (fun t h=>⟨h,.inl rfl⟩) (fun k rows _ h=>.inl h) (by simp)).mono fun v m hq=>⟨own,tok2,nt2,hq.1,hq.2,htk3⟩⟩
def stVf(t:Ty)(p g:Gr)(nb:Nat)(box:Bxs)(tok:Tks)(nt:Nat)(i:Nat):AS :=
 ⟨tl [(24,I i),(23,I 2),(22,.d (.sl 2 [[ints p.nodes,AM.edges p.edges],[ints g.nodes,AM.edges g.edges]])),(5,.ptr (nb+5) 0 0),(4,.ptr (nb+4) 0 0),(3,.ptr (nb+3) 0 0)],lb nb box [(5,[[.d (ints g.nodes),.d (AM.edges g.edges)]]),(4,[[.d (ints p.nodes),.d (AM.edges p.edges)]]),(3,[[.d (nts t.nodes),.d (ets t.edges)]])],tok,nt⟩
theorem validF_c(t:Ty)(ht:t.Fit)(p g:Gr)(hp:p.Fit)(hg:g.Fit):DC 178 [t.av,p.av,g.av] (I (givS t p g)):=by
 intro tok nt box nb;have hv:=valid_c4 t ht ht.hM;have h1:=graphValid_c p hp;have h2:=graphValid_c g hg;have h3:=withinF_c t ht p hp;have h4:=withinF_c t ht g hg;obtain⟨R,hR⟩:∃R,givS t p g=R:=⟨_,rfl⟩
 rw[hR];unfold givS at hR;generalize tyE t=E at *;generalize vG p=V at *;generalize vG g=W at *;refine sI func178 ntmps178 fun Hb Ht=>?_
 repeat first|simp|refine sR ?_
 refine sD (hv _ _) ?_;simp;by_cases e0:E=0
 .rw[if_neg (by simp[e0])] at hR;try (simp[e0])
  repeat (first|(refine sR ?_;simp[e0])|(refine sC ?_;simp[e0])|(refine sX ?_;simp only[AU,↓reduceIte]))
  refine⟨rfl,?_⟩;try (simp)
  repeat (first|(refine sR ?_;simp)|(refine sC ?_;simp)|(refine sX ?_;simp only[AU,↓reduceIte]))
  refine sN ?_;refine sL (stVf t p g nb box tok nt) (fun i=>i<=2/\(1<=i->V=0)/\(2<=i->W=0)) (fun i=>2-i) 0 ⟨by omega,by omega,by omega⟩ wkA ?_;rintro i S ⟨hi,g0,g1⟩ hS;simp only[stVf] at hS;subst hS;have h012:i=0∨i=1∨i=2:=by omega
  rcases h012 with rfl|rfl|rfl
  .try (simp)
   repeat (first|(refine sR ?_;simp)|(refine sC ?_;simp)|(refine sX ?_;simp only[AU,↓reduceIte]))
   refine sD (h1 _ _) ?_;simp;by_cases c:V=0
   .try (simp[c,show IntKind.i64.wrap 1=1 from rfl])
    repeat (first|(refine sR ?_;simp[c,show IntKind.i64.wrap 1=1 from rfl])|(refine sC ?_;simp[c,show IntKind.i64.wrap 1=1 from rfl])|(refine sX ?_;simp only[AU,↓reduceIte]))
    refine sE ?_;exact⟨1,⟨by omega,fun h=>by omega⟩,by decide,wkA⟩
   .have b:(V != 0)=true:=by simp[c]
    rw[if_pos c] at hR;try (simp[b])
    repeat (first|(refine sR ?_;simp[b])|(refine sC ?_;simp[b])|(refine sX ?_;simp only[AU,↓reduceIte]))
    refine sT (sH Hb Ht ?_);simp[hR]
  .try (simp)
   repeat (first|(refine sR ?_;simp)|(refine sC ?_;simp)|(refine sX ?_;simp only[AU,↓reduceIte]))
   refine sD (h2 _ _) ?_;simp;by_cases c:W=0
   .try (simp[c,show IntKind.i64.wrap 2=2 from rfl])
    repeat (first|(refine sR ?_;simp[c,show IntKind.i64.wrap 2=2 from rfl])|(refine sC ?_;simp[c,show IntKind.i64.wrap 2=2 from rfl])|(refine sX ?_;simp only[AU,↓reduceIte]))
    refine sE ?_;exact⟨2,⟨by omega,fun _=>g0 (by omega)⟩,by decide,wkA⟩
   .have b:(W != 0)=true:=by simp[c]
    have g0:=g0 (by omega);rw[if_neg (by simp[g0]),if_pos c] at hR;try (simp[b])
    repeat (first|(refine sR ?_;simp[b])|(refine sC ?_;simp[b])|(refine sX ?_;simp only[AU,↓reduceIte]))
    refine sT (sH Hb Ht ?_);simp[hR]
  .have g0:=g0 (by omega);have g1:=g1 (by omega);rw[if_neg (by simp[g0]),if_neg (by simp[g1])] at hR;have h3:=h3 g0;have h4:=h4 g1;try (simp)
   repeat (first|(refine sR ?_;simp)|(refine sC ?_;simp)|(refine sX ?_;simp only[AU,↓reduceIte]))
   refine sD (h3 _ _) ?_;simp;cases e3:typG t p
   .rw[e3,if_pos rfl] at hR;try (simp)
    repeat (first|(refine sR ?_;simp)|(refine sC ?_;simp)|(refine sX ?_;simp only[AU,↓reduceIte]))
    refine sT (sH Hb Ht ?_);simp[hR]
   .rw[e3,if_neg (by simp)] at hR;try (simp)
    repeat (first|(refine sR ?_;simp)|(refine sC ?_;simp)|(refine sX ?_;simp only[AU,↓reduceIte]))
    refine sD (h4 _ _) ?_;simp;cases e4:typG t g
    .rw[e4,if_pos rfl] at hR;try (simp)
     repeat (first|(refine sR ?_;simp)|(refine sC ?_;simp)|(refine sX ?_;simp only[AU,↓reduceIte]))
     refine sT (sH Hb Ht ?_);simp[hR]
    .rw[e4,if_neg (by simp)] at hR;try (simp)
     repeat (first|(refine sR ?_;simp)|(refine sC ?_;simp)|(refine sX ?_;simp only[AU,↓reduceIte]))
     refine sT (sH Hb Ht ?_);simp[hR]
 .rw[if_pos e0] at hR;have b:(E != 0)=true:=by simp[e0]
  try (simp[b])
  repeat (first|(refine sR ?_;simp[b])|(refine sC ?_;simp[b])|(refine sX ?_;simp only[AU,↓reduceIte]))
  refine sT (sH Hb Ht ?_);simp[hR]
theorem opM_nl{t:Ty}{p g:Gr}{inj:Bool}:(allSr t p g inj).Nl true:=by
 constructor
 .intro _ x hx;exact List.eq_of_mem_replicate hx
 .intro _ x hx;exact List.eq_of_mem_replicate hx
def QAl(s:Sr)(box:Bxs)(nb:Nat)(tok:Tks)(nt:Nat)(L:List Mo)(v:AV)(m:AMem):Prop :=
 m=⟨box,nb,tok,nt⟩/\(5000<L.length/\v=.tup [.osl 0 [] .full,I 3]∨¬5000<L.length/\v=.tup [.d (.sl 2 (mosR L)),I 0])
set_option maxRecDepth 100000 in
theorem allF_c(s:Sr)(h:s.Ok)(h0:tyE s.t=0)(nl:Bool)(hnl:s.Nl nl)(hm:s.most=5000)(tok:Tks)(nt:Nat):
  ∀box nb,ACalls prog 179 [s.t.av,s.p.av,s.g.av,.agg [.d (ptD nl s.pt.nodes),.d (ptD nl s.pt.edges)],B s.inj] ⟨box,nb,tok,nt⟩ (QAl s box nb tok nt (s.fnR s.p.nodes.length [] [])):=by
 intro box nb;have hf:=s.fnP_fnR h;rw[hm] at hf;have hfo:=foundF_c s h h0 nl hnl 5001 (by omega);have hln:(s.fnP 5001 s.p.nodes.length [] []).length<=5001:=Sr.fnP_len h (by simp)
 rw[<-hf];refine sI func179 ntmps179 fun Hb Ht=>?_
 repeat first|simp|refine sR ?_
 refine Stop.of_a (hfo _ _ _ _) ?_;rintro v m' ⟨own,tok2,nt2,rfl,rfl,htk⟩;generalize s.fnP 5001 s.p.nodes.length [] []=L at *;by_cases hbig:5000<L.length
 .have b:decide ((5000:Int)<(L.length:Int))=true:=by simp;omega
  try (simp[b])
  repeat (first|(refine sR ?_;simp[b])|(refine sC ?_;simp[b])|(refine sX ?_;simp only[AU,↓reduceIte]))
  refine sN ?_;refine AL.ret ?_;try simp only[AU]
  exact⟨by simp,(Fin.data (av:=.tup [.osl 0 [] .full,I 3]) (by simp[resAs,resA];rfl) Hb rfl Ht htk.old htk.le (by simp)).mono fun v m hq=>⟨hq.2,.inl ⟨hbig,hq.1⟩⟩⟩
 .have b:decide ((5000:Int)<(L.length:Int))=false:=by simp;omega
  try (simp[b])
  repeat (first|(refine sR ?_;simp[b])|(refine sC ?_;simp[b])|(refine sX ?_;simp only[AU,↓reduceIte]))
  refine sN ?_;refine AL.ret ?_;try simp only[AU]
  exact⟨by simp,(Fin.data (av:=.tup [.d (.sl 2 (mosR L)),I 0]) (by simp[resAs,resA];rfl) Hb rfl Ht htk.old htk.le (by simp)).mono fun v m hq=>⟨hq.2,.inr ⟨hbig,hq.1⟩⟩⟩
set_option maxRecDepth 100000 in
theorem allF2_c(t:Ty)(ht:t.Fit)(p g:Gr)(hp:p.Fit)(hg:g.Fit)(inj:Bool):DC 109 [t.av,p.av,g.av,B inj] (.tup [.d (.sl 2 (mosR (allS t p g inj).1)),I (allS t p g inj).2]):=by
 intro tok nt box nb;have hv:=validF_c t ht p g hp hg;have main:ACalls prog 109 [t.av,p.av,g.av,B inj] ⟨box,nb,tok,nt⟩ fun v m=>(v=.tup [.d (.sl 2 (mosR (allS t p g inj).1)),I (allS t p g inj).2]∨(allS t p g inj).1=[]/\v=.tup [.osl 0 [] .full,I (allS t p g inj).2])/\m=⟨box,nb,tok,nt⟩:=by
  refine sI func109 ntmps109 fun Hb Ht=>?_
  repeat first|simp|refine sR ?_
  refine sD (hv _ _) ?_;simp;by_cases c1:givS t p g=0
  .have hok:=allSr_ok (inj:=inj) ht hp hg c1;have h0:tyE t=0:=by
    unfold givS at c1;split at c1
    .rename_i e;exact absurd c1 e
    .rename_i e;simpa using e
   have hR:allS t p g inj=if 5000<(allL t p g inj).length then ([],3) else (allL t p g inj,0):=by unfold allS;rw[if_neg (by simp[c1])]
   have hall:=allF_c (allSr t p g inj) hok h0 true opM_nl rfl;have hL:(allSr t p g inj).fnR (allSr t p g inj).p.nodes.length [] []=allL t p g inj:=rfl
   rw[hL] at hall;try (simp[c1])
   repeat (first|(refine sR ?_;simp[c1])|(refine sC ?_;simp[c1])|(refine sX ?_;simp only[AU,↓reduceIte]))
   refine Stop.sub (args':=[t.av,p.av,g.av,.agg [.d (.raw nilV),.d (.raw nilV)],B inj]) ⟨Sub.refl _,Sub.refl _,Sub.refl _,Sub.agg ⟨Sub.nilv,Sub.nilv,trivial⟩,Sub.refl _,trivial⟩ ?_;refine Stop.of_a (hall _ _ _ _) ?_;generalize allL t p g inj=L at *;rintro v m' ⟨rfl,⟨hb,rfl⟩|⟨hb,rfl⟩⟩
   .rw[if_pos hb] at hR;try (simp)
    repeat (first|(refine sR ?_;simp)|(refine sC ?_;simp)|(refine sX ?_;simp only[AU,↓reduceIte]))
    refine sN ?_;refine AL.ret ?_;try simp only[AU]
    exact⟨by simp,(Fin.data (av:=.tup [.osl 0 [] .full,I 3]) (by simp[resAs,resA];rfl) Hb rfl Ht (fun _ h=>h) (nr _) (by simp)).mono fun v m hq=>⟨.inr ⟨by rw[hR],by rw[hR,hq.1]⟩,hq.2⟩⟩
   .rw[if_neg hb] at hR;try (simp)
    repeat (first|(refine sR ?_;simp)|(refine sC ?_;simp)|(refine sX ?_;simp only[AU,↓reduceIte]))
    refine sN ?_;refine AL.ret ?_;try simp only[AU]
    exact⟨by simp,(Fin.data (av:=.tup [.d (.sl 2 (mosR L)),I 0]) (by simp[resAs,resA];rfl) Hb rfl Ht (fun _ h=>h) (nr _) (by simp)).mono fun v m hq=>⟨.inl (by rw[hR,hq.1]),hq.2⟩⟩
  .have hR:allS t p g inj=([],givS t p g):=by unfold allS;rw[if_pos c1]
   try (simp[c1])
   repeat (first|(refine sR ?_;simp[c1])|(refine sC ?_;simp[c1])|(refine sX ?_;simp only[AU,↓reduceIte]))
   refine sN ?_;refine AL.ret ?_;try simp only[AU]
   exact⟨by simp,(Fin.data (av:=.tup [.osl 0 [] .full,I (givS t p g)]) (by simp[resAs,resA];rfl) Hb rfl Ht (fun _ h=>h) (nr _) (by simp)).mono fun v m hq=>⟨.inr ⟨by rw[hR],by rw[hR,hq.1]⟩,hq.2⟩⟩
 refine main.conv fun v m h=>?_
 obtain⟨rfl|⟨h1,rfl⟩,rfl⟩:=h
 .exact⟨_,_,Conv.refl _ _,rfl,rfl⟩
 .refine⟨_,_,Conv.sub (v':=.tup [.d (.sl 2 (mosR (allS t p g inj).1)),I (allS t p g inj).2]) (Sub.tup ⟨?_,Sub.refl _,trivial⟩),rfl,rfl⟩;rw[h1];exact Sub.nil _ _ _
def vioB(c:Co)(xt:Mo->Bool)(m:Mo):Bool:=if c.kind=1 then true else !xt m
def vioK(c:Co)(xt:Mo->Bool)(l:List Mo)(i:Nat):List Mo:=(l.take i).filter (vioB c xt)
def vioS(t:Ty)(c:Co)(g:Gr)(xt:Mo->Bool):List Mo × Int :=
 if cnE t c≠0 then ([],cnE t c) else if (allS t c.g g true).2≠0 then ([],(allS t c.g g true).2) else ((allS t c.g g true).1.filter (vioB c xt),0)
theorem vioK_succ{c:Co}{xt:Mo->Bool}{l:List Mo}{i:Nat}(h:i<l.length):vioK c xt l (i+1)=vioK c xt l i++if vioB c xt l[i]=true then [l[i]] else []:=by
 unfold vioK;rw[List.take_succ_eq_append_getElem h,List.filter_append];congr 1
 by_cases e:vioB c xt l[i]=true<;>simp[e]
theorem vioK_len(c:Co)(xt:Mo->Bool)(l:List Mo)(i:Nat):(vioK c xt l i).length<=i:=Nat.le_trans (List.length_filter_le _ _) (by simp;omega)
theorem allS_len(t:Ty)(p g:Gr)(inj:Bool):(allS t p g inj).1.length<=5000:=by
 unfold allS;split
 .simp
 .split
  .simp
  .simp only;omega
def stVk(t:Ty)(c:Co)(g:Gr)(L:List Mo)(xt:Mo->Bool)(nb:Nat)(box:Bxs)(x:Acc):AS :=
 ⟨tl [(33,I x.i),(32,I L.length),(31,.d (.sl 2 (mosR L))),(11,.osl 2 (mosR (vioK c xt L x.i)) x.own),(5,.ptr (nb+5) 0 0),(4,.ptr (nb+4) 0 0),(3,.ptr (nb+3) 0 0)],lb nb box [(5,[[.d (ints g.nodes),.d (AM.edges g.edges)]]),(4,[c.row]),(3,[[.d (nts t.nodes),.d (ets t.edges)]])],x.tok,x.nt⟩
theorem violationsK_c(t:Ty)(ht:t.Fit)(c:Co)(hc:c.Fit)(g:Gr)(hg:g.Fit)(xt:Mo->Bool)(hx:c.kind≠1->∀m∈(allS t c.g g true).1,∀tok nt,DCall prog 110 [t.av,c.av,g.av,m.av] tok nt (B (xt m)) tok nt):DC 47 [t.av,c.av,g.av] (.tup [.d (.sl 2 (mosR (vioS t c g xt).1)),I (vioS t c g xt).2]):=by
 intro tok nt box nb;have hv:=validK_c t ht c hc;have hA:=allF2_c t ht c.g g hc.g hg true;have main:ACalls prog 47 [t.av,c.av,g.av] ⟨box,nb,tok,nt⟩ fun v m=>(v=.tup [.d (.sl 2 (mosR (vioS t c g xt).1)),I (vioS t c g xt).2]∨(vioS t c g xt).1=[]/\v=.tup [.osl 0 [] .full,I (vioS t c g xt).2])/\m=⟨box,nb,tok,nt⟩:=by
  refine sI func47 ntmps47 fun Hb Ht=>?_
  repeat first|simp|refine sR ?_
  refine sD (hv _ _) ?_;simp;by_cases c1:cnE t c=0
  .try (simp[c1])
   repeat (first|(refine sR ?_;simp[c1])|(refine sC ?_;simp[c1])|(refine sX ?_;simp only[AU,↓reduceIte]))
   refine sD (hA _ _) ?_;simp;by_cases c2:(allS t c.g g true).2=0
   .try (simp[c2])
    repeat (first|(refine sR ?_;simp[c2])|(refine sC ?_;simp[c2])|(refine sX ?_;simp only[AU,↓reduceIte]))
    refine sN ?_;have hR:vioS t c g xt=((allS t c.g g true).1.filter (vioB c xt),0):=by unfold vioS;rw[if_neg (by simp[c1]),if_neg (by simp[c2])]
    have hL:=allS_len t c.g g true;generalize (allS t c.g g true).1=L at *;refine sL (stVk t c g L xt nb box) (fun x=>x.i<=L.length/\TK tok nt x.tok x.nt [x.own]) (fun x=>L.length-x.i) ⟨0,.full,tok,nt⟩ ⟨Nat.zero_le _,(TK.start Ht).full⟩ (wM (nr _) rfl (by simp[ToL,lk,vioK]) (by simp[BoxL,lk])) ?_;rintro⟨i,own,tok',nt'⟩ S ⟨hi,htk⟩ hS;simp only[stVk] at hS hi htk;subst hS;have hw:=sW (i:=i) (by omega);have hln:=vioK_len c xt L i;by_cases hlt:i<L.length
    .have hs:=vioK_succ (c:=c) (xt:=xt) hlt;by_cases k1:c.kind=1
     .have b:(c.kind==1)=true:=by simp[k1]
      rw[if_pos (by simp[vioB,k1])] at hs;try (simp[hlt,b])
      repeat (first|(refine sR ?_;simp[hlt,b])|(refine sC ?_;simp[hlt,b])|(refine sX ?_;simp only[AU,↓reduceIte]))
      refine⟨⟨by omega,htk.live⟩,?_⟩;try (simp[hw])
      repeat (first|(refine sR ?_;simp[hw])|(refine sC ?_;simp[hw])|(refine sX ?_;simp only[AU,↓reduceIte]))
      refine sE ?_;exact⟨⟨i+1,_,_,_⟩,⟨hlt,htk.app⟩,by simp only;omega,wM htk.app.le rfl (by simp[ToL,lk,hs]) (by simp[BoxL,lk])⟩
     .have hxi:=hx k1 _ (List.getElem_mem hlt);have b:(c.kind==1)=false:=by simp[k1]
      try (simp[hlt,b])
      repeat (first|(refine sR ?_;simp[hlt,b])|(refine sC ?_;simp[hlt,b])|(refine sX ?_;simp only[AU,↓reduceIte]))
      refine sD (hxi _ _) ?_;cases e:xt L[i]
      .rw[if_pos (by simp[vioB,k1,e])] at hs;try (simp[hlt,b])
       repeat (first|(refine sR ?_;simp[hlt,b])|(refine sC ?_;simp[hlt,b])|(refine sX ?_;simp only[AU,↓reduceIte]))
       refine⟨⟨by omega,htk.live⟩,?_⟩;try (simp[hw])
       repeat (first|(refine sR ?_;simp[hw])|(refine sC ?_;simp[hw])|(refine sX ?_;simp only[AU,↓reduceIte]))
       refine sE ?_;exact⟨⟨i+1,_,_,_⟩,⟨hlt,htk.app⟩,by simp only;omega,wM htk.app.le rfl (by simp[ToL,lk,hs]) (by simp[BoxL,lk])⟩
      .rw[if_neg (by simp[vioB,k1,e]),List.append_nil] at hs;try (simp[hlt,b,hw])
       repeat (first|(refine sR ?_;simp[hlt,b,hw])|(refine sC ?_;simp[hlt,b,hw])|(refine sX ?_;simp only[AU,↓reduceIte]))
       refine sE ?_;exact⟨⟨i+1,_,_,_⟩,⟨hlt,htk⟩,by simp only;omega,wM htk.le rfl (by simp[ToL,lk,hs]) (by simp[BoxL,lk])⟩
    .have:i=L.length:=by omega
     subst this;have hf:vioK c xt L L.length=L.filter (vioB c xt):=by simp[vioK]
     rw[hf];try (simp)
     repeat (first|(refine sR ?_;simp)|(refine sC ?_;simp)|(refine sX ?_;simp only[AU,↓reduceIte]))
     refine sN ?_;refine AL.ret ?_;try simp only[AU]
     refine⟨by simp,(Fin.data (av:=.tup [.d (.sl 2 (mosR (L.filter (vioB c xt)))),I 0]) (by simp[resAs,resA];rfl) Hb rfl Ht htk.old htk.le (by simp)).mono fun v m hq=>⟨.inl (by rw[hR,hq.1]),hq.2⟩⟩
   .have hR:vioS t c g xt=([],(allS t c.g g true).2):=by unfold vioS;rw[if_neg (by simp[c1]),if_pos c2]
    try (simp[c2])
    repeat (first|(refine sR ?_;simp[c2])|(refine sC ?_;simp[c2])|(refine sX ?_;simp only[AU,↓reduceIte]))
    refine sN ?_;refine AL.ret ?_;try simp only[AU]
    refine⟨by simp,(Fin.data (av:=.tup [.osl 0 [] .full,I (allS t c.g g true).2]) (by simp[resAs,resA];rfl) Hb rfl Ht (fun _ h=>h) (nr _) (by simp)).mono fun v m hq=>⟨.inr ⟨by rw[hR],by rw[hR,hq.1]⟩,hq.2⟩⟩
  .have hR:vioS t c g xt=([],cnE t c):=by unfold vioS;rw[if_pos c1]
   try (simp[c1])
   repeat (first|(refine sR ?_;simp[c1])|(refine sC ?_;simp[c1])|(refine sX ?_;simp only[AU,↓reduceIte]))
   refine sN ?_;refine AL.ret ?_;try simp only[AU]
   refine⟨by simp,(Fin.data (av:=.tup [.osl 0 [] .full,I (cnE t c)]) (by simp[resAs,resA];rfl) Hb rfl Ht (fun _ h=>h) (nr _) (by simp)).mono fun v m hq=>⟨.inr ⟨by rw[hR],by rw[hR,hq.1]⟩,hq.2⟩⟩
 refine main.conv fun v m h=>?_
 obtain⟨rfl|⟨h1,rfl⟩,rfl⟩:=h
 .exact⟨_,_,Conv.refl _ _,rfl,rfl⟩
 .refine⟨_,_,Conv.sub (v':=.tup [.d (.sl 2 (mosR (vioS t c g xt).1)),I (vioS t c g xt).2]) (Sub.tup ⟨?_,Sub.refl _,trivial⟩),rfl,rfl⟩;rw[h1];exact Sub.nil _ _ _
def arS(N:List (List Int))(a:Int × Int):List (List Int):=if decide (a.2∈N.getD a.1.toNat [])=true then N else N.set a.1.toNat (N.getD a.1.toNat []++[a.2])
def arP(n:Nat)(A:List (Int × Int))(i:Nat):List (List Int):=(A.take i).foldl arS (List.replicate n [])
theorem arP_zero(n:Nat)(A:List (Int × Int)):arP n A 0=List.replicate n []:=by simp[arP]
theorem arP_succ{n:Nat}{A:List (Int × Int)}{i:Nat}(h:i<A.length):arP n A (i+1)=arS (arP n A i) A[i]:=by
 unfold arP;rw[List.take_succ_eq_append_getElem h,List.foldl_append];rfl
structure RwI (n:Nat) (N:List (List Int)):Prop where
 len:N.length=n
 nod:∀r∈N,r.Nodup
 rng:∀r∈N,∀k∈r,inR n k
theorem RwI.le{n:Nat}{N:List (List Int)}(h:RwI n N):∀r∈N,r.length<=n:=fun r hr=>nodup_len n r (h.nod r hr) (h.rng r hr)
theorem rw_step{n:Nat}{N:List (List Int)}{a:Int × Int}(h:RwI n N)(h1:inR n a.1)(h2:inR n a.2):RwI n (arS N a):=by
 unfold arS;have hl:=h.len;obtain⟨g1,g2⟩:=h1;have hi:a.1.toNat<N.length:=by omega
 have hg:N.getD a.1.toNat []=N[a.1.toNat]:=by simp[hi]
 rw[hg];split
 .exact h
 .rename_i hc;have hm:=List.getElem_mem hi;generalize N[a.1.toNat]=r at *;refine⟨by simpa using hl,fun q hq=>?_,fun q hq=>?_⟩
  .rcases List.mem_or_eq_of_mem_set hq with hq|rfl
   .exact h.nod q hq
   .refine List.pairwise_append.2 ⟨h.nod r hm,by simp,fun x hx y hy e=>?_⟩;simp at hy;subst hy;subst e;exact hc (by simpa using hx)
  .rcases List.mem_or_eq_of_mem_set hq with hq|rfl
   .exact h.rng q hq
   .intro k hk;rcases List.mem_append.1 hk with hk|hk
    .exact h.rng r hm k hk
    .simp at hk;subst hk;exact h2
theorem arP_ok{n:Nat}{A:List (Int × Int)}(hA:∀a∈A,inR n a.1/\inR n a.2):∀i,i<=A.length->RwI n (arP n A i)
 | 0,_=>by
  rw[arP_zero];refine⟨by simp,fun r hr=>?_,fun r hr=>?_⟩
  .rw[(List.mem_replicate.1 hr).2];exact .nil
  .rw[(List.mem_replicate.1 hr).2];intro k hk;simp at hk
 | i+1,hi=>by
  rw[arP_succ hi];have:=hA _ (List.getElem_mem hi)
  exact rw_step (arP_ok hA i (by omega)) this.1 this.2
def nx0(i:Nat)(r:List Int):List Int:=if r=[] then [(i:Int)] else r
def nx1(i:Nat)(r:List Int):List Int:=sortI (nx0 i r)
def nxR(N:List (List Int)):List (List Int):=N.mapIdx nx1
@[simp] theorem nxR_len(N:List (List Int)):(nxR N).length=N.length:=by simp[nxR]
theorem nxR_at{N:List (List Int)}{i:Nat}(h:i<N.length)(h2:i<(nxR N).length):(nxR N)[i]=nx1 i N[i]:=by simp[nxR]
theorem mem_sortI(l:List Int)(x:Int):x∈sortI l↔x∈l:=by
 unfold sortI;exact(List.mergeSort_perm l fun x y=>decide (x<=y)).mem_iff
theorem nx0_ok{n i:Nat}(hi:i<n){r:List Int}(h1:r.Nodup)(h2:∀k∈r,inR n k):(nx0 i r).Nodup/\(∀k∈nx0 i r,inR n k)/\nx0 i r≠[]:=by
 unfold nx0;split
 .refine⟨by simp,fun k hk=>?_,by simp⟩;simp at hk;subst hk;exact⟨by omega,by omega⟩
 .rename_i h;exact⟨h1,h2,h⟩
theorem nx1_ok{n i:Nat}(hi:i<n){r:List Int}(h1:r.Nodup)(h2:∀k∈r,inR n k):(nx1 i r).Nodup/\(∀k∈nx1 i r,inR n k)/\nx1 i r≠[]:=by
 obtain⟨g1,g2,g3⟩:=nx0_ok hi h1 h2;refine⟨(List.mergeSort_perm (nx0 i r) fun x y=>decide (x<=y)).symm.nodup g1,fun k hk=>g2 k ((mem_sortI _ k).1 hk),fun e=>g3 ?_⟩;have h3:(nx1 i r).length=(nx0 i r).length:=by simp[nx1,sortI]
 rw[e] at h3;exact List.length_eq_zero_iff.1 h3.symm
theorem nxR_ok{n:Nat}{N:List (List Int)}(h:RwI n N):RwI n (nxR N)/\∀r∈nxR N,r≠[]:=by
 have key:∀r∈nxR N,r.Nodup/\(∀k∈r,inR n k)/\r≠[]:=by
  intro r hr;obtain⟨i,hi,rfl⟩:=List.getElem_of_mem hr;have hi2:i<N.length:=by simpa using hi
  rw[nxR_at hi2];exact nx1_ok (by have:=h.len;omega) (h.nod _ (List.getElem_mem hi2)) (h.rng _ (List.getElem_mem hi2))
 exact⟨⟨by rw[nxR_len];exact h.len,fun r hr=>(key r hr).1,fun r hr=>(key r hr).2.1⟩,fun r hr=>(key r hr).2.2⟩
def pvS(i:Nat)(P:List (List Int))(k:Int):List (List Int):=P.set k.toNat (P.getD k.toNat []++[(i:Int)])
def pvJ(i:Nat)(r:List Int)(P:List (List Int))(j:Nat):List (List Int):=(r.take j).foldl (pvS i) P
theorem pvJ_zero(i:Nat)(r:List Int)(P:List (List Int)):pvJ i r P 0=P:=by simp[pvJ]
theorem pvJ_succ{i:Nat}{r:List Int}{P:List (List Int)}{j:Nat}(h:j<r.length):pvJ i r P (j+1)=pvS i (pvJ i r P j) r[j]:=by
 unfold pvJ;rw[List.take_succ_eq_append_getElem h,List.foldl_append];rfl
theorem pv_len(i:Nat):∀(r:List Int) (P:List (List Int)),(r.foldl (pvS i) P).length=P.length
 | [],P=>rfl
 | k::r,P=>by rw[List.foldl_cons,pv_len i r];simp[pvS]
@[simp] theorem pvJ_len(i:Nat)(r:List Int)(P:List (List Int))(j:Nat):(pvJ i r P j).length=P.length:=pv_len i _ P
def pvP(NX:List (List Int)):Nat->List (List Int)
 | 0=>List.replicate NX.length []
 | i+1=>(NX.getD i []).foldl (pvS i) (pvP NX i)
@[simp] theorem pvP_len(NX:List (List Int)):∀i,(pvP NX i).length=NX.length
 | 0=>by simp[pvP]
 | i+1=>by rw[pvP,pv_len,pvP_len NX i]
theorem pvP_succ{NX:List (List Int)}{i:Nat}{r:List Int}(h:NX.getD i []=r):pvP NX (i+1)=pvJ i r (pvP NX i) r.length:=by
 rw[pvP,h,pvJ,List.take_length]
theorem pvS_get{i:Nat}{P:List (List Int)}{k:Int}(hk:inR P.length k){q:Nat}(hq:q<P.length):(pvS i P k).getD q []=P.getD q []++if (q:Int)=k then [(i:Int)] else []:=by
 obtain⟨h1,h2⟩:=hk;have hk2:k.toNat<P.length:=by omega
 unfold pvS;by_cases e:(q:Int)=k
 .have:k.toNat=q:=by omega
  subst e;simp[hq]
 .have:k.toNat≠q:=by omega
  simp[e,List.getElem?_set,this]
theorem pv_fold(i:Nat):∀(r:List Int) (P:List (List Int)),r.Nodup->(∀k∈r,inR P.length k)->∀q,q<P.length->(r.foldl (pvS i) P).getD q []=P.getD q []++if (q:Int)∈r then [(i:Int)] else []
 | [],P,_,_,q,_=>by simp
 | k::r,P,hn,hr,q,hq=>by
  have hn2:=List.pairwise_cons.1 hn;have hl:(pvS i P k).length=P.length:=by simp[pvS]
  rw[List.foldl_cons,pv_fold i r (pvS i P k) hn2.2 (fun x hx=>by rw[hl];exact hr x (by simp[hx])) q (by omega),pvS_get (hr k (by simp)) hq];by_cases e:(q:Int)=k
  .have h1:(q:Int)∉r:=fun hm=>hn2.1 _ hm e.symm
   rw[if_pos e,if_neg h1,if_pos (by rw[e];simp)];simp
  .rw[if_neg e];by_cases hm:(q:Int)∈r
   .rw[if_pos hm,if_pos (by simp[hm])];simp
   .rw[if_neg hm,if_neg (by simp[hm,e])];simp
theorem pvP_get{NX:List (List Int)}(h:RwI NX.length NX):∀i,i<=NX.length->∀q,q<NX.length->(pvP NX i).getD q []=((List.range i).filter fun j=>decide ((q:Int)∈NX.getD j [])).map fun (j:Nat)=>(j:Int)
 | 0,_,q,hq=>by simp[pvP,hq]
 | i+1,hi,q,hq=>by
  have hm:NX.getD i []∈NX:=by
   have:NX.getD i []=NX[i]:=by simp[show i<NX.length by omega]
   rw[this];exact List.getElem_mem _
  rw[pvP,pv_fold i _ _ (h.nod _ hm) (fun k hk=>by rw[pvP_len];exact h.rng _ hm k hk) q (by rw[pvP_len];exact hq),pvP_get h i (by omega) q hq,List.range_succ,List.filter_append,List.map_append];congr 1
  by_cases e:(q:Int)∈NX.getD i []
  .rw[if_pos e,List.filter_cons_of_pos (by simpa only[decide_eq_true_eq] using e)];rfl
  .rw[if_neg e,List.filter_cons_of_neg (by simpa only[decide_eq_true_eq] using e)];rfl
def putP(es:List (ByteArray × List Bool))(s:ByteArray)(b:Bool):List (ByteArray × List Bool):=match es.findIdx? fun e=>decide (e.1=s) with
 | some i=>es.set i (s,(es.getD i (s,[])).2++[b])
 | none=>es++[(s,[b])]
theorem findIdx_mid{α:Type}{p:α->Bool}:∀{A:List α} {x:α} {B:List α},(∀e∈A,p e=false)->p x=true->(A++x::B).findIdx? p=some A.length
 | [],x,B,_,hx=>by simp[List.findIdx?_cons,hx]
 | a::A,x,B,h,hx=>by
  rw[List.cons_append,List.findIdx?_cons,h a (by simp),findIdx_mid (fun e he=>h e (by simp[he])) hx];simp
theorem put_mid{A B:List (ByteArray × List Bool)}{s:ByteArray}{xs:List Bool}{b:Bool}(h:∀e∈A,e.1≠s):putP (A++(s,xs)::B) s b=A++(s,xs++[b])::B:=by
 unfold putP;rw[findIdx_mid (fun e he=>by simpa using h e he) (by simp)];simp
theorem put_new{A:List (ByteArray × List Bool)}{s:ByteArray}{b:Bool}(h:∀e∈A,e.1≠s):putP A s b=A++[(s,[b])]:=by
 unfold putP;rw[List.findIdx?_eq_none_iff.2 fun e he=>by simpa using h e he]
def atmS(u:ByteArray->Bool)(bt:Co->Bool)(es:List (ByteArray × List Bool))(c:Co):List (ByteArray × List Bool):=if u c.name=true then putP es c.name (bt c) else es
def atmH(u:ByteArray->Bool)(bit:Hs->Co->Bool)(L:List Co)(es:List (ByteArray × List Bool))(h:Hs):List (ByteArray × List Bool):=L.foldl (atmS u (bit h)) es
def atmR(u:ByteArray->Bool)(bit:Hs->Co->Bool)(L:List Co)(H:List Hs):List (ByteArray × List Bool):=H.foldl (atmH u bit L) []
def ndN(L:List Co):Prop:=L.Pairwise fun a b=>a.name≠b.name
theorem at_new(u:ByteArray->Bool)(bt:Co->Bool):∀(M D:List Co),ndN (D++M)->M.foldl (atmS u bt) (D.map fun c=>(c.name,[bt c]))=(D++M.filter fun c=>u c.name).map fun c=>(c.name,[bt c])
 | [],D,_=>by simp
 | c::M,D,h=>by
  have hc:=(List.pairwise_append.1 h).2.2;rw[List.foldl_cons];by_cases e:u c.name=true
  .have hs:atmS u bt (D.map fun c=>(c.name,[bt c])) c=(D++[c]).map fun c=>(c.name,[bt c]):=by
    unfold atmS;rw[if_pos e,put_new fun x hx=>by
     obtain⟨y,hy,rfl⟩:=List.mem_map.1 hx;exact hc y hy c (by simp)]
    simp
   rw[hs,at_new u bt M (D++[c]) (by simpa[ndN] using h)];simp[e]
  .have hs:atmS u bt (D.map fun c=>(c.name,[bt c])) c=D.map fun c=>(c.name,[bt c]):=by
    unfold atmS;rw[if_neg e]
   have hd:ndN (D++M):=by
    refine List.Pairwise.sublist ?_ h;exact(List.Sublist.refl D).append (List.sublist_cons_self c M)
   rw[hs,at_new u bt M D hd];simp[e]
theorem at_old(u:ByteArray->Bool)(bt:Co->Bool)(g:Co->List Bool):∀(M D:List Co),ndN (D++M)->M.foldl (atmS u bt) ((D.map fun c=>(c.name,g c++[bt c]))++(M.filter fun c=>u c.name).map fun c=>(c.name,g c))=(D++M.filter fun c=>u c.name).map fun c=>(c.name,g c++[bt c])
 | [],D,_=>by simp
 | c::M,D,h=>by
  have hc:=(List.pairwise_append.1 h).2.2;rw[List.foldl_cons];by_cases e:u c.name=true
  .have hs:atmS u bt ((D.map fun c=>(c.name,g c++[bt c]))++((c::M).filter fun c=>u c.name).map fun c=>(c.name,g c)) c=((D++[c]).map fun c=>(c.name,g c++[bt c]))++(M.filter fun c=>u c.name).map fun c=>(c.name,g c):=by
    unfold atmS;rw[if_pos e,List.filter_cons_of_pos (by simpa using e),List.map_cons,put_mid fun x hx=>by
     obtain⟨y,hy,rfl⟩:=List.mem_map.1 hx;exact hc y hy c (by simp)]
    simp
   rw[hs,at_old u bt g M (D++[c]) (by simpa[ndN] using h)];simp[e]
  .have hd:ndN (D++M):=by
    refine List.Pairwise.sublist ?_ h;exact(List.Sublist.refl D).append (List.sublist_cons_self c M)
   have hf:((c::M).filter fun c=>u c.name)=M.filter fun c=>u c.name:=List.filter_cons_of_neg (by simpa using e)
   have hs:∀es,atmS u bt es c=es:=fun es=>by
    unfold atmS;rw[if_neg e]
   rw[hs,hf,at_old u bt g M D hd]
theorem atH_pre(u:ByteArray->Bool)(bit:Hs->Co->Bool)(L:List Co)(hN:ndN L):∀(H pre:List Hs),H.foldl (atmH u bit L) ((L.filter fun c=>u c.name).map fun c=>(c.name,pre.map fun h=>bit h c))=(L.filter fun c=>u c.name).map fun c=>(c.name,(pre++H).map fun h=>bit h c)
 | [],pre=>by simp
 | h::H,pre=>by
  rw[List.foldl_cons];have h1:=at_old u (bit h) (fun c=>pre.map fun h=>bit h c) L [] (by simpa using hN);simp only[List.map_nil,List.nil_append] at h1;have h2:atmH u bit L ((L.filter fun c=>u c.name).map fun c=>(c.name,pre.map fun h=>bit h c)) h=(L.filter fun c=>u c.name).map fun c=>(c.name,(pre++[h]).map fun h=>bit h c):=by
   unfold atmH;rw[h1];simp
  rw[h2,atH_pre u bit L hN H (pre++[h])];simp
theorem atR_eq(u:ByteArray->Bool)(bit:Hs->Co->Bool)(L:List Co)(hN:ndN L)(H:List Hs)(hH:H≠[]):atmR u bit L H=(L.filter fun c=>u c.name).map fun c=>(c.name,H.map fun h=>bit h c):=by
 match H,hH with
 | h::H,_ =>
  unfold atmR;rw[List.foldl_cons];have h1:=at_new u (bit h) L [] (by simpa using hN);simp only[List.map_nil,List.nil_append] at h1;have h2:atmH u bit L [] h=(L.filter fun c=>u c.name).map fun c=>(c.name,[h].map fun h=>bit h c):=by
   unfold atmH;rw[h1];simp
  rw[h2,atH_pre u bit L hN H [h]];simp
def bitS(t:Ty)(h:Hs)(c:Co):Bool:=decide ((vioS t c h.g fun _=>false).1.length=0)
def usedF(f:Fo)(s:ByteArray):Bool:=memS f.ats s
def mdlR(t:Ty)(H:List Hs)(A:List (Int × Int))(f:Fo)(L:List Co):Mdl :=
 ⟨nxR (arP H.length A A.length),pvP (nxR (arP H.length A A.length)) H.length,atmR (usedF f) (bitS t) L H⟩
theorem coF_zero{L:List Co}:∀(n i:Nat),coF L n i=0->∀j,i<=j->j<i+n->coE L j=0
 | 0,i,_,j,h1,h2=>by omega
 | n+1,i,h,j,h1,h2=>by
  rw[coF] at h;split at h
  .rename_i hc;exact absurd h hc
  .rename_i hc;by_cases e:j=i
   .subst e;simpa using hc
   .exact coF_zero n (i+1) h j (by omega) (by omega)
theorem plCo_le{L:List Co}{i:Nat}(h:i<L.length){s:ByteArray}(hs:L[i].name=s):plCo L s<=(i:Int):=by
 unfold plCo;split
 .have:L.findIdx (fun c:Co=>decide (c.name=s))<=i:=Nat.le_of_not_lt fun hlt=>absurd hs (by have:=List.not_of_lt_findIdx hlt;simpa using this)
  omega
 .omega
theorem coF_nd{L:List Co}(h:coF L L.length 0=0):ndN L:=by
 refine List.pairwise_iff_getElem.2 fun i j hi hj hij e=>?_
 have hj0:=coF_zero L.length 0 h j (Nat.zero_le _) (by omega);have hp:=plCo_le hi e;unfold coE at hj0;rw[List.getElem?_eq_getElem hj] at hj0;simp only at hj0;split at hj0
 .rename_i h1;exact absurd hj0 h1
 .split at hj0
  .cases hj0
  .omega
theorem coF_sh{L:List Co}(h:coF L L.length 0=0):∀c∈L,shpE c=0:=by
 intro c hc;obtain⟨j,hj,rfl⟩:=List.getElem_of_mem hc;have hj0:=coF_zero L.length 0 h j (Nat.zero_le _) (by omega);unfold coE at hj0;rw[List.getElem?_eq_getElem hj] at hj0;simp only at hj0;split at hj0
 .rename_i h1;exact absurd hj0 h1
 .rename_i h1;simpa using h1
structure VaF (f:Fo) (L:List Co):Prop where
 form:f.formE=0
 size:f.size<=40
 depth:f.depth<=8
 nL:L.length<=20
 nd:ndN L
 sh:∀c∈L,shpE c=0
 ats:∀s∈f.ats,hasCo L s=true
theorem validF_zero{f:Fo}{L:List Co}(h:validF f L=0):VaF f L:=by
 have h1:shapeF f=0:=Classical.byContradiction fun e=>by rw[validF,if_pos e] at h;exact e h
 rw[validF,if_neg (by simp[h1])] at h;have h2:¬20<L.length:=fun e=>by rw[if_pos e] at h;exact absurd h (by decide)
 rw[if_neg h2] at h;have h3:coF L L.length 0=0:=Classical.byContradiction fun e=>by rw[if_pos e] at h;exact e h
 rw[if_neg (by simp[h3])] at h;have h4:(f.ats.all fun s=>hasCo L s)=true:=Classical.byContradiction fun e=>by rw[if_neg e] at h;exact absurd h (by decide)
 unfold shapeF at h1;have g1:f.formE=0:=Classical.byContradiction fun e=>by rw[if_pos e] at h1;exact e h1
 rw[if_neg (by simp[g1])] at h1;have g2:¬40<f.size:=fun e=>by rw[if_pos e] at h1;exact absurd h1 (by decide)
 rw[if_neg g2] at h1;have g3:¬8<f.depth:=fun e=>by rw[if_pos e] at h1;exact absurd h1 (by decide)
 exact⟨g1,by omega,by omega,by omega,coF_nd h3,coF_sh h3,fun s hs=>List.all_eq_true.1 h4 s hs⟩
theorem arB_sh{k:Int}{n:Nat}(h:arB k n=true):(k=1/\n=0)∨((k=3∨k=4)/\2<=n)∨((k=8∨k=12)/\n=2)∨(k≠1/\k≠3/\k≠4/\k≠8/\k≠12/\1<=k/\k<=12/\n=1):=by
 unfold arB at h;split at h
 .simp at h;omega
 .split at h
  .simp at h;omega
  .split at h
   .simp at h;omega
   .simp at h;omega
mutual
theorem Fo.hok_of(m:Mdl):∀f:Fo,f.formE=0->(∀s∈f.ats,∃a∈m.atoms,a.1=s)->f.Hok m
 | .mk k s c,h,ha=>by
  rw[Fo.formE] at h;rw[Fo.ats] at ha;split at h
  .cases h
  .rename_i hb;split at h
   .cases h
   .have har:arB k c.length=true:=by
     unfold badF at hb;cases e:arB k c.length with
     | true=>rfl
     | false=>rw[e] at hb;simp at hb
    have har2:=arB_sh har;have hk:=Fo.hokL_of m c h (fun x hx=>ha x (by split<;>simp[hx]));rw[Fo.Hok];exact⟨⟨fun hk=>ha s (by simp[hk]),fun hk=>by omega,fun h1 h2 h3 h4 h5 h6 h7 h8 h9 h10=>by omega⟩,hk⟩
theorem Fo.hokL_of(m:Mdl):∀l:List Fo,Fo.formL l=0->(∀s∈Fo.atsL l,∃a∈m.atoms,a.1=s)->Fo.HokL m l
 | [],_,_=>by rw[Fo.HokL];trivial
 | x::r,h,ha=>by
  rw[Fo.formL] at h;rw[Fo.atsL] at ha;split at h
  .rename_i hx;exact absurd h hx
  .rename_i hx;have h1:=Fo.hok_of m x (by simpa using hx) (fun s hs=>ha s (by simp[hs]));have h2:=Fo.hokL_of m r h (fun s hs=>ha s (by simp[hs]));rw[Fo.HokL];exact⟨h1,h2⟩
end
structure MdlG (m:Mdl) (n:Nat) (f:Fo):Prop where
 ok:m.Ok n
 hok:f.Hok m
 cv:∀k,inR n k->∀i∈m.prev.getD k.toNat [],k∈m.next.getD i.toNat []
 ne:∀r∈m.next,r≠[]
theorem mdl_ok(t:Ty)(H:List Hs)(A:List (Int × Int))(f:Fo)(L:List Co)(hH:0<H.length)(hH2:H.length<=300)(hA:∀a∈A,inR H.length a.1/\inR H.length a.2)(hv:VaF f L):MdlG (mdlR t H A f L) H.length f:=by
 obtain⟨hx,hne⟩:=nxR_ok (arP_ok hA A.length (nr _));have hat:=atR_eq (usedF f) (bitS t) L hv.nd H (fun e=>by rw[e] at hH;simp at hH);have e1:(mdlR t H A f L).next=nxR (arP H.length A A.length):=rfl
 have e2:(mdlR t H A f L).prev=pvP (nxR (arP H.length A A.length)) H.length:=rfl
 have e3:(mdlR t H A f L).atoms=(L.filter fun c=>usedF f c.name).map fun c=>(c.name,H.map fun h=>bitS t h c):=hat
 generalize mdlR t H A f L=m at *;generalize nxR (arP H.length A A.length)=NX at *;have hl:=hx.len;have hx2:RwI NX.length NX:=by rw[hl];exact hx
 have hg:=pvP_get hx2 H.length (by omega);have hpl:(pvP NX H.length).length=NX.length:=pvP_len NX _
 have hp:∀r∈pvP NX H.length,(∀k∈r,inR H.length k)/\r.length<=H.length:=by
  intro r hr;obtain⟨q,hq,rfl⟩:=List.getElem_of_mem hr;have:=hg q (by omega)
  rw[List.getD_eq_getElem?_getD,List.getElem?_eq_getElem hq,Option.getD_some] at this;rw[this];refine⟨fun k hk=>?_,?_⟩
  .obtain⟨j,hj,rfl⟩:=List.mem_map.1 hk;have:=List.mem_range.1 (List.mem_filter.1 hj).1
   exact⟨by omega,by omega⟩
  .have:=List.length_filter_le (fun j=>decide ((q:Int)∈NX.getD j [])) (List.range H.length)
   simpa using this
 refine⟨⟨hH,hH2,by rw[e1];exact hl,by rw[e2];omega,by rw[e1];exact hx.rng,by rw[e2];exact fun r hr=>(hp r hr).1,by rw[e1];exact hx.le,by rw[e2];exact fun r hr=>(hp r hr).2,?_⟩,?_,?_,by rw[e1];exact hne⟩
 .rw[e3];intro a ha;obtain⟨c,_,rfl⟩:=List.mem_map.1 ha;simp
 .refine Fo.hok_of m f hv.form fun s hs=>?_
  have:=hv.ats s hs
  unfold hasCo anyB at this;obtain⟨c,hc,he⟩:=List.any_eq_true.1 this;have he:c.name=s:=by simpa using he
  rw[e3];exact⟨_,List.mem_map.2 ⟨c,List.mem_filter.2 ⟨hc,by show memS f.ats c.name=true;rw[he];exact memS_iff.2 hs⟩,rfl⟩,he⟩
 .intro k hk i hi;obtain⟨h1,h2⟩:=hk;rw[e2,hg k.toNat (by omega)] at hi;obtain⟨j,hj,rfl⟩:=List.mem_map.1 hi;have:=(List.mem_filter.1 hj).2
  rw[show ((k.toNat:Nat):Int)=k by omega] at this;rw[e1];simpa using this
open Go Go.Proofs Go.RowKit
open Go.Proofs.Tryz
theorem rowsI_flatR(xs:List Int)(R:List (List AV)):(rowsI xs++R).flatten=(xs.map fun n=>AV.d (.raw (.int .i64 n)))++R.flatten:=by
 rw[List.flatten_append];congr 1
 induction xs with
 | nil=>rfl
 | cons x xs ih =>
  simp only[rowsI,List.map_cons,List.flatten_cons] at ih ⊢;rw[ih];rfl
theorem putCells_list(cur:Array Value)(ts:List Int)(h:ts.length<=cur.size):(Go.Sort.putCells (Value.int .i64) 0 ts.toArray cur).toList=ts.map (Value.int .i64)++cur.toList.drop ts.length:=by
 have h1:=take_putCellsI cur ts h;rw[<-List.take_append_drop ts.length (Go.Sort.putCells (Value.int .i64) 0 ts.toArray cur).toList,h1];congr 1
 apply List.ext_getElem?;intro j;rw[List.getElem?_drop,List.getElem?_drop,Array.getElem?_toList,Array.getElem?_toList];by_cases hj:ts.length+j<cur.size
 .simp[Go.Sort.putCells,hj];intro h;omega
 .rw[Array.getElem?_eq_none (by simpa[Go.Sort.putCells] using hj),Array.getElem?_eq_none (by omega)]
set_option maxRecDepth 100000 in
theorem sortBox_c(xs:List Int)(hx:xs.length<=1000000)(box:Bxs)(k nb:Nat)(R:List (List AV))(hk:box k=some (rowsI xs++R))(tok:Tks)(nt:Nat):
  ACalls prog 156 [.msl k 0 xs.length 1] ⟨box,nb,tok,nt⟩ fun v m=>v=.tup []/\m=⟨upd box k (some (rowsI (sortI xs)++R)),nb,tok,nt⟩:=by
 refine⟨Enters.mk func156 rfl (by kernel_rfl),fun G w vals hm hr=>?_⟩;obtain⟨hlen,hrv⟩:=hr
 match vals,hlen with
 | [v],_ =>
  have h0:=hrv 0 (by simp) (by simp);simp only[List.getElem_cons_zero] at h0;generalize hq:(AV.msl k 0 xs.length 1)=q at h0;cases h0 with
  | @msl _ _ _ b _ cap h1 h2 h3 =>
   cases hq;obtain⟨hkind,cs,e,hheap,hrows,hR,hone⟩:=hm.box k _ b 1 hk h1;rw[rowsI_flatR] at hR;have hlc:xs.length<=cs.toList.length:=by have:=hR.1;simp at this;simp;omega
   have hcell:cs.toList.take xs.length=xs.map (Value.int .i64):=by
    apply List.ext_getElem
    .rw[List.length_take,List.length_map];omega
    .intro j g1 g2;have hj:j<xs.length:=by simpa using g2
     have h4:=hR.2 j (by simp;omega) (by omega);rw[List.getElem_append_left (by simpa using hj)] at h4;simp only[List.getElem_map] at h4;rw[List.getElem_take,List.getElem_map];generalize cs.toList[j]=u at h4;cases h4 with
     | d h5=>cases h5;rfl
   have hH:Go.Sort.Holds (Value.int .i64) w b 0 xs.toArray:=holds_of_blockI hheap hcell
   have hlt:=(Array.getElem?_eq_some_iff.1 hheap).1;have hc:=Tryz.slices_Sort_int b 0 cap xs w hH hlt (by omega);refine hc.mono ?_;rintro e' w' ⟨rfl,n,os,rfl⟩;have hsl:(sortI xs).length=xs.length:=by simp[sortI]
   have hcs:(sortI xs).length<=cs.size:=by rw[hsl];simpa using hlc
   have hput:=putCells_list cs (sortI xs) hcs;have hnew:=heap_sortedI (n:=n) (os:=os) (sortI xs).toArray hheap;have hgr:=grownBy_sortedI (w:=w) (g:=b) (n:=n) (os:=os) (sortI xs).toArray;have hsz:(rowsI (sortI xs)++R).flatten=((sortI xs).map fun n=>AV.d (.raw (.int .i64 n)))++R.flatten:=rowsI_flatR _ _
   have hone2:∀u∈(Go.Sort.putCells (Value.int .i64) 0 (sortI xs).toArray cs).toList,u.oneCell'=true:=by
    intro u hu;rw[hput] at hu;rcases List.mem_append.1 hu with hu|hu
    .obtain⟨y,_,rfl⟩:=List.mem_map.1 hu;rfl
    .exact hone u (List.mem_of_mem_drop hu)
   have hRV:RVs G w (rowsI (sortI xs)++R).flatten (Go.Sort.putCells (Value.int .i64) 0 (sortI xs).toArray cs).toList:=by
    rw[hsz,hput];refine RVs.append ⟨by simp,fun i g1 g2=>?_⟩ ?_
    .simp only[List.getElem_map];exact .d (.raw rfl)
    .have:=hR.drop xs.length
     rw[List.drop_append_of_le_length (by simp),List.drop_eq_nil_of_le (by simp),List.nil_append] at this;rw[hsl];exact this
   have hrw:∀r∈rowsI (sortI xs)++R,r.length=1:=by
    intro r hr;rcases List.mem_append.1 hr with hr|hr
    .obtain⟨y,_,rfl⟩:=List.mem_map.1 hr;rfl
    .exact hrows r (by simp[hr])
   have hm1:=hm.setRow h1 hrw hheap hRV hone2;have hle1:=Le.setRow (w:=w) hkind (Go.Sort.putCells (Value.int .i64) 0 (sortI xs).toArray cs);have hbel:Below (w.setRow b (Go.Sort.putCells (Value.int .i64) 0 (sortI xs).toArray cs)).heap.size (w.setRow b (Go.Sort.putCells (Value.int .i64) 0 (sortI xs).toArray cs)) (Go.Sort.grow (Go.Sort.putRow (Value.int .i64) (Go.Sort.ahead w n) b 0 (sortI xs).toArray) os):=by
    have hss:(w.setRow b (Go.Sort.putCells (Value.int .i64) 0 (sortI xs).toArray cs)).heap.size=w.heap.size:=by simp[World.setRow]
    refine⟨hgr.os,hgr.tape,hgr.output,by rw[hss];exact hgr.size,fun j hj=>?_⟩;rw[hss] at hj;by_cases ej:j=b
    .subst ej;rw[setRow_heap w j cs _ e (0,0) hheap];exact hnew
    .rw[setRow_other w b j _ ej];exact hgr.block j hj (fun e=>by cases e;exact ej rfl)
   refine⟨_,_,_,G,rfl,⟨rfl,rfl⟩,rfl,relM_below hm1 hbel,.tup (vs:=[]) rfl (fun i g1 _=>by simp at g1),hle1.trans (le_below hm1 hbel),fun j hj=>⟨hj,?_⟩⟩;simp only;rw[uO _ _ (fun e=>by subst e;rw[h1] at hj;cases hj)]
  | _=>cases hq
theorem set_perm{α:Type}{l:List α}{k:Nat}(h:k<l.length)(x:α):(x::l.eraseIdx k).Perm (l.set k x):=by
 rw[List.eraseIdx_eq_take_drop_succ,List.set_eq_take_append_cons_drop,if_pos h];exact List.perm_middle.symm
theorem erase_perm{α:Type}{l:List α}{k:Nat}(h:k<l.length):l.Perm (l[k]::l.eraseIdx k):=by
 rw[List.eraseIdx_eq_take_drop_succ];have:=List.perm_middle (a:=l[k]) (l₁:=l.take k) (l₂:=l.drop (k+1))
 rw[<-List.drop_eq_getElem_cons h,List.take_append_drop] at this;exact this
theorem TK.appAt{mtok:Nat->Bool}{nt0:Nat}{tok:Nat->Bool}{nt:Nat}{os:List Own}(h:TK mtok nt0 tok nt os){k:Nat}(hk:k<os.length):TK mtok nt0 (upd (os[k].kill tok) nt true) (nt+1) (os.set k (.tok nt)) :=
 ((h.perm (erase_perm hk)).app).perm (set_perm hk _)
theorem TK.liveAt{mtok:Nat->Bool}{nt0:Nat}{tok:Nat->Bool}{nt:Nat}{os:List Own}(h:TK mtok nt0 tok nt os){o:Own}(ho:o∈os):o.liveP tok:=by
 cases o with
 | full=>trivial
 | tok t=>exact(h.own _ ho t rfl).1
abbrev ownR(R:List (Nat × List Int)):List Own:=R.map fun r=>Own.tok r.1
def rowsS(R:List (Nat × List Int)):List (List AV):=R.map fun r=>[AV.stk r.1 1 (rI r.2)]
theorem TK.rowApp{mtok:Nat->Bool}{nt0:Nat}{tok:Nat->Bool}{nt:Nat}{R:List (Nat × List Int)}{os:List Own}(h:TK mtok nt0 tok nt (ownR R++os)){k:Nat}(hk:k<R.length)(xs:List Int):
  tok R[k].1=true/\TK mtok nt0 (upd (upd tok R[k].1 false) nt true) (nt+1) (ownR (R.set k (nt,xs))++os):=by
 have hk2:k<(ownR R++os).length:=by simp;omega
 have e1:(ownR R++os)[k]=.tok R[k].1:=by rw[List.getElem_append_left (by simpa using hk)];simp
 have e2:(ownR R++os).set k (.tok nt)=ownR (R.set k (nt,xs))++os:=by rw[List.set_append_left _ _ (by simpa using hk)];simp[List.map_set]
 have h1:=h.appAt hk2;have h2:=h.liveAt (List.getElem_mem hk2);rw[e1] at h1 h2;rw[e2] at h1;exact⟨h2,h1⟩
@[simp] theorem rowsS_len(R:List (Nat × List Int)):(rowsS R).length=R.length:=by simp[rowsS]
theorem rowsS_set(R:List (Nat × List Int))(k t:Nat)(xs:List Int):(rowsS R).set k [AV.stk t 1 (rI xs)]=rowsS (R.set k (t,xs)):=by simp[rowsS,List.map_set]
theorem rowsS_to{p:Nat->Prop}{fz:Option (Nat × Nat × List (List D))}(R:List (Nat × List Int)):RowsTo p (fun _=>True) fz (rowsS R) (rowsS R):=rowsTo_same fun r hr x hx=>by
 obtain⟨y,_,rfl⟩:=List.mem_map.1 hr;simp at hx;subst hx;exact .stk trivial
abbrev ownW(P:List (List Int × Own)):List Own:=P.map fun r=>r.2
def rowsW(P:List (List Int × Own)):List (List AV):=P.map fun r=>[AV.osl 1 (rI r.1) r.2]
@[simp] theorem rowsW_len(P:List (List Int × Own)):(rowsW P).length=P.length:=by simp[rowsW]
theorem rowsW_set(P:List (List Int × Own))(k:Nat)(xs:List Int)(o:Own):(rowsW P).set k [AV.osl 1 (rI xs) o]=rowsW (P.set k (xs,o)):=by simp[rowsW,List.map_set]
theorem rowsW_to{p:Nat->Prop}{fz:Option (Nat × Nat × List (List D))}(P:List (List Int × Own)):RowsTo p (fun _=>True) fz (rowsW P) (rowsW P):=rowsTo_same fun r hr x hx=>by
 obtain⟨y,_,rfl⟩:=List.mem_map.1 hr;simp at hx;subst hx;exact .osl fun _ _=>trivial
theorem rowsW_d{p:Nat->Prop}{q:Nat->Prop}{fz:Option (Nat × Nat × List (List D))}(P:List (List Int × Own)):RowsTo p q fz (rowsW P) (rowsD (P.map fun r=>[ints r.1])):=by
 refine⟨by simp,fun i h1 h2=>⟨by simp[rowsW,rowsD],fun j g1 g2=>?_⟩⟩;simp only[rowsW,rowsD,List.getElem_map,List.map_cons,List.map_nil] at g1 g2 ⊢;have:j=0:=by simp at g1;omega
 subst this;exact .data
theorem rowsW_nil{p:Nat->Prop}{q:Nat->Prop}{fz:Option (Nat × Nat × List (List D))}(n:Nat):RowsTo p q fz (List.replicate n [.osl 0 [] .full]) (rowsW (List.replicate n ([],.full))):=by
 refine⟨by simp,fun i h1 h2=>⟨by simp[rowsW],fun j g1 g2=>?_⟩⟩;simp only[rowsW,List.getElem_map,List.getElem_replicate] at g1 g2 ⊢;have:j=0:=by simp at g1;omega
 subst this;exact .nil (by decide) rfl
theorem TK.rowWApp{mtok:Nat->Bool}{nt0:Nat}{tok:Nat->Bool}{nt:Nat}{P:List (List Int × Own)}{os:List Own}(h:TK mtok nt0 tok nt (ownW P++os)){k:Nat}(hk:k<P.length)(xs:List Int):
  P[k].2.liveP tok/\TK mtok nt0 (upd (P[k].2.kill tok) nt true) (nt+1) (ownW (P.set k (xs,.tok nt))++os):=by
 have hk2:k<(ownW P++os).length:=by simp;omega
 have e1:(ownW P++os)[k]=P[k].2:=by rw[List.getElem_append_left (by simpa using hk)];simp
 have e2:(ownW P++os).set k (.tok nt)=ownW (P.set k (xs,.tok nt))++os:=by rw[List.set_append_left _ _ (by simpa using hk)];simp[List.map_set]
 have h1:=h.appAt hk2;have h2:=h.liveAt (List.getElem_mem hk2);rw[e1] at h1 h2;rw[e2] at h1;exact⟨h2,h1⟩
theorem Trans.comp{cx:Cx}{nt0:Nat}{S S' S'':AS}(h:Trans cx nt0 S S')(k:Trans cx nt0 S' S''):Trans cx nt0 S S'':=by
 intro G0 w0 G a w he hn hS hL;obtain⟨G1,h1,h2⟩:=h G0 w0 G a w he hn hS hL;exact k G0 w0 G1 a w he hn h1 h2
def opRows(nt n j:Nat):List (List AV):=(List.range n).map fun i=>if i<j then [.stk (nt+i) 1 []] else [.osl 0 [] .full]
def opTok(tok:Tks)(nt:Nat):Nat->Nat->Bool
 | 0=>tok
 | j+1=>upd (opTok tok nt j) (nt+j) true
def opR(nt n:Nat):List (Nat × List Int):=(List.range n).map fun i=>(nt+i,[])
theorem opRows_zero(nt n:Nat):opRows nt n 0=List.replicate n [.osl 0 [] .full]:=by
 apply List.ext_getElem<;>simp[opRows]
theorem opRows_all(nt n:Nat):opRows nt n n=rowsS (opR nt n):=by
 apply List.ext_getElem
 .simp[opRows,opR]
 .intro i h1 h2;have:i<n:=by simpa[opRows] using h1
  simp[opRows,rowsS,opR,this]
theorem Trans.opnRows{cx:Cx}{nt0 nt:Nat}{l:List (Nat × AV)}{out:Bxs}{loc:List (Nat × List (List AV))}{tok:Nat->Bool}(s n:Nat):∀j,Trans cx nt0 ⟨tl l,lb cx.base out ((s,opRows nt n 0)::loc),tok,nt⟩ ⟨tl l,lb cx.base out ((s,opRows nt n j)::loc),opTok tok nt j,nt+j⟩
 | 0=>fun G0 w0 G a w he hn hS hL=>⟨G,hS,hL⟩
 | j+1=>by
  refine(Trans.opnRows s n j).comp ?_;refine Trans.opn 1 (by have:=cvL_map (R:=OpTo (nt+j) 1) (f:=id) (fun _=>.same) l;simpa using this) ⟨rfl,⟨by simp[opRows],fun i h1 h2=>?_⟩,cvB_refl (fun _=>.same) _⟩;simp only[opRows,List.getElem_map,List.getElem_range];rcases Nat.lt_trichotomy i j with h|h|h
  .rw[if_pos h,if_pos (by omega)];exact⟨rfl,fun _ _ _=>.same⟩
  .subst h;rw[if_neg (by omega),if_pos (by omega)];exact cvR_cons .nil cvR_nil
  .rw[if_neg (by omega),if_neg (by omega)];exact⟨rfl,fun _ _ _=>.same⟩
theorem TK.opTok{mtok:Nat->Bool}{nt0:Nat}{tok:Nat->Bool}{nt:Nat}{os:List Own}(h:TK mtok nt0 tok nt os):∀j,TK mtok nt0 (Go.AM.opTok tok nt j) (nt+j) (ownR (opR nt j)++os)
 | 0=>by simpa[Go.AM.opTok,opR] using h
 | j+1=>by
  have:=(TK.opTok h j).more 0
  refine this.perm ?_;simp only[opR,List.range_succ,List.map_append,List.map_cons,List.map_nil,Nat.add_zero,List.append_assoc,List.cons_append,List.nil_append];exact List.perm_middle.symm
abbrev MpQ:Type:=List (ByteArray × List Bool × Own)
abbrev encQ(q:MpQ):List (ByteArray × List (List D) × Own):=q.map fun e=>(e.1,rBo e.2.1,e.2.2)
abbrev plQ(q:MpQ):List (ByteArray × List Bool):=q.map fun e=>(e.1,e.2.1)
abbrev ownQ(q:MpQ):List Own:=q.map fun e=>e.2.2
def putQ(q:MpQ)(s:ByteArray)(b:Bool)(t:Nat):MpQ:=match q.findIdx? fun e=>decide (e.1=s) with
 | some i=>q.set i (s,(q.getD i (s,[],.full)).2.1++[b],.tok t)
 | none=>q++[(s,[b],.tok t)]
theorem putQ_pl(q:MpQ)(s:ByteArray)(b:Bool)(t:Nat):plQ (putQ q s b t)=putP (plQ q) s b:=by
 unfold putQ putP;have e:(plQ q).findIdx? (fun e=>decide (e.1=s))=q.findIdx? fun e=>decide (e.1=s):=by rw[List.findIdx?_map];rfl
 rw[e];cases hi:q.findIdx? fun e=>decide (e.1=s) with
 | none=>simp
 | some i =>
  have hl:=(List.findIdx?_eq_some_iff_getElem.1 hi).1;simp[List.map_set,hl]
theorem putQ_len{q:MpQ}{s:ByteArray}{b:Bool}{t M:Nat}(h:∀e∈q,e.2.1.length<=M):∀e∈putQ q s b t,e.2.1.length<=M+1:=by
 intro e he;unfold putQ at he;split at he
 .rename_i i hi;have hl:=(List.findIdx?_eq_some_iff_getElem.1 hi).1;rcases List.mem_or_eq_of_mem_set he with he|rfl
  .have:=h e he;omega
  .have:=h _ (List.getElem_mem hl)
   simp[hl];exact this
 .rcases List.mem_append.1 he with he|he
  .have:=h e he;omega
  .simp at he;subst he;simp
theorem mp_step{mtok:Nat->Bool}{nt0:Nat}{tok:Nat->Bool}{nt:Nat}{q:MpQ}{os:List Own}(s:ByteArray)(h:TK mtok nt0 tok nt (ownQ q++os)):
  ∃sz xs own,mpGet (encQ q) s=.osl sz (rBo xs) own/\(sz=1∨xs=[]/\own=.full)/\own.liveP tok/\(xs=[]∨∃e∈q,e.2.1=xs) /\
   ∀b,mpPut (encQ q) s (rBo xs++[[D.raw (.bool b)]]) (.tok nt)=encQ (putQ q s b nt)/\TK mtok nt0 (upd (own.kill tok) nt true) (nt+1) (ownQ (putQ q s b nt)++os):=by
 have e1:(encQ q).findIdx? (fun e=>decide (e.1=s))=q.findIdx? fun e=>decide (e.1=s):=by rw[List.findIdx?_map];rfl
 have e2:(encQ q).find? (fun e=>decide (e.1=s))=(q.find? fun e=>decide (e.1=s)).map fun e=>(e.1,rBo e.2.1,e.2.2):=by rw[List.find?_map];rfl
 cases hi:q.findIdx? fun e=>decide (e.1=s) with
 | none =>
  have hn:q.find? (fun e=>decide (e.1=s))=none:=by
   rw[List.find?_eq_none];intro x hx;have:=List.findIdx?_eq_none_iff.1 hi x hx
   simpa using this
  refine⟨0,[],.full,by unfold mpGet;rw[e2,hn];rfl,.inr ⟨rfl,rfl⟩,trivial,.inl rfl,fun b=>⟨?_,?_⟩⟩
  .unfold mpPut putQ;rw[e1,hi];simp
  .unfold putQ;rw[hi];refine(h.full.app).perm ?_;simp only[List.map_append,List.map_cons,List.map_nil,List.append_assoc,List.cons_append,List.nil_append];exact List.perm_middle.symm
 | some i =>
  obtain⟨hl,hp,hlt⟩:=List.findIdx?_eq_some_iff_getElem.1 hi;have hn:q.find? (fun e=>decide (e.1=s))=some q[i]:=List.find?_eq_some_iff_getElem.2 ⟨hp,i,hl,rfl,fun j hj=>by simpa using hlt j hj⟩
  have hi2:i<(ownQ q++os).length:=by simp;omega
  have g1:(ownQ q++os)[i]=q[i].2.2:=by rw[List.getElem_append_left (by simpa using hl)];simp
  have h1:=h.appAt hi2;have h2:=h.liveAt (List.getElem_mem hi2);rw[g1] at h1 h2;refine⟨1,q[i].2.1,q[i].2.2,by unfold mpGet;rw[e2,hn];rfl,.inl rfl,h2,.inr ⟨_,List.getElem_mem hl,rfl⟩,fun b=>⟨?_,?_⟩⟩
  .unfold mpPut putQ;rw[e1,hi];simp[List.map_set,hl]
  .unfold putQ;rw[hi];have g2:(ownQ q++os).set i (.tok nt)=ownQ (q.set i (s,(q.getD i (s,[],.full)).2.1++[b],.tok nt))++os:=by rw[List.set_append_left _ _ (by simpa using hl)];simp[List.map_set]
   rw[g2] at h1;exact h1
theorem w64a:IntKind.i64.wrap 1=1:=by decide
theorem w64c:IntKind.u8.wrap 1=1:=by decide
theorem w64b:IntKind.u64.wrap 1=1:=by decide
set_option maxRecDepth 100000 in
theorem len64_c:DC 276 [.d (.raw (.int .u64 1))] (I 1):=by
 intro tok nt box nb;refine sI func276 ntmps276 fun Hb Ht=>?_
 try (simp[w64a,w64b,w64c])
 repeat (first|(refine sR ?_;simp[w64a,w64b,w64c])|(refine sC ?_;simp[w64a,w64b,w64c])|(refine sX ?_;simp only[AU,↓reduceIte]))
 refine⟨by decide,?_⟩;try (simp[w64a,w64b,w64c])
 repeat (first|(refine sR ?_;simp[w64a,w64b,w64c])|(refine sC ?_;simp[w64a,w64b,w64c])|(refine sX ?_;simp only[AU,↓reduceIte]))
 refine sT (sH Hb Ht ?_);simp[w64a,w64b,w64c]
theorem bitsLen_c:DC 232 [.d (.raw (.int .u64 1))] (I 1):=by
 intro tok nt box nb;refine sI func232 ntmps232 fun Hb Ht=>?_
 try (simp)
 repeat (first|(refine sR ?_;simp)|(refine sC ?_;simp)|(refine sX ?_;simp only[AU,↓reduceIte]))
 refine sD (len64_c _ _) ?_;simp;try (simp)
 repeat (first|(refine sR ?_;simp)|(refine sC ?_;simp)|(refine sX ?_;simp only[AU,↓reduceIte]))
 refine sT (sH Hb Ht ?_);simp
def stIns(x:Int)(nb:Nat)(box:Bxs)(tok:Tks)(nt:Nat)(u:Unit):AS:=⟨tl [(6,I 1),(0,.d (ints [x])),(1,I 0),(2,I 1)],lb nb box [],tok,nt⟩
theorem insOne_c(x:Int):DC 266 [.d (ints [x]),I 0,I 1] (.tup []):=by
 intro tok nt box nb;refine sI func266 ntmps266 fun Hb Ht=>?_
 try (simp[w64a])
 repeat (first|(refine sR ?_;simp[w64a])|(refine sC ?_;simp[w64a])|(refine sX ?_;simp only[AU,↓reduceIte]))
 refine sN ?_;refine sL (stIns x nb box tok nt) (fun _=>True) (fun _=>0) () trivial (wM (nr _) rfl (by simp[ToL,lk]) trivial) ?_;rintro u S _ hS;simp only[stIns] at hS;subst hS;try (simp[w64a])
 repeat (first|(refine sR ?_;simp[w64a])|(refine sC ?_;simp[w64a])|(refine sX ?_;simp only[AU,↓reduceIte]))
 refine sE ?_;try simp only[AU]
 refine⟨by simp,sF Hb Ht (fun _ h=>h) (nr _) ?_⟩;simp
def stPdq(x:Int)(nb:Nat)(box:Bxs)(tok:Tks)(nt:Nat)(u:Unit):AS:=⟨tl [(0,.d (ints [x])),(1,I 0),(2,I 1),(3,I 1)],lb nb box [],tok,nt⟩
theorem pdqOne_c(x:Int):DC 231 [.d (ints [x]),I 0,I 1,I 1] (.tup []):=by
 intro tok nt box nb;refine sI func231 ntmps231 fun Hb Ht=>?_
 try (simp)
 repeat (first|(refine sR ?_;simp)|(refine sC ?_;simp)|(refine sX ?_;simp only[AU,↓reduceIte]))
 refine sN ?_;refine sL (stPdq x nb box tok nt) (fun _=>True) (fun _=>0) () trivial (wM (nr _) rfl (by simp[ToL,lk]) trivial) ?_;rintro u S _ hS;simp only[stPdq] at hS;subst hS;try (simp[w64a])
 repeat (first|(refine sR ?_;simp[w64a])|(refine sC ?_;simp[w64a])|(refine sX ?_;simp only[AU,↓reduceIte]))
 refine sD (insOne_c x _ _) ?_;simp;try (simp)
 repeat (first|(refine sR ?_;simp)|(refine sC ?_;simp)|(refine sX ?_;simp only[AU,↓reduceIte]))
 refine sT (sH Hb Ht ?_);simp
theorem sortOne_c(x:Int):DC 156 [.d (ints [x])] (.tup []):=by
 intro tok nt box nb;refine sI func156 ntmps156 fun Hb Ht=>?_
 try (simp[w64b])
 repeat (first|(refine sR ?_;simp[w64b])|(refine sC ?_;simp[w64b])|(refine sX ?_;simp only[AU,↓reduceIte]))
 refine sD (bitsLen_c _ _) ?_;simp;refine sD (pdqOne_c x _ _) ?_;simp;refine sE ?_;try simp only[AU]
 refine⟨by simp,sF Hb Ht (fun _ h=>h) (nr _) ?_⟩;simp
def stEqI(xs ys:List Int)(nb:Nat)(box:Bxs)(tok:Tks)(nt:Nat)(i:Nat):AS :=
 ⟨tl [(0,.d (ints xs)),(1,.d (ints ys)),(12,I xs.length),(13,I i)],lb nb box [],tok,nt⟩
set_option maxRecDepth 100000 in
theorem equalI_c(xs ys:List Int)(hx:xs.length<=1000000)(hy:ys.length<=1000000):DC 80 [.d (ints xs),.d (ints ys)] (B (decide (xs=ys))):=by
 intro tok nt box nb;refine sI func80 ntmps80 fun Hb Ht=>?_
 by_cases hl:xs.length=ys.length
 .have hl':(xs.length:Int)=ys.length:=by omega
  try (simp[hl'])
  repeat (first|(refine sR ?_;simp[hl'])|(refine sC ?_;simp[hl'])|(refine sX ?_;simp only[AU,↓reduceIte]))
  refine sN ?_;refine sL (stEqI xs ys nb box tok nt) (fun i=>i<=xs.length/\xs.take i=ys.take i) (fun i=>xs.length-i) 0 ⟨Nat.zero_le _,by simp⟩ (wM (nr _) rfl (by simp[ToL,lk,hl]) trivial) ?_;rintro i S' ⟨hi,htk⟩ hS;simp only[stEqI] at hS;subst hS;have hw:=sW (i:=i) (by omega);by_cases hlt:i<xs.length
  .have hlt2:i<ys.length:=by omega
   by_cases he:xs[i]=ys[i]
   .have b2:(xs[i] != ys[i])=false:=by simp[he]
    try (simp[hlt,hlt2,b2,he,hw])
    repeat (first|(refine sR ?_;simp[hlt,hlt2,b2,he,hw])|(refine sC ?_;simp[hlt,hlt2,b2,he,hw])|(refine sX ?_;simp only[AU,↓reduceIte]))
    refine sE ?_;refine⟨i+1,⟨hlt,?_⟩,by omega,wM (nr _) rfl (by simp[ToL,lk]) trivial⟩;rw[List.take_succ_eq_append_getElem hlt,List.take_succ_eq_append_getElem hlt2,htk,he]
   .have b2:(xs[i] != ys[i])=true:=by simp[he]
    have hne:¬xs=ys:=fun e=>he (by subst e;rfl)
    try (simp[hlt,hlt2,b2,he])
    repeat (first|(refine sR ?_;simp[hlt,hlt2,b2,he])|(refine sC ?_;simp[hlt,hlt2,b2,he])|(refine sX ?_;simp only[AU,↓reduceIte]))
    refine sT (sH Hb Ht ?_);simp[hne]
  .have hxy:xs=ys:=by rw[List.take_of_length_le (by omega),List.take_of_length_le (by omega)] at htk;exact htk
   try (simp[hlt])
   repeat (first|(refine sR ?_;simp[hlt])|(refine sC ?_;simp[hlt])|(refine sX ?_;simp only[AU,↓reduceIte]))
   refine sT (sH Hb Ht ?_);simp[hxy]
 .have hl':¬(xs.length:Int)=ys.length:=by omega
  have hne:¬xs=ys:=fun e=>hl (by rw[e])
  have b2:((xs.length:Int) != ys.length)=true:=by simp[hl']
  try (simp[hl',b2,hl])
  repeat (first|(refine sR ?_;simp[hl',b2,hl])|(refine sC ?_;simp[hl',b2,hl])|(refine sX ?_;simp only[AU,↓reduceIte]))
  refine sT (sH Hb Ht ?_);simp[hne]
def stEqB(xs ys:List Bool)(nb:Nat)(box:Bxs)(tok:Tks)(nt:Nat)(i:Nat):AS :=
 ⟨tl [(0,.d (bools xs)),(1,.d (bools ys)),(12,I xs.length),(13,I i)],lb nb box [],tok,nt⟩
set_option maxRecDepth 100000 in
theorem equalB_c(xs ys:List Bool)(hx:xs.length<=1000000)(hy:ys.length<=1000000):DC 38 [.d (bools xs),.d (bools ys)] (B (decide (xs=ys))):=by
 intro tok nt box nb;refine sI func38 ntmps38 fun Hb Ht=>?_
 by_cases hl:xs.length=ys.length
 .have hl':(xs.length:Int)=ys.length:=by omega
  try (simp[hl'])
  repeat (first|(refine sR ?_;simp[hl'])|(refine sC ?_;simp[hl'])|(refine sX ?_;simp only[AU,↓reduceIte]))
  refine sN ?_;refine sL (stEqB xs ys nb box tok nt) (fun i=>i<=xs.length/\xs.take i=ys.take i) (fun i=>xs.length-i) 0 ⟨Nat.zero_le _,by simp⟩ (wM (nr _) rfl (by simp[ToL,lk,hl]) trivial) ?_;rintro i S' ⟨hi,htk⟩ hS;simp only[stEqB] at hS;subst hS;have hw:=sW (i:=i) (by omega);by_cases hlt:i<xs.length
  .have hlt2:i<ys.length:=by omega
   have h1:xs.take (i+1)=xs.take i++[xs[i]]:=List.take_succ_eq_append_getElem hlt
   have h2:ys.take (i+1)=ys.take i++[ys[i]]:=List.take_succ_eq_append_getElem hlt2
   have h3:xs=ys->xs[i]=ys[i]:=fun e=>by subst e;rfl
   cases hx1:xs[i]<;>cases hy1:ys[i]<;>rw[hx1] at h1 h3<;>rw[hy1] at h2 h3
   case false.true =>
    have hne:¬xs=ys:=fun e=>by cases h3 e
    try (simp[hlt,hlt2,hx1,hy1])
    repeat (first|(refine sR ?_;simp[hlt,hlt2,hx1,hy1])|(refine sC ?_;simp[hlt,hlt2,hx1,hy1])|(refine sX ?_;simp only[AU,↓reduceIte]))
    refine sT (sH Hb Ht ?_);simp[hne]
   case true.false =>
    have hne:¬xs=ys:=fun e=>by cases h3 e
    try (simp[hlt,hlt2,hx1,hy1])
    repeat (first|(refine sR ?_;simp[hlt,hlt2,hx1,hy1])|(refine sC ?_;simp[hlt,hlt2,hx1,hy1])|(refine sX ?_;simp only[AU,↓reduceIte]))
    refine sT (sH Hb Ht ?_);simp[hne]
   all_goals
    try (simp[hlt,hlt2,hw,hx1,hy1])
    repeat (first|(refine sR ?_;simp[hlt,hlt2,hw,hx1,hy1])|(refine sC ?_;simp[hlt,hlt2,hw,hx1,hy1])|(refine sX ?_;simp only[AU,↓reduceIte]))
    refine sE ?_;exact⟨i+1,⟨hlt,by rw[h1,h2,htk]⟩,by omega,wM (nr _) rfl (by simp[ToL,lk]) trivial⟩
  .have hxy:xs=ys:=by rw[List.take_of_length_le (by omega),List.take_of_length_le (by omega)] at htk;exact htk
   try (simp[hlt])
   repeat (first|(refine sR ?_;simp[hlt])|(refine sC ?_;simp[hlt])|(refine sX ?_;simp only[AU,↓reduceIte]))
   refine sT (sH Hb Ht ?_);simp[hxy]
 .have hl':¬(xs.length:Int)=ys.length:=by omega
  have hne:¬xs=ys:=fun e=>hl (by rw[e])
  have b2:((xs.length:Int) != ys.length)=true:=by simp[hl']
  try (simp[hl',b2,hl])
  repeat (first|(refine sR ?_;simp[hl',b2,hl])|(refine sC ?_;simp[hl',b2,hl])|(refine sX ?_;simp only[AU,↓reduceIte]))
  refine sT (sH Hb Ht ?_);simp[hne]
structure Ar50 where
 ru:Int
 fr:Int
 to:Int
 m:Mo
 vs:List Int
abbrev Ar50.cells(a:Ar50):List D:=[.raw (.int .i64 a.ru),.raw (.int .i64 a.fr),.raw (.int .i64 a.to),ints a.m.nodes,ints a.m.edges,ints a.vs]
abbrev Ar50.pr(a:Ar50):Int × Int:=(a.fr,a.to)
abbrev arsD(A:List Ar50):D:=.sl 6 (A.map Ar50.cells)
abbrev Hs.cells(h:Hs):List D:=[ints h.g.nodes,AM.edges h.g.edges,lls h.vals]
abbrev hssD(H:List Hs):D:=.sl 3 (H.map Hs.cells)
abbrev spV(H:List Hs)(A:List Ar50):AV:=.agg [.d (hssD H),.d (arsD A)]
theorem TK.later{mtok:Nat->Bool}{nt0:Nat}{tok tok2:Nat->Bool}{nt nt2:Nat}{os os2:List Own}(h:TK mtok nt0 tok nt os)(k:TK (fun t=>tok t&&decide (t<nt)) nt tok2 nt2 os2):TK mtok nt0 tok2 nt2 os:=by
 have h1:=h.le;have h2:=k.le;refine⟨fun t ht=>k.old t ?_,h.lt,by omega,fun o ho t e=>?_,h.ne⟩
 .have:=h.lt t ht
  simp[h.old t ht];omega
 .obtain⟨g1,g2,g3⟩:=h.own o ho t e;exact⟨k.old t (by simp[g1,g3]),g2,by omega⟩
theorem TK.begin(tok:Tks)(nt:Nat):TK (fun t=>tok t&&decide (t<nt)) nt tok nt [.full]:=by
 refine⟨fun t ht=>?_,fun t ht=>?_,nr _,fun o ho t e=>?_,by simp⟩
 .simp at ht;exact ht.1
 .simp at ht;exact ht.2
 .simp at ho;subst ho;cases e
theorem TK.fulls{mtok:Nat->Bool}{nt0:Nat}{tok:Nat->Bool}{nt:Nat}{os:List Own}(h:TK mtok nt0 tok nt os):∀n,TK mtok nt0 tok nt (List.replicate n .full++os)
 | 0=>h
 | n+1=>by
  rw[List.replicate_succ,List.cons_append];exact(h.fulls n).full
def CutE{α:Type}(cx:Cx)(nt0:Nat)(T:α->AS)(inv:α->Prop)(S':AS):Prop:=∃a S1,inv a/\Weaks cx nt0 S' S1/\Trans cx nt0 S1 (T a)
theorem CutE.mk{α:Type}{cx:Cx}{nt0:Nat}{T:α->AS}{inv:α->Prop}{S':AS}(a:α)(S1:AS)(h1:inv a)(h2:Weaks cx nt0 S' S1)(h3:Trans cx nt0 S1 (T a)):CutE cx nt0 T inv S':=⟨a,S1,h1,h2,h3⟩
theorem AL.cutT{P:Program}{cx:Cx}{nt0:Nat}{K:Exit->AS->Prop}{l r:List CI}{S:AS}{y:Code}{α:Type}(T:α->AS)(inv:α->Prop)(h1:AL P cx nt0 (fun e S'=>match e with
   | .normal=>CutE cx nt0 T inv S'
   | e=>AU P cx nt0 K (.c y::r) e S') l S)(h2:∀a,inv a->AL P cx nt0 K (.c y::r) (T a)):AL P cx nt0 K (l++.c y::r) S:=by
 refine(AL.cut_aux ?_ ?_ l).1 S h1
 .rintro S ⟨a,S1,ha,hw,ht⟩;exact AL.weak hw (AL.trans ht (h2 a ha))
 .intro e S hne h;cases e with
  | normal=>exact absurd rfl hne
  | _=>exact h
theorem rowsTo_nils{p q:Nat->Prop}{fz:Option (Nat × Nat × List (List D))}(m n:Nat):RowsTo p q fz (List.replicate n [.osl 0 [] .full]) (opRows m n 0):=by
 rw[opRows_zero];refine rowsTo_same fun r hr x hx=>?_
 rw[(List.mem_replicate.1 hr).2] at hx;simp at hx;subst hx;exact .osl fun _ e=>by cases e
theorem opR_snd(m n:Nat):(opR m n).map (·.2)=List.replicate n []:=by
 apply List.ext_getElem<;>simp[opR]
theorem Trans.rfl'{cx:Cx}{nt0:Nat}{S:AS}:Trans cx nt0 S S:=fun G0 w0 G a w he hn hS hL=>⟨G,hS,hL⟩
structure GvH (t:Ty) (H:List Hs) (A:List Ar50) (f:Fo) (L:List Co):Prop where
 ft:t.Fit
 sm:f.Sm
 cos:Cos L
 va:VaF f L
 v0:validF f L=0
 ty:tyE t=0
 cn:∀c∈L,cnE t c=0
 kd:∀c∈L,c.kind=1
 hn:0<H.length
 hn2:H.length<=300
 an:A.length<=3000
 hg:∀h∈H,h.g.Fit/\h.vals.length<=1000000/\(hostR t (atsK t) h).2=0
 ar:∀a∈A,inR H.length a.fr/\inR H.length a.to
 vi:∀h∈H,∀c∈L,(vioS t c h.g fun _=>false).2=0
abbrev zMd:List AV:=[nilS,nilS,.d (.raw (.map none))]
def stGv1(t:Ty)(H:List Hs)(A:List Ar50)(f:Fo)(L:List Co)(nb:Nat)(box:Bxs)(tok:Tks)(nt:Nat)(i:Nat):AS :=
 ⟨tl [(50,.d (cosD L)),(51,I L.length),(52,I i),(3,.d (cosD L)),(4,.ptr (nb+4) 0 0),(5,.ptr (nb+5) 0 0),(6,.ptr (nb+6) 0 0),(8,.ptr (nb+8) 0 0)],
  lb nb box [(4,[[.d (nts t.nodes),.d (ets t.edges)]]),(5,[[.d (hssD H),.d (arsD A)]]),(6,[f.row]),(8,[zMd])],tok,nt⟩
def stGv2(t:Ty)(H:List Hs)(A:List Ar50)(f:Fo)(L:List Co)(nb:Nat)(box:Bxs)(tok:Tks)(nt:Nat)(i:Nat):AS :=
 ⟨tl [(80,.d (hssD H)),(81,I H.length),(82,I i),(16,I H.length),(3,.d (cosD L)),(4,.ptr (nb+4) 0 0),(5,.ptr (nb+5) 0 0),(6,.ptr (nb+6) 0 0),(8,.ptr (nb+8) 0 0)],
  lb nb box [(4,[[.d (nts t.nodes),.d (ets t.edges)]]),(5,[[.d (hssD H),.d (arsD A)]]),(6,[f.row]),(8,[zMd])],tok,nt⟩
structure GvA where
 i:Nat
 R:List (Nat × List Int)
 tok:Nat->Bool
 nt:Nat
abbrev gvM(nb n tm:Nat)(q:MpQ):List (List AV):=[[.msl (nb+98) 0 n 1,.msl (nb+100) 0 n 1,.mp tm (encQ q)]]
abbrev gvP(n:Nat):List (List Int × Own):=List.replicate n ([],.full)
def stGv3(t:Ty)(H:List Hs)(A:List Ar50)(f:Fo)(L:List Co)(n tm nb:Nat)(box:Bxs)(x:GvA):AS :=
 ⟨tl [(104,.d (arsD A)),(105,I A.length),(106,I x.i),(16,I n),(3,.d (cosD L)),(21,.ptr (nb+21) 0 0),(4,.ptr (nb+4) 0 0),(5,.ptr (nb+5) 0 0),(6,.ptr (nb+6) 0 0),(8,.ptr (nb+8) 0 0)],
  lb nb box [(98,rowsS x.R),(100,rowsW (gvP n)),(4,[[.d (nts t.nodes),.d (ets t.edges)]]),(5,[[.d (hssD H),.d (arsD A)]]),(6,[f.row]),(8,[zMd]),(21,gvM nb n tm [])],x.tok,x.nt⟩
theorem rowsS_mpU(t n:Nat)(es:List (ByteArray × List (List D) × Own))(R:List (Nat × List Int)):(rowsS R).map (fun r=>r.map (AV.mpU t n es))=rowsS R:=by
 simp[rowsS,AV.mpU]
theorem rowsW_mpU(t n:Nat)(es:List (ByteArray × List (List D) × Own))(P:List (List Int × Own)):(rowsW P).map (fun r=>r.map (AV.mpU t n es))=rowsW P:=by
 simp[rowsW,AV.mpU]
theorem rowsD_mpF(t:Nat)(es:List (List D)):(rowsD es).map (fun r=>r.map (AV.mpF t))=rowsD es:=by
 simp only[rowsD,List.map_map];refine List.map_congr_left fun e _=>?_
 simp only[Function.comp,List.map_map];refine List.map_congr_left fun x _=>?_
 rfl
structure GvB where
 i:Nat
 q:MpQ
 t:Nat
 tok:Nat->Bool
 nt:Nat
structure GvI (R:List (Nat × List Int)) (mtok:Tks) (nt0:Nat) (es:List (ByteArray × List Bool)) (M:Nat) (x:GvB):Prop where
 pl:plQ x.q=es
 le:∀e∈x.q,e.2.1.length<=M
 tk:TK mtok nt0 x.tok x.nt (.tok x.t::(ownQ x.q++ownR R))
def stGv4(t:Ty)(H:List Hs)(L:List Co)(F:List ByteArray)(n:Nat)(R:List (Nat × List Int))(nb:Nat)(box:Bxs)(x:GvB):AS :=
 ⟨tl [(160,.d (hssD H)),(161,I H.length),(162,I x.i),(24,.d (strs F)),(3,.d (cosD L)),(21,.ptr (nb+21) 0 0),(4,.ptr (nb+4) 0 0),(8,.ptr (nb+8) 0 0)],
  lb nb box [(98,rowsS R),(100,rowsW (gvP n)),(4,[[.d (nts t.nodes),.d (ets t.edges)]]),(8,[zMd]),(21,gvM nb n x.t x.q)],x.tok,x.nt⟩
def stGv5(t:Ty)(H:List Hs)(L:List Co)(F:List ByteArray)(n:Nat)(R:List (Nat × List Int))(h:Hs)(i:Nat)(nb:Nat)(box:Bxs)(x:GvB):AS :=
 ⟨tl [(166,.d (cosD L)),(167,I L.length),(168,I x.i),(26,.ptr (nb+26) 0 0),(160,.d (hssD H)),(161,I H.length),(162,I i),(24,.d (strs F)),(3,.d (cosD L)),(21,.ptr (nb+21) 0 0),(4,.ptr (nb+4) 0 0),(8,.ptr (nb+8) 0 0)],
  lb nb box [(98,rowsS R),(100,rowsW (gvP n)),(26,[[.d (ints h.g.nodes),.d (AM.edges h.g.edges),.d (lls h.vals)]]),(4,[[.d (nts t.nodes),.d (ets t.edges)]]),(8,[zMd]),(21,gvM nb n x.t x.q)],x.tok,x.nt⟩
structure GvC where
 i:Nat
 P:List (List Int × Own)
 tok:Nat->Bool
 nt:Nat
structure GvJ (R:List (Nat × List Int)) (q:MpQ) (tm:Nat) (mtok:Tks) (nt0:Nat) (x:GvC):Prop where
 pv:x.P.map (·.1)=pvP (nxR (R.map (·.2))) x.i
 le:∀e∈x.P,e.1.length<=x.i*300
 tk:TK mtok nt0 x.tok x.nt (ownR (R.drop x.i)++(ownW x.P++(.tok tm::ownQ q)))
def midL(A:List (List AV))(x:List AV)(B:List (List AV)):List (List AV):=A++x::B
theorem midL_len(A:List (List AV))(x:List AV)(B:List (List AV)):(midL A x B).length=A.length+1+B.length:=by simp[midL];omega
theorem midL_get{A:List (List AV)}{x:List AV}{B:List (List AV)}{i:Nat}(hA:A.length=i)(h:i<(midL A x B).length):(midL A x B)[i]=x:=by
 subst hA;simp[midL]
theorem midL_set{A:List (List AV)}{x z:List AV}{B:List (List AV)}{i:Nat}(hA:A.length=i):(midL A x B).set i z=midL A z B:=by
 subst hA;simp[midL]
def rowsA(R:List (Nat × List Int))(i:Nat):List (List AV):=rowsD (((nxR (R.map (·.2))).take i).map fun r=>[ints r])
def rowsX(R:List (Nat × List Int))(i:Nat):List (List AV):=rowsA R i++rowsS (R.drop i)
theorem rowsX_zero(R:List (Nat × List Int)):rowsX R 0=rowsS R:=by simp[rowsX,rowsA,rowsD]
theorem rowsX_mid{R:List (Nat × List Int)}{i:Nat}(h:i<R.length):rowsX R i=midL (rowsA R i) [.stk R[i].1 1 (rI R[i].2)] (rowsS (R.drop (i+1)))/\(rowsA R i).length=i/\rowsX R (i+1)=midL (rowsA R i) [.d (ints (nx1 i R[i].2))] (rowsS (R.drop (i+1))):=by
 have hl:i<(nxR (R.map (·.2))).length:=by simpa using h
 refine⟨?_,?_,?_⟩
 .unfold rowsX midL;rw[List.drop_eq_getElem_cons h];simp only[rowsS,List.map_cons]
 .simp[rowsA];omega
 .have hg:(nxR (R.map (·.2)))[i]=nx1 i R[i].2:=by rw[nxR_at (by simpa using h)];simp
  unfold rowsX midL rowsA;rw[List.take_succ_eq_append_getElem hl,hg];simp[rowsD]
def stGv6(n tm:Nat)(q:MpQ)(R:List (Nat × List Int))(nb:Nat)(box:Bxs)(x:GvC):AS :=
 ⟨tl [(207,I n),(208,I x.i),(21,.ptr (nb+21) 0 0),(8,.ptr (nb+8) 0 0)],lb nb box [(98,rowsX R x.i),(100,rowsW x.P),(8,[zMd]),(21,gvM nb n tm q)],x.tok,x.nt⟩
theorem rowsTo_app{p q:Nat->Prop}{fz:Option (Nat × Nat × List (List D))}:∀{a a' b b':List (List AV)},RowsTo p q fz a a'->RowsTo p q fz b b'->RowsTo p q fz (a++b) (a'++b')
 | [],[],_,_,_,h=>h
 | x::a,y::a',_,_,h,k=>by
  rw[rowsTo_cons] at h;rw[List.cons_append,List.cons_append,rowsTo_cons];exact⟨h.1,rowsTo_app h.2 k⟩
 | [],_::_,_,_,h,_=>by have:=h.1;simp at this
 | _::_,[],_,_,h,_=>by have:=h.1;simp at this
theorem midX_to{p:Nat->Prop}{fz:Option (Nat × Nat × List (List D))}{R:List (Nat × List Int)}{i j:Nat}{x y:AV}(h:To p (fun _=>True) fz x y):RowsTo p (fun _=>True) fz (midL (rowsA R i) [x] (rowsS (R.drop j))) (midL (rowsA R i) [y] (rowsS (R.drop j))):=by
 unfold midL;refine rowsTo_app (rowsTo_D _) (rowsTo_cons.2 ⟨rowTo_cons.2 ⟨h,rowTo_nil⟩,rowsS_to _⟩)
theorem rowsIX_to{p:Nat->Prop}{q:Nat->Prop}{fz:Option (Nat × Nat × List (List D))}(xs:List Int)(m:Nat):RowsTo p q fz (rowsI xs++List.replicate m (List.replicate 1 .bot)) (rowsI xs++List.replicate m (List.replicate 1 .bot)) :=
 rowsTo_app (rowsTo_I _) (rowsTo_same fun r hr x hx=>by rw[(List.mem_replicate.1 hr).2] at hx;simp at hx;subst hx;exact .bot)
theorem cvRs_cons{Rl:AV->AV->Prop}{x y:List AV}{a b:List (List AV)}(h:CvR Rl x y)(k:CvRs Rl a b):CvRs Rl (x::a) (y::b):=⟨by simp[k.1],fun i h1 h2=>by
 cases i with
 | zero=>exact h
 | succ i=>exact k.2 i (by simpa using h1) (by simpa using h2)⟩
theorem cvRs_ok{Rl:AV->AV->Prop}{a:List (List AV)}(h:∀r∈a,∀z∈r,Rl z z):CvRs Rl a a:=⟨rfl,fun i h1 _=>⟨rfl,fun j g1 _=>h _ (List.getElem_mem h1) _ (List.getElem_mem g1)⟩⟩
theorem cvRs_mid{Rl:AV->AV->Prop}{x y:AV}(h:Rl x y){B:List (List AV)}(hB:∀r∈B,∀z∈r,Rl z z):∀A:List (List AV),(∀r∈A,∀z∈r,Rl z z)->CvRs Rl (midL A [x] B) (midL A [y] B)
 | [],_=>cvRs_cons (cvR_cons h cvR_nil) (cvRs_ok hB)
 | a::A,hA=>cvRs_cons ⟨rfl,fun j g1 _=>hA a (by simp) _ (List.getElem_mem g1)⟩ (cvRs_mid h hB A fun r hr=>hA r (by simp[hr]))
theorem nx1_nil(i:Nat):nx1 i []=[(i:Int)]:=by simp[nx1,nx0,sortI]
structure GvD where
 o:Option (List (List AV))
 tok:Nat->Bool
def stGvT(n i tm:Nat)(q:MpQ)(P:List (List Int × Own))(A B:List (List AV))(r:List Int)(nt6 nb:Nat)(box:Bxs)(d:GvD):AS:=match d.o with
 | none=>⟨tl [(31,I i),(207,I n),(208,I i),(21,.ptr (nb+21) 0 0),(8,.ptr (nb+8) 0 0)],lb nb box [(98,midL A [.osl 1 (rI [(i:Int)]) .full] B),(100,rowsW P),(8,[zMd]),(21,gvM nb n tm q)],d.tok,nt6⟩
 | some Rr=>⟨tl [(31,I i),(207,I n),(208,I i),(21,.ptr (nb+21) 0 0),(8,.ptr (nb+8) 0 0)],lb nb box [(222,rowsI r++Rr),(98,midL A [.msl (nb+222) 0 r.length 1] B),(100,rowsW P),(8,[zMd]),(21,gvM nb n tm q)],d.tok,nt6⟩
structure GvDI (R:List (Nat × List Int)) (q:MpQ) (P:List (List Int × Own)) (r:List Int) (i tm:Nat) (mtok:Tks) (nt0 nt6:Nat) (d:GvD):Prop where
 no:d.o=none->r=[]
 so:d.o≠none->r≠[]
 to:∀Rr,d.o=some Rr->∀xs p q fz,RowsTo p q fz (rowsI xs++Rr) (rowsI xs++Rr)
 tk:TK mtok nt0 d.tok nt6 (ownR (R.drop (i+1))++(ownW P++(.tok tm::ownQ q)))
def stGvT2(n i tm:Nat)(q:MpQ)(P:List (List Int × Own))(A B:List (List AV))(r:List Int)(nt6 nb:Nat)(box:Bxs)(tok2:Nat->Bool):AS :=
 ⟨tl [(31,I i),(207,I n),(208,I i),(21,.ptr (nb+21) 0 0),(8,.ptr (nb+8) 0 0),(228,.bot)],lb nb box [(98,midL A [.d (ints r)] B),(100,rowsW P),(8,[zMd]),(21,gvM nb n tm q)],tok2,nt6⟩
structure GvK (P0:List (List Int)) (i:Nat) (r:List Int) (os:List Own) (mtok:Tks) (nt0:Nat) (y:GvC):Prop where
 pv:y.P.map (·.1)=pvJ i r P0 y.i
 le:∀e∈y.P,e.1.length<=i*300+y.i
 tk:TK mtok nt0 y.tok y.nt (ownW y.P++os)
def stGv7(n i tm:Nat)(q:MpQ)(A B:List (List AV))(r:List Int)(nb:Nat)(box:Bxs)(y:GvC):AS :=
 ⟨tl [(234,.d (ints r)),(235,I r.length),(236,I y.i),(31,I i),(207,I n),(208,I i),(21,.ptr (nb+21) 0 0),(8,.ptr (nb+8) 0 0)],lb nb box [(98,midL A [.d (ints r)] B),(100,rowsW y.P),(8,[zMd]),(21,gvM nb n tm q)],y.tok,y.nt⟩
def GvTk(R:List (Nat × List Int))(q:MpQ)(P:List (List Int × Own))(i tm:Nat)(mtok:Tks)(nt0 nt6:Nat)(tok2:Nat->Bool):Prop:=TK mtok nt0 tok2 nt6 (ownR (R.drop (i+1))++(ownW P++(.tok tm::ownQ q)))
set_option maxRecDepth 100000 in
set_option maxHeartbeats 2000000 in
theorem given50_c(t:Ty)(H:List Hs)(A:List Ar50)(f:Fo)(L:List Co)(h:GvH t H A f L):DC 90 [t.av,spV H A,f.av,.d (cosD L)] (.tup [(mdlR t H (A.map Ar50.pr) f L).av,I 0]):=by
 intro tok nt box nb;have hsz:f.size<=1000000:=by have:=h.va.size;omega
 have hval:=validT_c f L hsz h.sm h.cos;rw[h.v0] at hval;have hty:=valid_c4 t h.ft h.ft.hM;rw[h.ty] at hty;have hcn:∀c∈L,∀tok nt,DCall prog 17 [t.av,c.av] tok nt (I 0) tok nt:=fun c hc tok nt=>by
  have:=validK_c t h.ft c (h.cos.fit c hc) tok nt
  rw[h.cn c hc] at this;exact this
 have hho:∀x∈H,∀tok nt,DCall prog 154 [t.av,x.av] tok nt (.tup [I (hostR t (atsK t) x).1,I 0]) tok nt:=fun x hx tok nt=>by
  obtain⟨g1,g2,g3⟩:=h.hg x hx;have:=hostV_c t h.ft x g1 g2 tok nt
  rw[g3] at this;exact this
 have hvi:∀x∈H,∀c∈L,∀tok nt,DCall prog 47 [t.av,c.av,x.g.av] tok nt (.tup [.d (.sl 2 (mosR (vioS t c x.g fun _=>false).1)),I 0]) tok nt:=fun x hx c hc tok nt=>by
  have:=violationsK_c t h.ft c (h.cos.fit c hc) x.g (h.hg x hx).1 (fun _=>false) (fun e=>absurd (h.kd c hc) e) tok nt
  rw[h.vi x hx c hc] at this;exact this
 have hLn:=h.cos.n;have hn0:=h.hn;have hn2:=h.hn2;have han:=h.an;have har:=h.ar;obtain⟨Res,hRes⟩:∃Res,mdlR t H (A.map Ar50.pr) f L=Res:=⟨_,rfl⟩
 rw[hRes];refine sI func90 ntmps90 fun Hb Ht=>?_
 repeat first|simp|refine sR ?_
 refine sD (hval _ _) ?_;simp;try (simp)
 repeat (first|(refine sR ?_;simp)|(refine sC ?_;simp)|(refine sX ?_;simp only[AU,↓reduceIte]))
 refine sD (hty _ _) ?_;simp;try (simp)
 repeat (first|(refine sR ?_;simp)|(refine sC ?_;simp)|(refine sX ?_;simp only[AU,↓reduceIte]))
 refine sN ?_;refine sL (stGv1 t H A f L nb box tok nt) (fun i=>i<=L.length) (fun i=>L.length-i) 0 (Nat.zero_le _) wkA ?_;rintro i S hi hS;simp only[stGv1] at hS;subst hS;have hw:=sW (i:=i) (by omega);repeat first|simp|refine sR ?_|refine sC ?_
 refine⟨fun hlt=>?_,fun hge=>?_⟩
 .have hc:=hcn _ (List.getElem_mem hlt);repeat first|simp[hlt]|refine sR ?_
  generalize L[i]=x at *;refine sD (hc _ _) ?_;simp;try (simp[hw])
  repeat (first|(refine sR ?_;simp[hw])|(refine sC ?_;simp[hw])|(refine sX ?_;simp only[AU,↓reduceIte]))
  refine sE ?_;exact⟨i+1,hlt,by omega,wkA⟩
 .refine sX ?_;simp only[AU,↓reduceIte];clear hw;have b0:¬(H.length:Int)=0:=by omega
  have b1:((H.length:Int)==0)=false:=by simpa using b0
  have b2:decide ((300:Int)<(H.length:Int))=false:=by simp;omega
  have b3:decide ((3000:Int)<(A.length:Int))=false:=by simp;omega
  try (simp[b1,b2,b3])
  repeat (first|(refine sR ?_;simp[b1,b2,b3])|(refine sC ?_;simp[b1,b2,b3])|(refine sX ?_;simp only[AU,↓reduceIte]))
  refine sN ?_;refine sL (stGv2 t H A f L nb box tok nt) (fun i=>i<=H.length) (fun i=>H.length-i) 0 (Nat.zero_le _) wkA ?_;rintro i S hi hS;simp only[stGv2] at hS;subst hS;have hw:=sW (i:=i) (by omega);repeat first|simp|refine sR ?_|refine sC ?_
  refine⟨fun hlt=>?_,fun hge=>?_⟩
  .have hc:=hho _ (List.getElem_mem hlt);repeat first|simp[hlt]|refine sR ?_
   generalize H[i]=x at *;refine sD (hc _ _) ?_;simp;try (simp[hw])
   repeat (first|(refine sR ?_;simp[hw])|(refine sC ?_;simp[hw])|(refine sX ?_;simp only[AU,↓reduceIte]))
   refine sE ?_;exact⟨i+1,hlt,by omega,wkA⟩
  .refine sX ?_;simp only[AU,↓reduceIte];clear hw;repeat first|simp|refine sR ?_
   try refine⟨by omega,?_⟩
   try simp
   refine AL.weak (wM (l':=[(16,I H.length),(3,.d (cosD L)),(21,.ptr (nb+21) 0 0),(4,.ptr (nb+4) 0 0),(5,.ptr (nb+5) 0 0),(6,.ptr (nb+6) 0 0),(8,.ptr (nb+8) 0 0)])
    (loc':=[(98,opRows (nt+1) H.length 0),(100,rowsW (gvP H.length)),(4,[[.d (nts t.nodes),.d (ets t.edges)]]),(5,[[.d (hssD H),.d (arsD A)]]),(6,[f.row]),(8,[zMd]),(21,gvM nb H.length nt [])]) (Nat.le_succ _) rfl (by simp[ToL,lk]) (by simp[BoxL,lk];exact⟨rowsTo_nils _ _,rowsW_nil _⟩)) ?_
   refine AL.trans (Trans.opnRows 98 H.length H.length) ?_;rw[opRows_all];have htk0:TK tok nt (upd tok nt true) (nt+1) [.tok nt]:=((TK.start Ht).full.app:TK _ _ _ _ _)
   have htk1:=htk0.opTok H.length;have hR0:(opR (nt+1) H.length).map (·.2)=arP H.length (A.map Ar50.pr) 0:=by rw[opR_snd,arP_zero]
   have hnt1:nt<=nt+1+H.length:=by omega
   generalize opR (nt+1) H.length=R0 at *;generalize opTok (upd tok nt true) (nt+1) H.length=tok1 at *;generalize nt+1+H.length=nt1 at *;repeat first|simp|refine sR ?_
   refine sN ?_;refine sL (stGv3 t H A f L H.length nt nb box) (fun x=>x.i<=A.length/\x.R.map (·.2)=arP H.length (A.map Ar50.pr) x.i/\TK tok nt x.tok x.nt (ownR x.R++[.tok nt])) (fun x=>A.length-x.i) ⟨0,R0,tok1,nt1⟩ ⟨Nat.zero_le _,hR0,htk1⟩ (wM hnt1 rfl (by simp[ToL,lk]) (by simp[BoxL,lk];exact⟨rowsS_to _,rowsW_to _⟩)) ?_;rintro⟨i,R,tok3,nt3⟩ S ⟨hi,hR,htk⟩ hS;simp only[stGv3] at hS hi hR htk;subst hS;have hw:=sW (i:=i) (by omega);have harm:∀a∈A.map Ar50.pr,inR H.length a.1/\inR H.length a.2:=fun a ha=>by obtain⟨x,hx,rfl⟩:=List.mem_map.1 ha;exact har x hx
   have hok:=arP_ok harm i (by simpa using hi);have hRl:R.length=H.length:=by have:=congrArg List.length hR;rw[hok.len] at this;simpa using this
   repeat first|simp|refine sR ?_|refine sC ?_
   refine⟨fun hlt=>?_,fun hge=>?_⟩
   .obtain⟨⟨f1,f2⟩,f3,f4⟩:=har _ (List.getElem_mem hlt);have hsucc:=arP_succ (n:=H.length) (A:=A.map Ar50.pr) (i:=i) (by simpa using hlt);have hpr:(A.map Ar50.pr)[i]'(by simpa using hlt)=A[i].pr:=by simp
    rw[hpr] at hsucc;repeat first|simp[hlt]|refine sR ?_
    generalize A[i]=x at *;have g1:¬x.fr<0:=by omega
    have g2:¬(H.length:Int)<=x.fr:=by omega
    have g3:¬x.to<0:=by omega
    have g4:¬(H.length:Int)<=x.to:=by omega
    have fk:x.fr.toNat<R.length:=by omega
    have fk2:x.fr.toNat<H.length:=by omega
    have hRk:(arP H.length (A.map Ar50.pr) i).getD x.fr.toNat []=R[x.fr.toNat].2:=by rw[<-hR];simp[fk]
    have hRn:R[x.fr.toNat].2.length<=300:=by
     have:=hok.le ((arP H.length (A.map Ar50.pr) i).getD x.fr.toNat []) (by
      have hl:x.fr.toNat<(arP H.length (A.map Ar50.pr) i).length:=by rw[hok.len];exact fk2
      rw[List.getD_eq_getElem?_getD,List.getElem?_eq_getElem hl,Option.getD_some];exact List.getElem_mem _)
     rw[hRk] at this;omega
    have hrg:∀h,(rowsS R)[x.fr.toNat]'h=[AV.stk R[x.fr.toNat].1 1 (rI R[x.fr.toNat].2)]:=fun h=>by simp[rowsS]
    obtain⟨hlv,hap⟩:=htk.rowApp fk (R[x.fr.toNat].2++[x.to]);unfold arS at hsucc;simp only[Ar50.pr] at hsucc;rw[hRk] at hsucc;try (simp[g1,g2,g3,g4,fk,fk2,f1,f2,hrg])
    repeat (first|(refine sR ?_;simp[g1,g2,g3,g4,fk,fk2,f1,f2,hrg])|(refine sC ?_;simp[g1,g2,g3,g4,fk,fk2,f1,f2,hrg])|(refine sX ?_;simp only[AU,↓reduceIte]))
    have hct:=fun tok=>contains_c R[x.fr.toNat].2 x.to (by omega) tok nt3
    refine Stop.of_r (RCall.lends rfl hct ⟨.stk hlv,.same (by simp),trivial⟩) ?_;cases ed:decide (x.to∈R[x.fr.toNat].2)
    .rw[ed] at hsucc;simp only[Bool.false_eq_true,↓reduceIte] at hsucc;try (simp[g1,g2,g3,g4,fk,fk2,f1,f2,hrg])
     repeat (first|(refine sR ?_;simp[g1,g2,g3,g4,fk,fk2,f1,f2,hrg])|(refine sC ?_;simp[g1,g2,g3,g4,fk,fk2,f1,f2,hrg])|(refine sX ?_;simp only[AU,↓reduceIte]))
     refine⟨⟨by omega,hlv⟩,?_⟩;have hset:=rowsS_set R x.fr.toNat nt3 (R[x.fr.toNat].2++[x.to]);rw[<-rI_snoc] at hset;try (simp[hset,hw])
     repeat (first|(refine sR ?_;simp[hset,hw])|(refine sC ?_;simp[hset,hw])|(refine sX ?_;simp only[AU,↓reduceIte]))
     refine sE ?_;exact⟨⟨i+1,R.set x.fr.toNat (nt3,R[x.fr.toNat].2++[x.to]),_,nt3+1⟩,⟨hlt,by simp only;rw[hsucc,<-hR,List.map_set],hap⟩,by simp only;omega,wM hap.le rfl (by simp[ToL,lk]) (by simp[BoxL,lk];exact⟨rowsS_to _,rowsW_to _⟩)⟩
    .rw[ed] at hsucc;simp only[↓reduceIte] at hsucc;try (simp[hw])
     repeat (first|(refine sR ?_;simp[hw])|(refine sC ?_;simp[hw])|(refine sX ?_;simp only[AU,↓reduceIte]))
     refine sE ?_;exact⟨⟨i+1,R,tok3,nt3⟩,⟨hlt,by simp only;rw[hsucc];exact hR,htk⟩,by simp only;omega,wM htk.le rfl (by simp[ToL,lk]) (by simp[BoxL,lk];exact⟨rowsS_to _,rowsW_to _⟩)⟩
   .refine sX ?_;simp only[AU,↓reduceIte];have:i=A.length:=by omega
    subst this;clear hw;have hrg:R.map (·.2)=arP H.length (A.map Ar50.pr) (A.map Ar50.pr).length:=by rw[hR,List.length_map]
    have hat:=atomsT_c (fun t=>tok3 t&&decide (t<nt3)) nt3 _ f (Nat.lt_succ_self _) hsz [] .full 0 tok3 nt3 (TK.begin tok3 nt3) (.inr ⟨rfl,rfl⟩) (by simp;omega);rw[List.nil_append] at hat;obtain⟨F,hF⟩:∃F,f.ats=F:=⟨_,rfl⟩
    have hFl:F.length<=1000000:=by rw[<-hF];have:=f.ats_len _ (Nat.lt_succ_self _);omega
    rw[hF] at hat;repeat first|simp|refine sR ?_
    refine Stop.of_a (hat _ _) ?_;rintro v m' ⟨sz,own,tok4,nt4,rfl,rfl,htk4,hle4,hsz4⟩;have hto:∀p q fz,To p q fz (.osl sz (rSt F) own) (.d (strs F)):=fun p q fz=>by
     rcases hsz4 with h|⟨h,_⟩
     .subst h;exact .data
     .subst h;exact .odsub .emp
    have htk5:TK tok nt tok4 nt4 (.tok nt::(ownQ []++ownR R)):=(htk.later htk4).perm List.perm_append_comm
    clear htk htk4 hat hle4 hsz4;repeat first|simp|refine sR ?_
    refine sN ?_;refine sL (stGv4 t H L F H.length R nb box) (fun x=>x.i<=H.length/\GvI R tok nt ((H.take x.i).foldl (atmH (memS F) (bitS t) L) []) (x.i*20) x) (fun x=>H.length-x.i) ⟨0,[],nt,tok4,nt4⟩ ⟨Nat.zero_le _,⟨by simp,by simp,htk5⟩⟩ (wM htk5.le rfl (by simp[ToL,lk];exact hto _ _ _) (by simp[BoxL,lk];exact⟨rowsS_to _,rowsW_to _⟩)) ?_;clear htk5 hto;rintro⟨i,q,tm,tok5,nt5⟩ S ⟨hi,hI⟩ hS;simp only[stGv4] at hS hi hI;subst hS;have hw:=sW (i:=i) (by omega);repeat first|simp|refine sR ?_|refine sC ?_
    refine⟨fun hlt=>?_,fun hge=>?_⟩
    .have hvh:=hvi _ (List.getElem_mem hlt);have hsucc:(H.take (i+1)).foldl (atmH (memS F) (bitS t) L) []=L.foldl (atmS (memS F) (bitS t H[i])) ((H.take i).foldl (atmH (memS F) (bitS t) L) []):=by
      rw[List.take_succ_eq_append_getElem hlt,List.foldl_append];rfl
     have hI0:GvI R tok nt ((L.take 0).foldl (atmS (memS F) (bitS t H[i])) ((H.take i).foldl (atmH (memS F) (bitS t) L) [])) (i*20+0) ⟨0,q,tm,tok5,nt5⟩:=⟨hI.pl,hI.le,hI.tk⟩
     have hle0:=hI.tk.le;clear hI;generalize (H.take i).foldl (atmH (memS F) (bitS t) L) []=es0 at *;repeat first|simp[hlt]|refine sR ?_
     generalize H[i]=hh at *;repeat first|simp|refine sR ?_
     refine sN ?_;refine sL (stGv5 t H L F H.length R hh i nb box) (fun x=>x.i<=L.length/\GvI R tok nt ((L.take x.i).foldl (atmS (memS F) (bitS t hh)) es0) (i*20+x.i) x) (fun x=>L.length-x.i) ⟨0,q,tm,tok5,nt5⟩ ⟨Nat.zero_le _,hI0⟩ (wM hle0 rfl (by simp[ToL,lk]) (by simp[BoxL,lk];exact⟨rowsS_to _,rowsW_to _⟩)) ?_;clear hI0 hle0;rintro⟨j,q,tm,tok5,nt5⟩ S ⟨hj,hI⟩ hS;simp only[stGv5] at hS hj hI;subst hS;have hw2:=sW (i:=j) (by omega);repeat first|simp|refine sR ?_|refine sC ?_
     refine⟨fun hlt2=>?_,fun hge2=>?_⟩
     .have hvc:=hvh _ (List.getElem_mem hlt2);have hstep:(L.take (j+1)).foldl (atmS (memS F) (bitS t hh)) es0=atmS (memS F) (bitS t hh) ((L.take j).foldl (atmS (memS F) (bitS t hh)) es0) L[j]:=by
       rw[List.take_succ_eq_append_getElem hlt2,List.foldl_append];rfl
      generalize hes2:(L.take (j+1)).foldl (atmS (memS F) (bitS t hh)) es0=es2 at *;generalize (L.take j).foldl (atmS (memS F) (bitS t hh)) es0=es1 at *;repeat first|simp[hlt2]|refine sR ?_
      generalize L[j]=c at *;refine sD (containsS_c F c.name hFl _ _) ?_;simp;unfold atmS at hstep;have hle1:=hI.tk.le;cases eu:memS F c.name
      .rw[eu] at hstep;simp only[Bool.false_eq_true,↓reduceIte] at hstep;try (simp[hw2])
       repeat (first|(refine sR ?_;simp[hw2])|(refine sC ?_;simp[hw2])|(refine sX ?_;simp only[AU,↓reduceIte]))
       refine sE ?_;exact⟨⟨j+1,q,tm,tok5,nt5⟩,⟨hlt2,by simp only;rw[hes2,hstep];exact⟨hI.pl,fun e he=>by have:=hI.le e he;omega,hI.tk⟩⟩,by simp only;omega,wM hle1 rfl (by simp[ToL,lk]) (by simp[BoxL,lk];exact⟨rowsS_to _,rowsW_to _⟩)⟩
      .rw[eu] at hstep;simp only[↓reduceIte] at hstep;try (simp)
       repeat (first|(refine sR ?_;simp)|(refine sC ?_;simp)|(refine sX ?_;simp only[AU,↓reduceIte]))
       refine sD (hvc _ _) ?_;simp;unfold bitS at hstep;generalize (vioS t c hh.g fun _=>false).1=V at *;obtain⟨b,hb⟩:∃b,((V.length:Int)==0)=b:=⟨_,rfl⟩
       have hb2:decide (V.length=0)=b:=by rw[<-hb,Bool.eq_iff_iff];simp
       rw[hb2] at hstep;obtain⟨sz,xs,own,hget,hsz2,hlv,hxs,hput⟩:=mp_step c.name (hI.tk.perm List.perm_middle.symm);obtain⟨hpq,hpt⟩:=hput b;have hxl:xs.length<=i*20+j:=by
        rcases hxs with h|⟨e,he,h⟩
        .rw[h];exact Nat.zero_le _
        .rw[<-h];exact hI.le e he
       have hpt2:TK tok nt (upd (upd (upd (own.kill tok5) nt5 true) tm false) (nt5+1) true) (nt5+1+1) (.tok (nt5+1)::(ownQ (putQ q c.name b nt5)++ownR R)):=(hpt.perm List.perm_middle).app
       have hpl:plQ (putQ q c.name b nt5)=es2:=by rw[putQ_pl,hI.pl,hstep]
       have hple:=putQ_len (s:=c.name) (b:=b) (t:=nt5) hI.le;have hmt:mapT prog 178=true:=by kernel_rfl
       have htt:tok5 tm=true:=hI.tk.live
       refine sR ?_;simp;refine sC ?_;simp;refine sN ?_;refine AL.splitLG (by rfl) (by rfl) follows_Tryz (nr _) (by kernel_rfl) ?_;simp[hget,hmt,hb];refine⟨htt,⟨hsz2,by omega,hlv⟩,?_⟩;refine LastK.put tm (encQ q) c.name (rBo xs++[[D.raw (.bool b)]]) (.tok nt5) rfl rfl hmt (hpt.own (.tok tm) (by simp) tm rfl).1 (by simp) (by simp) (by simp) ?_;rw[hpq];simp[rowsS_mpU,rowsW_mpU];try (simp[hw2])
       repeat (first|(refine sR ?_;simp[hw2])|(refine sC ?_;simp[hw2])|(refine sX ?_;simp only[AU,↓reduceIte]))
       refine sE ?_;exact⟨⟨j+1,putQ q c.name b nt5,nt5+1,_,nt5+1+1⟩,⟨hlt2,by simp only;rw[hes2];exact⟨hpl,fun e he=>by have:=hple e he;omega,hpt2⟩⟩,by simp only;omega,wM hpt2.le rfl (by simp[ToL,lk]) (by simp[BoxL,lk];exact⟨rowsS_to _,rowsW_to _⟩)⟩
     .refine sX ?_;simp only[AU,↓reduceIte];have:j=L.length:=by omega
      subst this;rw[List.take_length,<-hsucc] at hI;have hle1:=hI.tk.le;have hnL:=h.va.nL;try (simp[hw])
      repeat (first|(refine sR ?_;simp[hw])|(refine sC ?_;simp[hw])|(refine sX ?_;simp only[AU,↓reduceIte]))
      refine sE ?_;exact⟨⟨i+1,q,tm,tok5,nt5⟩,⟨hlt,⟨hI.pl,fun e he=>by have:=hI.le e he;simp only at this ⊢;omega,hI.tk⟩⟩,by simp only;omega,wM hle1 rfl (by simp[ToL,lk]) (by simp[BoxL,lk];exact⟨rowsS_to _,rowsW_to _⟩)⟩
    .refine sX ?_;simp only[AU,↓reduceIte];have:i=H.length:=by omega
     subst this;rw[List.take_length] at hI;clear hw;have hNok:=arP_ok harm (A.map Ar50.pr).length (nr _);rw[<-hrg] at hNok;obtain⟨hXok,hXne⟩:=nxR_ok hNok;have hpl:=hI.pl;simp only at hpl;have hres:Res=⟨nxR (R.map (·.2)),pvP (nxR (R.map (·.2))) H.length,plQ q⟩:=by
      rw[<-hRes,hpl,hrg];unfold mdlR usedF;rw[hF];rfl
     have htk6:TK tok nt tok5 nt5 (ownR (R.drop 0)++(ownW (gvP H.length)++(.tok tm::ownQ q))):=by
      have h0:TK tok nt tok5 nt5 ((.tok tm::ownQ q)++ownR R):=hI.tk
      have h1:=(h0.perm List.perm_append_comm).fulls H.length;have h2:=h1.perm (List.perm_append_comm_assoc _ _ _);have e:ownW (gvP H.length)=List.replicate H.length .full:=by simp
      rw[e,List.drop_zero];exact h2
     have hP0:(gvP H.length).map (·.1)=pvP (nxR (R.map (·.2))) 0:=by simp[pvP,hRl]
     have hL0:∀e∈gvP H.length,e.1.length<=0*300:=by
      intro e he;rw[(List.mem_replicate.1 he).2];simp
     clear hI hpl hRes hval hty hcn hho hvi hF hFl hR hrg;repeat first|simp|refine sR ?_
     refine sN ?_;refine sL (stGv6 H.length tm q R nb box) (fun x=>x.i<=H.length/\GvJ R q tm tok nt x) (fun x=>H.length-x.i) ⟨0,gvP H.length,tok5,nt5⟩ ⟨Nat.zero_le _,⟨hP0,hL0,htk6⟩⟩ (wM htk6.le rfl (by simp[ToL,lk]) (by simp[BoxL,lk,rowsX_zero];exact⟨rowsS_to _,rowsW_to _⟩)) ?_;clear htk6 hP0 hL0;rintro⟨i,P,tok6,nt6⟩ S ⟨hi,hJ⟩ hS;simp only[stGv6] at hS hi;subst hS;have hw:=sW (i:=i) (by omega);obtain⟨hJp,hJl,hJt⟩:=hJ;simp only at hJp hJl hJt;have hle6:=hJt.le;repeat first|simp|refine sR ?_|refine sC ?_
     refine⟨fun hlt=>?_,fun hge=>?_⟩
     .have hiR:i<R.length:=by omega
      obtain⟨hX,hAl,hX1⟩:=rowsX_mid hiR;have hml:=fun y=>midL_len (rowsA R i) y (rowsS (R.drop (i+1)))
      have hBl:(rowsS (R.drop (i+1))).length=H.length-(i+1):=by simp[hRl]
      have hml:∀y,(midL (rowsA R i) y (rowsS (R.drop (i+1)))).length=H.length:=fun y=>by rw[midL_len,hAl,hBl];omega
      have hmg:∀y h,(midL (rowsA R i) y (rowsS (R.drop (i+1))))[i]'h=y:=fun y h=>midL_get hAl h
      have hms:∀y z,(midL (rowsA R i) y (rowsS (R.drop (i+1)))).set i z=midL (rowsA R i) z (rowsS (R.drop (i+1))):=fun y z=>midL_set hAl
      have hdr:R.drop i=R[i]::R.drop (i+1):=List.drop_eq_getElem_cons hiR
      rw[hdr] at hJt;have hri:R[i].2∈R.map (·.2):=List.mem_map.2 ⟨_,List.getElem_mem hiR,rfl⟩
      have hrn:=hNok.nod _ hri;have hrr:=hNok.rng _ hri;have hrl:=hNok.le _ hri;rw[hX];have hrv:nx1 i R[i].2=(nxR (R.map (·.2))).getD i []:=by simp[nxR,hiR]
      generalize R[i]=r at *;obtain⟨tr,r⟩:=r;simp only at hX1 hrv hrn hrr hrl hJt;have htr:tok6 tr=true:=(hJt.own (.tok tr) (by simp) tr rfl).1
      repeat first|simp[hlt,hml,hmg]|refine sR ?_
      refine AL.midT (stGvT H.length i tm q P (rowsA R i) (rowsS (R.drop (i+1))) r nt6 nb box) (GvDI R q P r i tm tok nt nt6) ?_ ?_
      .by_cases hr:r=[]
       .subst hr;have ht2:=hJt.tail;refine sC ?_;simp;repeat first|simp[hlt,hml,hmg,hms]|refine sR ?_
        refine sE ?_;exact⟨⟨none,tok6⟩,⟨fun _=>rfl,fun h=>absurd rfl h,fun _ h=>by simp at h,ht2⟩,wM hle6 rfl (by simp[ToL,lk]) (by simp[BoxL,lk];exact⟨midX_to (.same (.osl fun _ e=>by cases e)),rowsW_to _⟩)⟩
       .have hne:rI r≠[]:=by simpa using hr
        have b:((r.length:Int)==0)=false:=by simpa using hr
        refine AL.weak (wM (l':=[(217,.d (.raw (.bool false))),(215,.stk tr 1 (rI r)),(31,I i),(207,I H.length),(208,I i),(21,.ptr (nb+21) 0 0),(8,.ptr (nb+8) 0 0)])
         (loc':=[(98,midL (rowsA R i) [.stk tr 1 (rI r)] (rowsS (R.drop (i+1)))),(100,rowsW P),(8,[zMd]),(21,gvM nb H.length tm q)]) hle6 rfl (by simp[ToL,lk,b]) (by simp[BoxL,lk];exact⟨midX_to (.same (.stk trivial)),rowsW_to _⟩)) ?_
        refine AL.thawS (l':=[(217,.d (.raw (.bool false))),(215,.msl (nb+222) 0 r.length 1),(31,I i),(207,I H.length),(208,I i),(21,.ptr (nb+21) 0 0),(8,.ptr (nb+8) 0 0)])
         (loc':=[(98,midL (rowsA R i) [.msl (nb+222) 0 r.length 1] (rowsS (R.drop (i+1)))),(100,rowsW P),(8,[zMd]),(21,gvM nb H.length tm q)]) tr 222 1 (rI r) 215 rfl (show (222:Nat)<255 by decide) rfl htr hne rfl (by simp[CvL])
         ⟨rfl,cvRs_mid (by simp) (fun _ _ _ _=>.same) _ (fun _ _ _ _=>.same),cvB_refl (fun _=>.same) _⟩ ?_
        intro mm;rw[<-rowsI_eq];refine sC ?_;simp;refine sE ?_;exact⟨⟨some (List.replicate mm (List.replicate 1 .bot)),upd tok6 tr false⟩,⟨fun h=>by simp at h,fun _=>hr,fun Rr h=>by cases h;exact fun xs p q fz=>rowsIX_to xs mm,hJt.spend⟩,
         wM hle6 rfl (by simp[ToL,lk]) (by simp[BoxL,lk];exact⟨rowsIX_to _ _,midX_to (.same (.msl (by simp[lb_at,lk]))),rowsW_to _⟩)⟩
      .rintro⟨o,tok7⟩ ⟨hd1,hd2,hd3,hdt⟩;simp only at hd1 hd2 hd3 hdt;refine AL.seq ?_;refine AL.cutT (l:=[_]) (stGvT2 H.length i tm q P (rowsA R i) (rowsS (R.drop (i+1))) (nx1 i r) nt6 nb box) (GvTk R q P i tm tok nt nt6) ?_ ?_
       .cases o with
        | none =>
         obtain rfl:=hd1 rfl;simp only[stGvT];repeat first|simp[hlt,hml,hmg]|refine sR ?_
         refine Stop.data ?_;refine sD (sortOne_c _ _ _) ?_;simp;refine sE ?_;exact CutE.mk tok7 (stGvT2 H.length i tm q P (rowsA R i) (rowsS (R.drop (i+1))) (nx1 i []) nt6 nb box tok7) hdt (wM hle6 rfl (by simp[ToL,lk]) (by simp[BoxL,lk];exact⟨midX_to (by rw[nx1_nil];exact .data),rowsW_to _⟩)) Trans.rfl'
        | some Rr =>
         have hr:=hd2 (by simp);have hRr:=hd3 Rr rfl;have hsb:=fun bx hk=>sortBox_c r (by omega) bx (nb+222) (nb+255) Rr hk tok7 nt6
         have e0:nx0 i r=r:=by unfold nx0;rw[if_neg hr]
         have hsl:r.length=(rI (sortI r)).length:=by simp[sortI]
         simp only[stGvT];repeat first|simp[hlt,hml,hmg]|refine sR ?_
         refine Stop.of_a (hsb _ (by simp[lb_at,lk])) ?_;rintro v m' ⟨rfl,rfl⟩;simp;refine sE ?_;refine CutE.mk tok7 ⟨tl [(31,I i),(207,I H.length),(208,I i),(21,.ptr (nb+21) 0 0),(8,.ptr (nb+8) 0 0),(228,.msl (nb+222) 0 (rI (sortI r)).length 1)],
          lb nb box ((222,rowsD (rI (sortI r))++Rr)::[(98,midL (rowsA R i) [.msl (nb+222) 0 (rI (sortI r)).length 1] (rowsS (R.drop (i+1)))),(100,rowsW P),(8,[zMd]),(21,gvM nb H.length tm q)]),tok7,nt6⟩ hdt ?_ ?_
         .rw[<-hsl,<-rowsI_eq];exact wM hle6 rfl (by simp[ToL,lk]) (by simp[BoxL,lk];exact⟨hRr _ _ _ _,midX_to (.same (.msl (by simp[lb_at,lk]))),rowsW_to _⟩)
         .refine Trans.sealD (l':=[(31,I i),(207,I H.length),(208,I i),(21,.ptr (nb+21) 0 0),(8,.ptr (nb+8) 0 0),(228,.bot)]) (loc':=[(98,midL (rowsA R i) [.d (ints (nx1 i r))] (rowsS (R.drop (i+1)))),(100,rowsW P),(8,[zMd]),(21,gvM nb H.length tm q)])
           222 1 (rI (sortI r)) Rr 228 rfl (fun e he=>by obtain⟨b,_,rfl⟩:=List.mem_map.1 he;rfl) rfl rfl ?_ ?_
          .exact⟨rfl,.same .d,rfl,.same .d,rfl,.same .d,rfl,.same (.ptr (show nb+21≠nb+222 by omega)),rfl,.same (.ptr (show nb+8≠nb+222 by omega)),rfl,.bot,trivial⟩
          .refine⟨rfl,cvRs_mid (by unfold nx1;rw[e0];exact .msl) ?_ _ ?_,rfl,cvRs_ok ?_,rfl,cvRs_ok ?_,rfl,cvRs_ok ?_,trivial⟩
           .intro a ha z hz;obtain⟨y,_,rfl⟩:=List.mem_map.1 ha;simp at hz;subst hz;exact .same (.stk trivial)
           .intro a ha z hz;obtain⟨y,_,rfl⟩:=List.mem_map.1 ha;obtain⟨y',_,rfl⟩:=List.mem_map.1 hz;exact .same .d
           .intro a ha z hz;obtain⟨y,_,rfl⟩:=List.mem_map.1 ha;simp at hz;subst hz;exact .same (.osl fun _ _=>trivial)
           .intro a ha z hz;simp at ha;subst ha;simp at hz;rcases hz with rfl|rfl<;>exact .same (by constructor<;>simp)
           .intro a ha z hz;simp at ha;subst ha;simp at hz;rcases hz with rfl|rfl|rfl
            .exact .same (.msl (show nb+98≠nb+222 by omega))
            .exact .same (.msl (show nb+100≠nb+222 by omega))
            .exact .same (.mp trivial fun _ _ _ _=>trivial)
       .intro tok2 ht2;have ht2:TK tok nt tok2 nt6 (ownR (R.drop (i+1))++(ownW P++(.tok tm::ownQ q))):=ht2
        simp only[stGvT2];obtain⟨hs1,hs2,hs3⟩:=nx1_ok hlt hrn hrr;have hs4:=nodup_len _ _ hs1 hs2;have hNX:(nxR (R.map (·.2))).getD i []=nx1 i r:=by rw[<-hrv]
        have hpvs:=pvP_succ hNX;have ht3:TK tok nt tok2 nt6 (ownW P++(ownR (R.drop (i+1))++(.tok tm::ownQ q))):=ht2.perm (List.perm_append_comm_assoc _ _ _)
        generalize nx1 i r=r2 at *;have hJ0:GvK (pvP (nxR (R.map (·.2))) i) i r2 (ownR (R.drop (i+1))++(.tok tm::ownQ q)) tok nt ⟨0,P,tok2,nt6⟩:=⟨by rw[hJp,pvJ_zero],fun e he=>by have:=hJl e he;omega,ht3⟩
        have hPl:P.length=H.length:=by have:=congrArg List.length hJp;rw[pvP_len,nxR_len] at this;simp at this;omega
        generalize pvP (nxR (R.map (·.2))) i=P0 at *;repeat first|simp[hlt,hml,hmg]|refine sR ?_
        refine sN ?_;refine sL (stGv7 H.length i tm q (rowsA R i) (rowsS (R.drop (i+1))) r2 nb box) (fun y=>y.i<=r2.length/\y.P.length=H.length/\GvK P0 i r2 (ownR (R.drop (i+1))++(.tok tm::ownQ q)) tok nt y) (fun y=>r2.length-y.i) ⟨0,P,tok2,nt6⟩ ⟨Nat.zero_le _,hPl,hJ0⟩ (wM hle6 rfl (by simp[ToL,lk]) (by simp[BoxL,lk];exact⟨midX_to (.same .d),rowsW_to _⟩)) ?_;clear hJ0 hJl hJt ht2 ht3 hdt hJp hPl;rintro⟨j,Q,tok8,nt8⟩ S ⟨hj,hQl,hK⟩ hS;simp only[stGv7] at hS hj hQl;subst hS;have hw2:=sW (i:=j) (by omega);obtain⟨hKp,hKl,hKt⟩:=hK;simp only at hKp hKl hKt;have hle8:=hKt.le;repeat first|simp|refine sR ?_|refine sC ?_
        refine⟨fun hlt2=>?_,fun hge2=>?_⟩
        .obtain⟨k1,k2⟩:=hs2 _ (List.getElem_mem hlt2);have hstep:=pvJ_succ (i:=i) (P:=P0) hlt2;repeat first|simp[hlt2]|refine sR ?_
         generalize r2[j]=k at *;have k3:k.toNat<Q.length:=by omega
         have k4:k.toNat<H.length:=by omega
         have hqg:∀h,(rowsW Q)[k.toNat]'h=[AV.osl 1 (rI Q[k.toNat].1) Q[k.toNat].2]:=fun h=>by simp[rowsW]
         have hql:=hKl _ (List.getElem_mem k3);obtain⟨hlv,hap⟩:=hKt.rowWApp k3 (Q[k.toNat].1++[(i:Int)]);have hqs:=rowsW_set Q k.toNat (Q[k.toNat].1++[(i:Int)]) (.tok nt8);rw[<-rI_snoc] at hqs;have hpq:(Q.set k.toNat (Q[k.toNat].1++[(i:Int)],.tok nt8)).map (·.1)=pvJ i r2 P0 (j+1):=by
          rw[hstep,<-hKp,List.map_set];unfold pvS;congr 2
          simp[k3]
         try (simp[k1,k2,k3,k4,hqg])
         repeat (first|(refine sR ?_;simp[k1,k2,k3,k4,hqg])|(refine sC ?_;simp[k1,k2,k3,k4,hqg])|(refine sX ?_;simp only[AU,↓reduceIte]))
         refine⟨⟨by omega,hlv⟩,?_⟩;try (simp[hqs,hw2])
         repeat (first|(refine sR ?_;simp[hqs,hw2])|(refine sC ?_;simp[hqs,hw2])|(refine sX ?_;simp only[AU,↓reduceIte]))
         refine sE ?_;have hKl2:∀e∈Q.set k.toNat (Q[k.toNat].1++[(i:Int)],.tok nt8),e.1.length<=i*300+(j+1):=fun e he=>by
          rcases List.mem_or_eq_of_mem_set he with he|rfl
          .have:=hKl e he;omega
          .simp;omega
         exact⟨⟨j+1,Q.set k.toNat (Q[k.toNat].1++[(i:Int)],.tok nt8),upd (Own.kill tok8 Q[k.toNat].2) nt8 true,nt8+1⟩,⟨hlt2,by simp[hQl],⟨hpq,hKl2,by have hmd:ownR (R.drop (i+1))=List.drop (i+1) (List.map (fun r=>Own.tok r.1) R):=List.map_drop;rw[hmd] at hap;exact hap⟩⟩,by simp only;omega,wM hap.le rfl (by simp[ToL,lk]) (by simp[BoxL,lk];exact⟨midX_to (.same .d),rowsW_to _⟩)⟩
        .refine sX ?_;simp only[AU,↓reduceIte];have:j=r2.length:=by omega
         subst this;rw[<-hpvs] at hKp;have ht9:TK tok nt tok8 nt8 (ownR (R.drop (i+1))++(ownW Q++(.tok tm::ownQ q))):=hKt.perm (List.perm_append_comm_assoc _ _ _)
         try (simp[hw])
         repeat (first|(refine sR ?_;simp[hw])|(refine sC ?_;simp[hw])|(refine sX ?_;simp only[AU,↓reduceIte]))
         refine sE ?_;exact⟨⟨i+1,Q,tok8,nt8⟩,⟨hlt,⟨hKp,fun e he=>by have:=hKl e he;simp only;omega,ht9⟩⟩,by simp only;omega,wM ht9.le rfl (by simp[ToL,lk]) (by simp[BoxL,lk];rw[hX1];exact⟨midX_to (.same .d),rowsW_to _⟩)⟩
     .refine sX ?_;simp only[AU,↓reduceIte];have:i=H.length:=by omega
      subst this;have hdn:R.drop H.length=[]:=List.drop_eq_nil_of_le (by omega)
      have hfin:rowsX R H.length=rowsD ((nxR (R.map (·.2))).map fun r=>[ints r]):=by
       unfold rowsX rowsA;rw[List.take_of_length_le (by simp;omega),hdn];simp[rowsS]
      have hPd:(P.map fun r=>[ints r.1])=(pvP (nxR (R.map (·.2))) H.length).map fun r=>[ints r]:=by rw[<-hJp];simp
      rw[hfin];rw[hdn] at hJt;have hz:TK tok nt tok6 nt6 (.tok tm::(ownW P++ownQ q)):=by
       have h0:TK tok nt tok6 nt6 (ownW P++(.tok tm::ownQ q)):=hJt
       exact h0.perm List.perm_middle
      have hz2:=hz.spend;have hl1:(nxR (R.map (·.2))).length=H.length:=by simp[hRl]
      have hl2:(pvP (nxR (R.map (·.2))) H.length).length=H.length:=by simp[hRl]
      have hmp:mpE (encQ q)=Res.atoms.map fun a=>(a.1,rBo a.2):=by rw[hres];simp[mpE]
      have hn1:nxR (R.map (·.2))=Res.next:=by rw[hres]
      have hp1:pvP (nxR (R.map (·.2))) H.length=Res.prev:=by rw[hres]
      rw[hp1] at hPd hl2;rw[hn1] at hl1 ⊢;clear hres hn1 hp1;refine AL.weak (wM (l':=[(21,.ptr (nb+21) 0 0),(8,.ptr (nb+8) 0 0)]) (loc':=[(98,rowsD (Res.next.map fun r=>[ints r])),(100,rowsD (Res.prev.map fun r=>[ints r])),(8,[zMd]),(21,gvM nb H.length tm q)]) hle6 rfl (by simp[ToL,lk]) (by simp[BoxL,lk];rw[<-hPd];exact rowsW_d _)) ?_;refine AL.mapD tm hz.live ?_;simp[rowsD_mpF,hmp];refine AL.weak (Weaks.frz (l':=[(21,.ptr (nb+21) 0 0),(8,.ptr (nb+8) 0 0)]) (loc':=[(100,rowsD (Res.prev.map fun r=>[ints r])),(8,[zMd]),(21,[[.d (lls Res.next),.msl (nb+100) 0 H.length 1,.mpd (Res.atoms.map fun a=>(a.1,rBo a.2))]])]) 98 1 (Res.next.map fun r=>[ints r]) hle6 rfl (by simp[lk]) (by simp[lk]) (fun e he=>by obtain⟨b,_,rfl⟩:=List.mem_map.1 he;rfl) (by simp[ToL,lk,lb_at]) (by simp[BoxL,lk,lb_at,hl1])) ?_;refine AL.weak (Weaks.frz (l':=[(21,.ptr (nb+21) 0 0),(8,.ptr (nb+8) 0 0)]) (loc':=[(8,[zMd]),(21,[[.d (lls Res.next),.d (lls Res.prev),.mpd (Res.atoms.map fun a=>(a.1,rBo a.2))]])]) 100 1 (Res.prev.map fun r=>[ints r]) hle6 rfl (by simp[lk]) (by simp[lk]) (fun e he=>by obtain⟨b,_,rfl⟩:=List.mem_map.1 he;rfl) (by simp[ToL,lk,lb_at]) (by simp[BoxL,lk,lb_at,hl2])) ?_;try (simp)
      repeat (first|(refine sR ?_;simp)|(refine sC ?_;simp)|(refine sX ?_;simp only[AU,↓reduceIte]))
      refine sT (sG Hb Ht hz2.old hle6 ?_);simp
end Go.AM
