/-
 Parts of the proof, as merged from many texts: a machine over data, what the functions compute, plain laws.
-/
import Derived.Test.YtainalmfffjnjaaGreatDoorPTP11
set_option linter.unusedSimpArgs false
set_option linter.unusedVariables false
namespace Go.AM
open Go Go.Proofs
open Go.Proofs.Tryz
def QFo(s:Sr)(fm:Nat)(box:Bxs)(nb:Nat)(tok:Tks)(nt:Nat)(v:AV)(m:AMem):Prop :=
 ∃own' tok' nt',v=.osl 2 (mosR (s.fnP fm s.p.nodes.length [] [])) own'/\m=⟨box,nb,tok',nt'⟩/\TK tok nt tok' nt' [own']
set_option maxRecDepth 100000 in
theorem foundF_c(s:Sr)(h:s.Ok)(h0:tyE s.t=0)(nl:Bool)(hnl:s.Nl nl)(fm:Nat)(hfm:fm<=1000000)(box:Bxs)(nb:Nat)(tok:Tks)(nt:Nat):
  ACalls prog 240 [s.t.av,s.p.av,s.g.av,.agg [.d (ptD nl s.pt.nodes),.d (ptD nl s.pt.edges)],B s.inj,I fm] ⟨box,nb,tok,nt⟩ (QFo s fm box nb tok nt):=by
 have hb:=belowF_c s.t h.t h0;refine sI func240 ntmps240 fun Hb Ht=>?_
 repeat first|simp|refine sR ?_
 refine sD (hb _ _) ?_;simp;refine AL.weak (wM (l':=[(13,.ptr (nb+22) 0 0)]) (loc':=[(22,[[.d (ints s.p.nodes),.d (AM.edges s.p.edges),.d (ints s.g.nodes),.d (AM.edges s.g.edges),.d (isD s.t),.d (ptD nl s.pt.nodes),.d (ptD nl s.pt.edges),B s.inj,I fm,.osl 0 [] .full,.osl 0 [] .full,.osl 2 [] .full]])]) (nr _) rfl (by simp[ToL,lk]) (by simp[BoxL,lk])) ?_;refine AL.trans (Trans.opn (l':=[(13,.ptr (nb+22) 0 0)]) (loc':=[(22,[[.d (ints s.p.nodes),.d (AM.edges s.p.edges),.d (ints s.g.nodes),.d (AM.edges s.g.edges),.d (isD s.t),.d (ptD nl s.pt.nodes),.d (ptD nl s.pt.edges),B s.inj,I fm,.stk nt 1 [],.osl 0 [] .full,.osl 2 [] .full]])]) 1 (by simp[CvL]) ⟨rfl,cvRs_one (cvR_cons .same (cvR_cons .same (cvR_cons .same (cvR_cons .same (cvR_cons .same (cvR_cons .same (cvR_cons .same (cvR_cons .same (cvR_cons .same (cvR_cons .nil (cvR_cons .same (cvR_cons .same cvR_nil)))))))))))),trivial⟩) ?_;refine AL.trans (Trans.opn (l':=[(13,.ptr (nb+22) 0 0)]) (loc':=[(22,[[.d (ints s.p.nodes),.d (AM.edges s.p.edges),.d (ints s.g.nodes),.d (AM.edges s.g.edges),.d (isD s.t),.d (ptD nl s.pt.nodes),.d (ptD nl s.pt.edges),B s.inj,I fm,.stk nt 1 [],.stk (nt+1) 1 [],.osl 2 [] .full]])]) 1 (by simp[CvL]) ⟨rfl,cvRs_one (cvR_cons .same (cvR_cons .same (cvR_cons .same (cvR_cons .same (cvR_cons .same (cvR_cons .same (cvR_cons .same (cvR_cons .same (cvR_cons .same (cvR_cons .same (cvR_cons .nil (cvR_cons .same cvR_nil)))))))))))),trivial⟩) ?_;have htk0:=(TK.start Ht).full.full.full.app.swap.app.swap;repeat first|simp|refine sR ?_
 refine Stop.of_a (findN_c s h nl hnl fm hfm tok nt s.p.nodes.length [] [] nt (nt+1) .full _ _ (nb+22) _ _ (by simp) (by simp) (by simp[lb_at]) htk0) ?_;rintro v m' ⟨rfl,a,b,own,tok2,nt2,rfl,htk2,hle⟩;try (simp)
 repeat ((first|refine sR ?_|refine sC ?_|refine sX ?_);simp)
 refine sN ?_;refine AL.ret ?_;try simp only[AU]
 have htk3:=htk2.tail.tail;exact⟨by simp,(Fin.gen (av:=.osl 2 (mosR (s.fnP fm s.p.nodes.length [] [])) own) (tok':=tok2) (nt':=nt2) (by simp[resAs,resA];rfl) Hb htk3.le (nr _) (fun t h=>⟨h,.inl rfl⟩) (fun k rows _ h=>.inl h) (by simp)).mono fun v m hq=>⟨own,tok2,nt2,hq.1,hq.2,htk3⟩⟩
def stVf(t:Ty)(p g:Gr)(nb:Nat)(box:Bxs)(tok:Tks)(nt:Nat)(i:Nat):AS :=
 ⟨tl [(24,I i),(23,I 2),(22,.d (.sl 2 [[ints p.nodes,AM.edges p.edges],[ints g.nodes,AM.edges g.edges]])),(5,.ptr (nb+5) 0 0),(4,.ptr (nb+4) 0 0),(3,.ptr (nb+3) 0 0)],lb nb box [(5,[[.d (ints g.nodes),.d (AM.edges g.edges)]]),(4,[[.d (ints p.nodes),.d (AM.edges p.edges)]]),(3,[[.d (nts t.nodes),.d (ets t.edges)]])],tok,nt⟩
theorem validF_c(t:Ty)(ht:t.Fit)(p g:Gr)(hp:p.Fit)(hg:g.Fit):DC 178 [t.av,p.av,g.av] (I (givS t p g)):=by
 intro tok nt box nb;have hv:=valid_c4 t ht ht.hM;have h1:=graphValid_c p hp;have h2:=graphValid_c g hg;have h3:=withinF_c t ht p hp;have h4:=withinF_c t ht g hg;obtain⟨R,hR⟩:∃R,givS t p g=R:=⟨_,rfl⟩
 rw[hR];unfold givS at hR;generalize tyE t=E at *;generalize vG p=V at *;generalize vG g=W at *;refine sI func178 ntmps178 fun Hb Ht=>?_
 repeat first|simp|refine sR ?_
 refine sD (hv _ _) ?_;simp;by_cases e0:E=0
 .rw[if_neg (by simp[e0])] at hR;try (simp[e0])
  repeat ((first|refine sR ?_|refine sC ?_|refine sX ?_);simp[e0])
  refine⟨rfl,?_⟩;try (simp)
  repeat ((first|refine sR ?_|refine sC ?_|refine sX ?_);simp)
  refine sN ?_;refine sL (stVf t p g nb box tok nt) (fun i=>i<=2/\(1<=i->V=0)/\(2<=i->W=0)) (fun i=>2-i) 0 ⟨by omega,by omega,by omega⟩ wkA ?_;rintro i S ⟨hi,g0,g1⟩ hS;simp only[stVf] at hS;subst hS;have h012:i=0∨i=1∨i=2:=by omega
  rcases h012 with rfl|rfl|rfl
  .try (simp)
   repeat ((first|refine sR ?_|refine sC ?_|refine sX ?_);simp)
   refine sD (h1 _ _) ?_;simp;by_cases c:V=0
   .try (simp[c,show IntKind.i64.wrap 1=1 from rfl])
    repeat ((first|refine sR ?_|refine sC ?_|refine sX ?_);simp[c,show IntKind.i64.wrap 1=1 from rfl])
    refine sE ?_;exact⟨1,⟨by omega,fun h=>by omega⟩,by decide,wkA⟩
   .have b:(V != 0)=true:=by simp[c]
    rw[if_pos c] at hR;try (simp[b])
    repeat ((first|refine sR ?_|refine sC ?_|refine sX ?_);simp[b])
    refine sT (sH Hb Ht ?_);simp[hR]
  .try (simp)
   repeat ((first|refine sR ?_|refine sC ?_|refine sX ?_);simp)
   refine sD (h2 _ _) ?_;simp;by_cases c:W=0
   .try (simp[c,show IntKind.i64.wrap 2=2 from rfl])
    repeat ((first|refine sR ?_|refine sC ?_|refine sX ?_);simp[c,show IntKind.i64.wrap 2=2 from rfl])
    refine sE ?_;exact⟨2,⟨by omega,fun _=>g0 (by omega)⟩,by decide,wkA⟩
   .have b:(W != 0)=true:=by simp[c]
    have g0:=g0 (by omega);rw[if_neg (by simp[g0]),if_pos c] at hR;try (simp[b])
    repeat ((first|refine sR ?_|refine sC ?_|refine sX ?_);simp[b])
    refine sT (sH Hb Ht ?_);simp[hR]
  .have g0:=g0 (by omega);have g1:=g1 (by omega);rw[if_neg (by simp[g0]),if_neg (by simp[g1])] at hR;have h3:=h3 g0;have h4:=h4 g1;try (simp)
   repeat ((first|refine sR ?_|refine sC ?_|refine sX ?_);simp)
   refine sD (h3 _ _) ?_;simp;cases e3:typG t p
   .rw[e3,if_pos rfl] at hR;try (simp)
    repeat ((first|refine sR ?_|refine sC ?_|refine sX ?_);simp)
    refine sT (sH Hb Ht ?_);simp[hR]
   .rw[e3,if_neg (by simp)] at hR;try (simp)
    repeat ((first|refine sR ?_|refine sC ?_|refine sX ?_);simp)
    refine sD (h4 _ _) ?_;simp;cases e4:typG t g
    .rw[e4,if_pos rfl] at hR;try (simp)
     repeat ((first|refine sR ?_|refine sC ?_|refine sX ?_);simp)
     refine sT (sH Hb Ht ?_);simp[hR]
    .rw[e4,if_neg (by simp)] at hR;try (simp)
     repeat ((first|refine sR ?_|refine sC ?_|refine sX ?_);simp)
     refine sT (sH Hb Ht ?_);simp[hR]
 .rw[if_pos e0] at hR;have b:(E != 0)=true:=by simp[e0]
  try (simp[b])
  repeat ((first|refine sR ?_|refine sC ?_|refine sX ?_);simp[b])
  refine sT (sH Hb Ht ?_);simp[hR]
theorem opM_nl{t:Ty}{p g:Gr}{inj:Bool}:(allSr t p g inj).Nl true:=by
 constructor
 .intro _ x hx;exact List.eq_of_mem_replicate hx
 .intro _ x hx;exact List.eq_of_mem_replicate hx
def QAl(s:Sr)(box:Bxs)(nb:Nat)(tok:Tks)(nt:Nat)(L:List Mo)(v:AV)(m:AMem):Prop :=
 m=⟨box,nb,tok,nt⟩/\(5000<L.length/\v=.tup [.osl 0 [] .full,I 3]∨¬5000<L.length/\v=.tup [.d (.sl 2 (mosR L)),I 0])
set_option maxRecDepth 100000 in
theorem allF_c(s:Sr)(h:s.Ok)(h0:tyE s.t=0)(nl:Bool)(hnl:s.Nl nl)(hm:s.most=5000)(tok:Tks)(nt:Nat):
  ∀box nb,ACalls prog 179 [s.t.av,s.p.av,s.g.av,.agg [.d (ptD nl s.pt.nodes),.d (ptD nl s.pt.edges)],B s.inj] ⟨box,nb,tok,nt⟩ (QAl s box nb tok nt (s.fnR s.p.nodes.length [] [])):=by
 intro box nb;have hf:=s.fnP_fnR h;rw[hm] at hf;have hfo:=foundF_c s h h0 nl hnl 5001 (by omega);have hln:(s.fnP 5001 s.p.nodes.length [] []).length<=5001:=Sr.fnP_len h (by simp)
 rw[<-hf];refine sI func179 ntmps179 fun Hb Ht=>?_
 repeat first|simp|refine sR ?_
 refine Stop.of_a (hfo _ _ _ _) ?_;rintro v m' ⟨own,tok2,nt2,rfl,rfl,htk⟩;generalize s.fnP 5001 s.p.nodes.length [] []=L at *;by_cases hbig:5000<L.length
 .have b:decide ((5000:Int)<(L.length:Int))=true:=by simp;omega
  try (simp[b])
  repeat ((first|refine sR ?_|refine sC ?_|refine sX ?_);simp[b])
  refine sN ?_;refine AL.ret ?_;try simp only[AU]
  exact⟨by simp,(Fin.data (av:=.tup [.osl 0 [] .full,I 3]) (by simp[resAs,resA];rfl) Hb rfl Ht htk.old htk.le (by simp)).mono fun v m hq=>⟨hq.2,.inl ⟨hbig,hq.1⟩⟩⟩
 .have b:decide ((5000:Int)<(L.length:Int))=false:=by simp;omega
  try (simp[b])
  repeat ((first|refine sR ?_|refine sC ?_|refine sX ?_);simp[b])
  refine sN ?_;refine AL.ret ?_;try simp only[AU]
  exact⟨by simp,(Fin.data (av:=.tup [.d (.sl 2 (mosR L)),I 0]) (by simp[resAs,resA];rfl) Hb rfl Ht htk.old htk.le (by simp)).mono fun v m hq=>⟨hq.2,.inr ⟨hbig,hq.1⟩⟩⟩
set_option maxRecDepth 100000 in
theorem allF2_c(t:Ty)(ht:t.Fit)(p g:Gr)(hp:p.Fit)(hg:g.Fit)(inj:Bool):DC 109 [t.av,p.av,g.av,B inj] (.tup [.d (.sl 2 (mosR (allS t p g inj).1)),I (allS t p g inj).2]):=by
 intro tok nt box nb;have hv:=validF_c t ht p g hp hg;have main:ACalls prog 109 [t.av,p.av,g.av,B inj] ⟨box,nb,tok,nt⟩ fun v m=>(v=.tup [.d (.sl 2 (mosR (allS t p g inj).1)),I (allS t p g inj).2]∨(allS t p g inj).1=[]/\v=.tup [.osl 0 [] .full,I (allS t p g inj).2])/\m=⟨box,nb,tok,nt⟩:=by
  refine sI func109 ntmps109 fun Hb Ht=>?_
  repeat first|simp|refine sR ?_
  refine sD (hv _ _) ?_;simp;by_cases c1:givS t p g=0
  .have hok:=allSr_ok (inj:=inj) ht hp hg c1;have h0:tyE t=0:=by
    unfold givS at c1;split at c1
    .rename_i e;exact absurd c1 e
    .rename_i e;simpa using e
   have hR:allS t p g inj=if 5000<(allL t p g inj).length then ([],3) else (allL t p g inj,0):=by unfold allS;rw[if_neg (by simp[c1])]
   have hall:=allF_c (allSr t p g inj) hok h0 true opM_nl rfl;have hL:(allSr t p g inj).fnR (allSr t p g inj).p.nodes.length [] []=allL t p g inj:=rfl
   rw[hL] at hall;try (simp[c1])
   repeat ((first|refine sR ?_|refine sC ?_|refine sX ?_);simp[c1])
   refine Stop.sub (args':=[t.av,p.av,g.av,.agg [.d (.raw nilV),.d (.raw nilV)],B inj]) ⟨Sub.refl _,Sub.refl _,Sub.refl _,Sub.agg ⟨Sub.nilv,Sub.nilv,trivial⟩,Sub.refl _,trivial⟩ ?_;refine Stop.of_a (hall _ _ _ _) ?_;generalize allL t p g inj=L at *;rintro v m' ⟨rfl,⟨hb,rfl⟩|⟨hb,rfl⟩⟩
   .rw[if_pos hb] at hR;try (simp)
    repeat ((first|refine sR ?_|refine sC ?_|refine sX ?_);simp)
    refine sN ?_;refine AL.ret ?_;try simp only[AU]
    exact⟨by simp,(Fin.data (av:=.tup [.osl 0 [] .full,I 3]) (by simp[resAs,resA];rfl) Hb rfl Ht (fun _ h=>h) (nr _) (by simp)).mono fun v m hq=>⟨.inr ⟨by rw[hR],by rw[hR,hq.1]⟩,hq.2⟩⟩
   .rw[if_neg hb] at hR;try (simp)
    repeat ((first|refine sR ?_|refine sC ?_|refine sX ?_);simp)
    refine sN ?_;refine AL.ret ?_;try simp only[AU]
    exact⟨by simp,(Fin.data (av:=.tup [.d (.sl 2 (mosR L)),I 0]) (by simp[resAs,resA];rfl) Hb rfl Ht (fun _ h=>h) (nr _) (by simp)).mono fun v m hq=>⟨.inl (by rw[hR,hq.1]),hq.2⟩⟩
  .have hR:allS t p g inj=([],givS t p g):=by unfold allS;rw[if_pos c1]
   try (simp[c1])
   repeat ((first|refine sR ?_|refine sC ?_|refine sX ?_);simp[c1])
   refine sN ?_;refine AL.ret ?_;try simp only[AU]
   exact⟨by simp,(Fin.data (av:=.tup [.osl 0 [] .full,I (givS t p g)]) (by simp[resAs,resA];rfl) Hb rfl Ht (fun _ h=>h) (nr _) (by simp)).mono fun v m hq=>⟨.inr ⟨by rw[hR],by rw[hR,hq.1]⟩,hq.2⟩⟩
 refine main.conv fun v m h=>?_
 obtain⟨rfl|⟨h1,rfl⟩,rfl⟩:=h
 .exact⟨_,_,Conv.refl _ _,rfl,rfl⟩
 .refine⟨_,_,Conv.sub (v':=.tup [.d (.sl 2 (mosR (allS t p g inj).1)),I (allS t p g inj).2]) (Sub.tup ⟨?_,Sub.refl _,trivial⟩),rfl,rfl⟩;rw[h1];exact Sub.nil _ _ _
theorem copiedK_c(g:Gr)(hg:g.Fit):DC 127 [g.av] g.av:=by
 intro tok nt box nb;have h1:=clone_c g.nodes hg.n;have h2:=cloneE_c g.edges hg.e;refine sI func127 ntmps127 fun Hb Ht=>?_
 have htk:=(((TK.start Ht).full.app).full.app);repeat first|simp|refine sR ?_
 refine sD (h1 _ _) ?_;repeat first|simp|refine sR ?_
 refine sD (h2 _ _) ?_;repeat first|simp|refine sR ?_
 refine sT (sG Hb Ht htk.old htk.le ?_);simp
theorem existsK_c(m:Mo)(g:Gr)(k:Cd)(hm:m.Fit)(hg:g.Fit):DC 62 [m.av,g.av,k.av] (xC m g k).av:=by
 intro tok nt box nb;have h1:=clone_c m.nodes hm.n;have h2:=clone_c m.edges hm.e;have h3:=copiedK_c g hg;refine sI func62 ntmps62 fun Hb Ht=>?_
 have htk:=(((TK.start Ht).full.app).full.app);repeat first|simp|refine sR ?_
 refine sD (h1 _ _) ?_;repeat first|simp|refine sR ?_
 refine sD (h2 _ _) ?_;repeat first|simp|refine sR ?_
 refine sD (h3 _ _) ?_;repeat first|simp|refine sR ?_
 refine sT (sG Hb Ht htk.old htk.le ?_);simp[xC,Cd.cells_eq,Cd.kind,Cd.kids,Cd.m,Cd.g,Cd.sl,Cd.vars,Cd.te,conds,slots,tests]
theorem notK_c(k:Cd):DC 61 [k.av] (cdOf 2 [k]).av:=by
 intro tok nt box nb;refine sI func61 ntmps61 fun Hb Ht=>?_
 repeat first|simp|refine sR ?_
 refine sT (sH Hb Ht ?_);simp[cdOf,Cd.cells_eq,Cd.kind,Cd.kids,Cd.m,Cd.g,Cd.sl,Cd.vars,Cd.te,conds,ints,AM.edges,slots,tests]
def xCs(l:List Xt):List Cd:=l.map fun x=>xC x.m x.g (cdOf 1 [])
theorem xCs_succ(l:List Xt){i:Nat}(h:i<l.length):xCs (l.take (i+1))=xCs (l.take i)++[xC l[i].m l[i].g (cdOf 1 [])]:=by
 unfold xCs;rw[<-List.take_append_getElem h,List.map_append];rfl
theorem xCs_len(l:List Xt)(i:Nat):(xCs (l.take i)).length<=i:=by simp[xCs];omega
theorem shpE_kind{c:Co}(h:shpE c=0):c.kind=1∨c.kind=2:=by
 have h2:=(shpE_zero h).2.1;unfold kdE at h2;split at h2
 .left;assumption
 .split at h2
  .right;assumption
  .cases h2
def stCk(c:Co)(nb:Nat)(box:Bxs)(x:Acc):AS :=
 ⟨tl [(29,I x.i),(28,I c.exts.length),(27,.d (xts c.exts)),(6,.ptr (nb+6) 0 0),(5,.ptr (nb+5) 0 0),(2,.ptr (nb+2) 0 0),(1,.ptr (nb+1) 0 0)],
  lb nb box [(6,[[I 4,.osl 9 ((xCs (c.exts.take x.i)).map Cd.cells) x.own,nilS,nilS,nilS,nilS,nilS,z0i,nilS]]),(5,[(cdOf 1 []).row]),(1,[c.row]),(2,[[z0i,nilS,nilS,nilS,nilS,nilS,nilS,z0i,nilS]])],x.tok,x.nt⟩
theorem yesSub:Sub (.agg [I 1,nilS,nilS,nilS,nilS,nilS,nilS,z0i,nilS]) (cdOf 1 []).av:=Sub.agg ⟨Sub.refl _,Sub.nil _ _ _,Sub.nil _ _ _,Sub.nil _ _ _,Sub.nil _ _ _,Sub.nil _ _ _,Sub.nil _ _ _,Sub.refl _,Sub.nil _ _ _,trivial⟩
theorem noMoSub:Sub (.agg [nilS,nilS]) (Mo.mk [] []).av:=Sub.agg ⟨Sub.nil _ _ _,Sub.nil _ _ _,trivial⟩
set_option maxRecDepth 100000 in
theorem condK_c(c:Co)(hc:c.Fit):DC 15 [c.av] (.tup [(condR c).1.av,I (condR c).2]):=by
 intro tok nt box nb;have h1:=shpK_c c hc;have hv:=@shpE_zero c;have hkd:=@shpE_kind c;have hxn:=hc.n;have h2:=fun k=>existsK_c ⟨[],[]⟩ c.g k fit_nilM hc.g
 have h3:=notK_c;obtain⟨N,hN⟩:∃N,condR c=N:=⟨_,rfl⟩
 rw[hN];unfold condR cndC at hN;generalize shpE c=S at *;refine sI func15 ntmps15 fun Hb Ht=>?_
 repeat first|simp|refine sR ?_
 refine sD (h1 _ _) ?_;repeat first|simp|refine sR ?_
 by_cases e1:S=0
 .rw[if_neg (by simp[e1])] at hN;refine sC ?_;simp[e1];rcases hkd e1 with k|k
  .rw[if_pos k] at hN;try (simp[k])
   repeat ((first|refine sR ?_|refine sC ?_|refine sX ?_);simp[k])
   refine Stop.sub (args':=[(Mo.mk [] []).av,c.g.av,(cdOf 1 []).av]) ⟨noMoSub,Sub.refl _,yesSub,trivial⟩ ?_;refine sD (h2 _ _ _) ?_;repeat first|simp|refine sR ?_
   refine sD (h3 _ _ _) ?_;repeat first|simp|refine sR ?_
   refine sT (sH Hb Ht ?_);simp[<-hN]
  .rw[if_neg (by rw[k];decide)] at hN;have hx:=fun x (hx:x∈c.exts)=>existsK_c x.m x.g (cdOf 1 []) (hc.exts x hx).m (hc.exts x hx).g
   have e5:(cdOf 1 []).row=[I 1,.d (conds []),.d (ints []),.d (ints []),.d (ints []),.d (AM.edges []),.d (slots []),z0i,.d (tests [])]:=rfl
   try (simp[k])
   repeat ((first|refine sR ?_|refine sC ?_|refine sX ?_);simp[k])
   refine sN ?_;refine sL (stCk c nb box) (fun x=>x.i<=c.exts.length/\TK tok nt x.tok x.nt [x.own]) (fun x=>c.exts.length-x.i) ⟨0,.full,tok,nt⟩ ⟨Nat.zero_le _,(TK.start Ht).full⟩ (wM (nr _) rfl (by simp[ToL,lk]) (by simp[BoxL,lk,xCs,e5,conds,ints,AM.edges,slots,tests])) ?_;rintro⟨i,own,tok',nt'⟩ S ⟨hi,htk⟩ hS;simp only[stCk] at hS hi htk;subst hS;have hw:=sW (i:=i) (by omega);obtain⟨K,hK⟩:∃K,xCs (c.exts.take i)=K:=⟨_,rfl⟩
   have hKl:K.length<=i:=by rw[<-hK];exact xCs_len _ _
   rw[hK];repeat first|simp|refine sR ?_|refine sC ?_
   refine⟨fun hlt=>?_,fun hge=>?_⟩
   .have hxi:=hx _ (List.getElem_mem hlt);have hstep:=xCs_succ c.exts hlt;rw[hK] at hstep;repeat first|simp[hlt]|refine sR ?_
    refine sD (hxi _ _) ?_;simp;simp only[xC,Cd.av,Cd.row,Cd.kind,Cd.kids,Cd.m,Cd.g,Cd.sl,Cd.vars,Cd.te];repeat first|simp|refine sR ?_
    refine⟨⟨by omega,htk.live⟩,?_⟩;repeat first|simp[hw]|refine sR ?_
    refine sE ?_;exact⟨⟨i+1,_,_,_⟩,⟨hlt,htk.app⟩,by simp only;omega,wM htk.app.le rfl (by simp[ToL,lk]) (by simp only[hstep];simp[BoxL,lk,e5,xC,cdOf,conds,ints,AM.edges,slots,tests,Cd.cells_eq,Cd.kind,Cd.kids,Cd.m,Cd.g,Cd.sl,Cd.vars,Cd.te])⟩
   .refine sX ?_;simp only[AU,↓reduceIte];have:i=c.exts.length:=by omega
    subst this;rw[List.take_length] at hK;have hK2:(c.exts.map fun x=>xC x.m x.g (cdOf 1 []))=K:=hK
    rw[hK2] at hN;have e6:(cdOf 4 K).row=[I 4,.d (conds K),.d (ints []),.d (ints []),.d (ints []),.d (AM.edges []),.d (slots []),z0i,.d (tests [])]:=rfl
    refine AL.weak (wM (l':=[(6,.ptr (nb+6) 0 0),(2,.ptr (nb+2) 0 0),(1,.ptr (nb+1) 0 0)]) (loc':=[(6,[(cdOf 4 K).row]),(1,[c.row]),(2,[[z0i,nilS,nilS,nilS,nilS,nilS,nilS,z0i,nilS]])]) htk.le rfl (by simp[ToL,lk]) (by simp[BoxL,lk,e6,ints,AM.edges,slots,tests])) ?_;repeat first|simp|refine sR ?_
    refine sD (h3 (cdOf 4 K) _ _) ?_;repeat first|simp|refine sR ?_
    refine Stop.sub (args':=[(Mo.mk [] []).av,c.g.av,(cdOf 2 [cdOf 4 K]).av]) ⟨noMoSub,Sub.refl _,Sub.refl _,trivial⟩ ?_;refine sD (h2 _ _ _) ?_;repeat first|simp|refine sR ?_
    refine sD (h3 _ _ _) ?_;repeat first|simp|refine sR ?_
    refine sT (sG Hb Ht htk.old htk.le ?_);simp[<-hN]
 .rw[if_pos e1] at hN;have b1:(S != 0)=true:=by simp[e1]
  refine sC ?_;simp[b1];repeat first|simp|refine sR ?_
  refine sT (sH Hb Ht ?_);simp[<-hN,cdOf,conds,ints,AM.edges,slots,tests,Cd.kind,Cd.kids,Cd.m,Cd.g,Cd.sl,Cd.vars,Cd.te]
def vioB(c:Co)(xt:Mo->Bool)(m:Mo):Bool:=if c.kind=1 then true else !xt m
def vioK(c:Co)(xt:Mo->Bool)(l:List Mo)(i:Nat):List Mo:=(l.take i).filter (vioB c xt)
def vioS(t:Ty)(c:Co)(g:Gr)(xt:Mo->Bool):List Mo × Int :=
 if cnE t c≠0 then ([],cnE t c) else if (allS t c.g g true).2≠0 then ([],(allS t c.g g true).2) else ((allS t c.g g true).1.filter (vioB c xt),0)
theorem vioK_succ{c:Co}{xt:Mo->Bool}{l:List Mo}{i:Nat}(h:i<l.length):vioK c xt l (i+1)=vioK c xt l i++if vioB c xt l[i]=true then [l[i]] else []:=by
 unfold vioK;rw[List.take_succ_eq_append_getElem h,List.filter_append];congr 1
 by_cases e:vioB c xt l[i]=true<;>simp[e]
theorem vioK_len(c:Co)(xt:Mo->Bool)(l:List Mo)(i:Nat):(vioK c xt l i).length<=i:=Nat.le_trans (List.length_filter_le _ _) (by simp;omega)
theorem allS_len(t:Ty)(p g:Gr)(inj:Bool):(allS t p g inj).1.length<=5000:=by
 unfold allS;split
 .simp
 .split
  .simp
  .simp only;omega
def stVk(t:Ty)(c:Co)(g:Gr)(L:List Mo)(xt:Mo->Bool)(nb:Nat)(box:Bxs)(x:Acc):AS :=
 ⟨tl [(33,I x.i),(32,I L.length),(31,.d (.sl 2 (mosR L))),(11,.osl 2 (mosR (vioK c xt L x.i)) x.own),(5,.ptr (nb+5) 0 0),(4,.ptr (nb+4) 0 0),(3,.ptr (nb+3) 0 0)],lb nb box [(5,[[.d (ints g.nodes),.d (AM.edges g.edges)]]),(4,[c.row]),(3,[[.d (nts t.nodes),.d (ets t.edges)]])],x.tok,x.nt⟩
theorem violationsK_c(t:Ty)(ht:t.Fit)(c:Co)(hc:c.Fit)(g:Gr)(hg:g.Fit)(xt:Mo->Bool)(hx:c.kind≠1->∀m∈(allS t c.g g true).1,∀tok nt,DCall prog 110 [t.av,c.av,g.av,m.av] tok nt (B (xt m)) tok nt):DC 47 [t.av,c.av,g.av] (.tup [.d (.sl 2 (mosR (vioS t c g xt).1)),I (vioS t c g xt).2]):=by
 intro tok nt box nb;have hv:=validK_c t ht c hc;have hA:=allF2_c t ht c.g g hc.g hg true;have main:ACalls prog 47 [t.av,c.av,g.av] ⟨box,nb,tok,nt⟩ fun v m=>(v=.tup [.d (.sl 2 (mosR (vioS t c g xt).1)),I (vioS t c g xt).2]∨(vioS t c g xt).1=[]/\v=.tup [.osl 0 [] .full,I (vioS t c g xt).2])/\m=⟨box,nb,tok,nt⟩:=by
  refine sI func47 ntmps47 fun Hb Ht=>?_
  repeat first|simp|refine sR ?_
  refine sD (hv _ _) ?_;simp;by_cases c1:cnE t c=0
  .try (simp[c1])
   repeat ((first|refine sR ?_|refine sC ?_|refine sX ?_);simp[c1])
   refine sD (hA _ _) ?_;simp;by_cases c2:(allS t c.g g true).2=0
   .try (simp[c2])
    repeat ((first|refine sR ?_|refine sC ?_|refine sX ?_);simp[c2])
    refine sN ?_;have hR:vioS t c g xt=((allS t c.g g true).1.filter (vioB c xt),0):=by unfold vioS;rw[if_neg (by simp[c1]),if_neg (by simp[c2])]
    have hL:=allS_len t c.g g true;generalize (allS t c.g g true).1=L at *;refine sL (stVk t c g L xt nb box) (fun x=>x.i<=L.length/\TK tok nt x.tok x.nt [x.own]) (fun x=>L.length-x.i) ⟨0,.full,tok,nt⟩ ⟨Nat.zero_le _,(TK.start Ht).full⟩ (wM (nr _) rfl (by simp[ToL,lk,vioK]) (by simp[BoxL,lk])) ?_;rintro⟨i,own,tok',nt'⟩ S ⟨hi,htk⟩ hS;simp only[stVk] at hS hi htk;subst hS;have hw:=sW (i:=i) (by omega);have hln:=vioK_len c xt L i;by_cases hlt:i<L.length
    .have hs:=vioK_succ (c:=c) (xt:=xt) hlt;by_cases k1:c.kind=1
     .have b:(c.kind==1)=true:=by simp[k1]
      rw[if_pos (by simp[vioB,k1])] at hs;try (simp[hlt,b])
      repeat ((first|refine sR ?_|refine sC ?_|refine sX ?_);simp[hlt,b])
      refine⟨⟨by omega,htk.live⟩,?_⟩;try (simp[hw])
      repeat ((first|refine sR ?_|refine sC ?_|refine sX ?_);simp[hw])
      refine sE ?_;exact⟨⟨i+1,_,_,_⟩,⟨hlt,htk.app⟩,by simp only;omega,wM htk.app.le rfl (by simp[ToL,lk,hs]) (by simp[BoxL,lk])⟩
     .have hxi:=hx k1 _ (List.getElem_mem hlt);have b:(c.kind==1)=false:=by simp[k1]
      try (simp[hlt,b])
      repeat ((first|refine sR ?_|refine sC ?_|refine sX ?_);simp[hlt,b])
      refine sD (hxi _ _) ?_;cases e:xt L[i]
      .rw[if_pos (by simp[vioB,k1,e])] at hs;try (simp[hlt,b])
       repeat ((first|refine sR ?_|refine sC ?_|refine sX ?_);simp[hlt,b])
       refine⟨⟨by omega,htk.live⟩,?_⟩;try (simp[hw])
       repeat ((first|refine sR ?_|refine sC ?_|refine sX ?_);simp[hw])
       refine sE ?_;exact⟨⟨i+1,_,_,_⟩,⟨hlt,htk.app⟩,by simp only;omega,wM htk.app.le rfl (by simp[ToL,lk,hs]) (by simp[BoxL,lk])⟩
      .rw[if_neg (by simp[vioB,k1,e]),List.append_nil] at hs;try (simp[hlt,b,hw])
       repeat ((first|refine sR ?_|refine sC ?_|refine sX ?_);simp[hlt,b,hw])
       refine sE ?_;exact⟨⟨i+1,_,_,_⟩,⟨hlt,htk⟩,by simp only;omega,wM htk.le rfl (by simp[ToL,lk,hs]) (by simp[BoxL,lk])⟩
    .have:i=L.length:=by omega
     subst this;have hf:vioK c xt L L.length=L.filter (vioB c xt):=by simp[vioK]
     rw[hf];try (simp)
     repeat ((first|refine sR ?_|refine sC ?_|refine sX ?_);simp)
     refine sN ?_;refine AL.ret ?_;try simp only[AU]
     refine⟨by simp,(Fin.data (av:=.tup [.d (.sl 2 (mosR (L.filter (vioB c xt)))),I 0]) (by simp[resAs,resA];rfl) Hb rfl Ht htk.old htk.le (by simp)).mono fun v m hq=>⟨.inl (by rw[hR,hq.1]),hq.2⟩⟩
   .have hR:vioS t c g xt=([],(allS t c.g g true).2):=by unfold vioS;rw[if_neg (by simp[c1]),if_pos c2]
    try (simp[c2])
    repeat ((first|refine sR ?_|refine sC ?_|refine sX ?_);simp[c2])
    refine sN ?_;refine AL.ret ?_;try simp only[AU]
    refine⟨by simp,(Fin.data (av:=.tup [.osl 0 [] .full,I (allS t c.g g true).2]) (by simp[resAs,resA];rfl) Hb rfl Ht (fun _ h=>h) (nr _) (by simp)).mono fun v m hq=>⟨.inr ⟨by rw[hR],by rw[hR,hq.1]⟩,hq.2⟩⟩
  .have hR:vioS t c g xt=([],cnE t c):=by unfold vioS;rw[if_pos c1]
   try (simp[c1])
   repeat ((first|refine sR ?_|refine sC ?_|refine sX ?_);simp[c1])
   refine sN ?_;refine AL.ret ?_;try simp only[AU]
   refine⟨by simp,(Fin.data (av:=.tup [.osl 0 [] .full,I (cnE t c)]) (by simp[resAs,resA];rfl) Hb rfl Ht (fun _ h=>h) (nr _) (by simp)).mono fun v m hq=>⟨.inr ⟨by rw[hR],by rw[hR,hq.1]⟩,hq.2⟩⟩
 refine main.conv fun v m h=>?_
 obtain⟨rfl|⟨h1,rfl⟩,rfl⟩:=h
 .exact⟨_,_,Conv.refl _ _,rfl,rfl⟩
 .refine⟨_,_,Conv.sub (v':=.tup [.d (.sl 2 (mosR (vioS t c g xt).1)),I (vioS t c g xt).2]) (Sub.tup ⟨?_,Sub.refl _,trivial⟩),rfl,rfl⟩;rw[h1];exact Sub.nil _ _ _
theorem AL.cut_aux{P:Program}{cx:Cx}{nt0:Nat}{K K':Exit->AS->Prop}{R:List CI}(hn:∀S,K' .normal S->AL P cx nt0 K R S)(he:∀e S,e≠.normal->K' e S->AU P cx nt0 K R e S):
  ∀l:List CI,(∀S,AL P cx nt0 K' l S->AL P cx nt0 K (l++R) S)/\∀e S,e≠.normal->AU P cx nt0 K' l e S->AU P cx nt0 K (l++R) e S
 | []=>⟨fun S h=>hn S (by simpa only[AL] using h),fun e S h1 h=>he e S h1 (by simpa only[AU] using h)⟩
 | .c c::l=>by
  obtain⟨i1,i2⟩:=AL.cut_aux hn he l;refine⟨fun S h=>?_,fun e S h1 h=>?_⟩
  .simp only[AL,List.cons_append] at h ⊢;refine h.mono fun e S' h=>?_
   cases e with
   | normal=>exact i1 S' h
   | _=>exact i2 _ _ (by simp) h
  .simp only[AU,List.cons_append] at h ⊢;exact i2 e S h1 h
 | .blk id::l=>by
  obtain⟨i1,i2⟩:=AL.cut_aux hn he l;refine⟨fun S h=>?_,fun e S h1 h=>?_⟩
  .simp only[AL,List.cons_append] at h ⊢;exact i1 S h
  .cases e with
   | normal=>exact absurd rfl h1
   | exit j =>
    simp only[AU,List.cons_append] at h ⊢;split
    .rename_i hj;rw[if_pos hj] at h;exact i1 S h
    .rename_i hj;rw[if_neg hj] at h;exact i2 _ S h1 h
   | _ =>
    simp only[AU,List.cons_append] at h ⊢;exact i2 _ S h1 h
theorem AL.cut{P:Program}{cx:Cx}{nt0:Nat}{K:Exit->AS->Prop}{l r:List CI}{S:AS}{y:Code}{α:Type}(T:α->AS)(inv:α->Prop)(h1:AL P cx nt0 (fun e S'=>match e with
   | .normal=>∃a,inv a/\Weaks cx nt0 S' (T a)
   | e=>AU P cx nt0 K (.c y::r) e S') l S)(h2:∀a,inv a->AL P cx nt0 K (.c y::r) (T a)):AL P cx nt0 K (l++.c y::r) S:=by
 refine(AL.cut_aux ?_ ?_ l).1 S h1
 .rintro S ⟨a,ha,hw⟩;exact AL.weak hw (h2 a ha)
 .intro e S hne h;cases e with
  | normal=>exact absurd rfl hne
  | _=>exact h
theorem AL.cutP{P:Program}{cx:Cx}{nt0:Nat}{K:Exit->AS->Prop}{l r:List CI}{S:AS}{y:Code}(T:AS)(p:Prop)(h1:AL P cx nt0 (fun e S'=>match e with
   | .normal=>p/\Weaks cx nt0 S' T
   | e=>AU P cx nt0 K (.c y::r) e S') l S)(h2:p->AL P cx nt0 K (.c y::r) T):AL P cx nt0 K (l++.c y::r) S:=by
 refine(AL.cut_aux ?_ ?_ l).1 S h1
 .rintro S ⟨ha,hw⟩;exact AL.weak hw (h2 ha)
 .intro e S hne h;cases e with
  | normal=>exact absurd rfl hne
  | _=>exact h
theorem nm_nil{s:ByteArray}:s.toList=[]↔s=⟨#[]⟩:=by
 have h:=seq_iff (a:=s) (b:=⟨#[]⟩);simpa using h
def wordsL:List ByteArray:=[⟨#[110,111,116]⟩,⟨#[69,88]⟩,⟨#[69,70]⟩,⟨#[69,71]⟩,⟨#[65,88]⟩,⟨#[65,70]⟩,⟨#[65,71]⟩,⟨#[69]⟩,⟨#[65]⟩,⟨#[85]⟩]
@[simp] theorem globA_words:globA 1=.cptr [strs wordsL] 0:=rfl
def kOk(k:Int):Bool:=decide (1<=k/\k<=12)
def kLo(k:Int):Int:=if k=1 then 0 else if k=3∨k=4∨k=8∨k=12 then 2 else if 1<=k/\k<=12 then 1 else 0
def kHi(k:Int):Int:=if k=1 then 0 else if k=3∨k=4 then 1073741824 else if k=8∨k=12 then 2 else if 1<=k/\k<=12 then 1 else 0
def arB(k:Int)(n:Nat):Bool:=if k=1 then decide (n=0) else if k=3∨k=4 then decide (2<=n) else if k=8∨k=12 then decide (n=2) else decide (1<=k/\k<=12/\n=1)
theorem kinds(k:Int):k=1∨k=2∨k=3∨k=4∨k=5∨k=6∨k=7∨k=8∨k=9∨k=10∨k=11∨k=12∨(k≠1/\k≠2/\k≠3/\k≠4/\k≠5/\k≠6/\k≠7/\k≠8/\k≠9/\k≠10/\k≠11/\k≠12):=by omega
theorem arB_iff(k:Int)(n:Nat)(hn:n<=1000000):arB k n=(kOk k&&decide (kLo k<=(n:Int))&&decide ((n:Int)<=kHi k)):=by
 rcases kinds k with h|h|h|h|h|h|h|h|h|h|h|h|h
 any_goals (subst h;rw[Bool.eq_iff_iff];simp[arB,kOk,kLo,kHi];try omega)
 obtain⟨h1,h2,h3,h4,h5,h6,h7,h8,h9,h10,h11,h12⟩:=h;have h0:¬(1<=k/\k<=12):=by omega
 rw[Bool.eq_iff_iff];simp[arB,kOk,kLo,kHi,h1,h3,h4,h8,h12,h0];omega
set_option maxRecDepth 100000 in
theorem kidsT_c(k:Int):DC 226 [I k] (.tup [I (kLo k),I (kHi k),B (kOk k)]):=by
 intro tok nt box nb;rcases kinds k with h|h|h|h|h|h|h|h|h|h|h|h|h
 any_goals subst h
 any_goals
  refine sI func226 ntmps226 fun Hb Ht=>?_
  try (simp)
  repeat ((first|refine sR ?_|refine sC ?_|refine sX ?_);simp)
  refine sT (sH Hb Ht ?_);simp[kLo,kHi,kOk]
 obtain⟨h1,h2,h3,h4,h5,h6,h7,h8,h9,h10,h11,h12⟩:=h;have h0:¬(1<=k/\k<=12):=by omega
 have b1:(k==1)=false:=by simpa using h1
 have b2:(k==2)=false:=by simpa using h2
 have b3:(k==3)=false:=by simpa using h3
 have b4:(k==4)=false:=by simpa using h4
 have b5:(k==5)=false:=by simpa using h5
 have b6:(k==6)=false:=by simpa using h6
 have b7:(k==7)=false:=by simpa using h7
 have b8:(k==8)=false:=by simpa using h8
 have b9:(k==9)=false:=by simpa using h9
 have b10:(k==10)=false:=by simpa using h10
 have b11:(k==11)=false:=by simpa using h11
 have b12:(k==12)=false:=by simpa using h12
 refine sI func226 ntmps226 fun Hb Ht=>?_
 try (simp[h1,h2,h3,h4,h5,h6,h7,h8,h9,h10,h11,h12,b1,b2,b3,b4,b5,b6,b7,b8,b9,b10,b11,b12])
 repeat ((first|refine sR ?_|refine sC ?_|refine sX ?_);simp[h1,h2,h3,h4,h5,h6,h7,h8,h9,h10,h11,h12,b1,b2,b3,b4,b5,b6,b7,b8,b9,b10,b11,b12])
 refine sT (sH Hb Ht ?_);simp[kLo,kHi,kOk,h1,h2,h3,h4,h5,h6,h7,h8,h9,h10,h11,h12,h0]
def fatB(s:ByteArray):Bool:=nameB s&&!memS wordsL s
def badF(k:Int)(s:ByteArray)(n:Nat):Bool:=!arB k n||(decide (s≠⟨#[]⟩)&&decide (k≠1))
mutual
def Fo.formE:Fo->Int
 | .mk k s c=>if badF k s c.length=true then 1 else if k=1/\fatB s=false then 2 else Fo.formL c
def Fo.formL:List Fo->Int
 | []=>0
 | x::r=>if Fo.formE x≠0 then Fo.formE x else Fo.formL r
end
theorem Fo.formE_eq(f:Fo):f.formE=if badF f.kind f.name f.kids.length=true then 1 else if f.kind=1/\fatB f.name=false then 2 else Fo.formL f.kids:=by
 cases f;rw[Fo.formE];rfl
theorem Fo.formL_take:∀{l:List Fo} {i:Nat} (h:i<l.length),(∀j,j<i->∀hj:j<l.length,l[j].formE=0)->Fo.formL l=if l[i].formE≠0 then l[i].formE else Fo.formL (l.drop (i+1))
 | x::r,0,h,_=>by rw[Fo.formL];rfl
 | x::r,i+1,h,h0=>by
  have h1:=h0 0 (by omega) (by simp);simp only[List.getElem_cons_zero] at h1;rw[Fo.formL,if_neg (by simp[h1]),Fo.formL_take (i:=i) (by simpa using h) (fun j hj hl=>h0 (j+1) (by omega) (Nat.succ_lt_succ hl))];rfl
theorem Fo.formL_none:∀{l:List Fo},(∀j (hj:j<l.length),l[j].formE=0)->Fo.formL l=0
 | [],_=>rfl
 | x::r,h=>by
  have h1:=h 0 (by simp);simp only[List.getElem_cons_zero] at h1;rw[Fo.formL,if_neg (by simp[h1])];exact Fo.formL_none fun j hj=>h (j+1) (Nat.succ_lt_succ hj)
inductive Fo.Sm:Fo->Prop
 | mk {f:Fo} (hn:f.name.size<=200000000000000) (hk:f.kids.length<=200000000000000) (h:∀x∈f.kids,Fo.Sm x):Fo.Sm f
theorem Fo.Sm.name{f:Fo}(h:f.Sm):f.name.size<=200000000000000:=by cases h;assumption
theorem Fo.Sm.len{f:Fo}(h:f.Sm):f.kids.length<=200000000000000:=by cases h;assumption
theorem Fo.Sm.kid{f:Fo}(h:f.Sm):∀x∈f.kids,Fo.Sm x:=by cases h;assumption
def stFoA(f:Fo)(nb:Nat)(box:Bxs)(tok:Tks)(nt:Nat):AS :=
 ⟨tl [(1,.ptr (nb+1) 0 0)],lb nb box [(1,[f.row])],tok,nt⟩
def stFoT(f:Fo)(nb:Nat)(box:Bxs)(tok:Tks)(nt:Nat)(i:Nat):AS :=
 ⟨tl [(58,.d (fos f.kids)),(59,I f.kids.length),(60,I i),(1,.ptr (nb+1) 0 0)],lb nb box [(1,[f.row])],tok,nt⟩
set_option maxRecDepth 100000 in
theorem formT_c:∀(n:Nat) (f:Fo),f.size<n->f.size<=1000000->f.Sm->∀(tok:Tks) (nt:Nat),DCall prog 149 [f.av] tok nt (I f.formE) tok nt
 | 0,f,hn,_,_,tok,nt=>absurd hn (Nat.not_lt_zero _)
 | n+1,f,hn,hb,hs,tok,nt=>by
  intro box nb;have ih:=fun x (hx:x∈f.kids)=>formT_c n x (by have:=Fo.kid_size hx;omega) (by have:=Fo.kid_size hx;omega) (hs.kid x hx)
  have hkl:=f.kids_len;have hnm:=hs.name;have har:=arB_iff f.kind f.kids.length (by omega);obtain⟨R,hR⟩:∃R,f.formE=R:=⟨_,rfl⟩
  rw[hR];rw[f.formE_eq] at hR;refine sI func149 ntmps149 fun Hb Ht=>?_
  repeat first|simp|refine sR ?_
  refine sD (kidsT_c f.kind _ _) ?_;simp;refine sN ?_;refine AL.cutP (l:=[_,_]) (stFoA f nb box tok nt) (badF f.kind f.name f.kids.length=false) ?_ fun hbad=>?_
  .by_cases c1:kOk f.kind=true
   .by_cases c2:(f.kids.length:Int)<kLo f.kind
    .have e:arB f.kind f.kids.length=false:=by rw[har];simp;omega
     simp only[badF,e,Bool.not_false,Bool.true_or,↓reduceIte] at hR;subst hR;try (simp[c1,c2])
     repeat ((first|refine sR ?_|refine sC ?_|refine sX ?_);simp[c1,c2])
     refine sT (sH Hb Ht ?_);simp
    .by_cases c3:kHi f.kind<(f.kids.length:Int)
     .have e:arB f.kind f.kids.length=false:=by rw[har];simp;omega
      simp only[badF,e,Bool.not_false,Bool.true_or,↓reduceIte] at hR;subst hR;try (simp[c1,c2,c3])
      repeat ((first|refine sR ?_|refine sC ?_|refine sX ?_);simp[c1,c2,c3])
      refine sT (sH Hb Ht ?_);simp
     .have e:arB f.kind f.kids.length=true:=by rw[har];simp[c1];omega
      by_cases c4:f.name=⟨#[]⟩
      .have hs':=nm_nil.2 c4
       have hb:badF f.kind f.name f.kids.length=false:=by unfold badF;rw[e];simp[c4]
       try (simp[c1,c2,c3,hs'])
       repeat ((first|refine sR ?_|refine sC ?_|refine sX ?_);simp[c1,c2,c3,hs'])
       refine sE ?_;exact⟨hb,wkA⟩
      .have hs':f.name.toList.isEmpty=false:=by simpa using fun h=>c4 (nm_nil.1 h)
       have hs2:¬f.name.toList=[]:=fun h=>c4 (nm_nil.1 h)
       by_cases c5:f.kind=1
       .have hb:badF f.kind f.name f.kids.length=false:=by unfold badF;rw[e];simp[c5]
        have b5:(f.kind != 1)=false:=by simp[c5]
        try (simp[c1,c2,c3,hs',hs2,b5])
        repeat ((first|refine sR ?_|refine sC ?_|refine sX ?_);simp[c1,c2,c3,hs',hs2,b5])
        refine sE ?_;exact⟨hb,wkA⟩
       .have b5:(f.kind != 1)=true:=by simpa using c5
        have hb:badF f.kind f.name f.kids.length=true:=by unfold badF;rw[e];simp[c4,c5]
        simp only[hb,↓reduceIte] at hR;subst hR;try (simp[c1,c2,c3,hs',hs2,b5])
        repeat ((first|refine sR ?_|refine sC ?_|refine sX ?_);simp[c1,c2,c3,hs',hs2,b5])
        refine sT (sH Hb Ht ?_);simp
   .have e:arB f.kind f.kids.length=false:=by rw[har];simp[c1]
    have c1':kOk f.kind=false:=by simpa using c1
    simp only[badF,e,Bool.not_false,Bool.true_or,↓reduceIte] at hR;subst hR;try (simp[c1'])
    repeat ((first|refine sR ?_|refine sC ?_|refine sX ?_);simp[c1'])
    refine sT (sH Hb Ht ?_);simp
  .simp only[hbad,Bool.false_eq_true,↓reduceIte] at hR;simp only[stFoA];refine sN ?_;refine AL.cutP (l:=[_,_]) (stFoA f nb box tok nt) (¬(f.kind=1/\fatB f.name=false)) ?_ fun hat=>?_
   .by_cases c5:f.kind=1
    .have b5:(f.kind==1)=true:=by simpa using c5
     cases hn:nameB f.name
     .have ha:fatB f.name=false:=by simp[fatB,hn]
      rw[if_pos ⟨c5,ha⟩] at hR;subst hR;try (simp[b5])
      repeat ((first|refine sR ?_|refine sC ?_|refine sX ?_);simp[b5])
      refine sD (isName_c f.name hnm _ _) ?_;simp;try (simp[b5,hn])
      repeat ((first|refine sR ?_|refine sC ?_|refine sX ?_);simp[b5,hn])
      refine sT (sH Hb Ht ?_);simp
     .cases hm:memS wordsL f.name
      .have ha:fatB f.name=true:=by simp[fatB,hn,hm]
       try (simp[b5])
       repeat ((first|refine sR ?_|refine sC ?_|refine sX ?_);simp[b5])
       refine sD (isName_c f.name hnm _ _) ?_;simp;try (simp[b5,hn])
       repeat ((first|refine sR ?_|refine sC ?_|refine sX ?_);simp[b5,hn])
       refine sD (containsS_c wordsL f.name (by decide) _ _) ?_;simp;try (simp[b5,hn,hm])
       repeat ((first|refine sR ?_|refine sC ?_|refine sX ?_);simp[b5,hn,hm])
       refine sE ?_;exact⟨fun _=>ha,wkA⟩
      .have ha:fatB f.name=false:=by simp[fatB,hn,hm]
       rw[if_pos ⟨c5,ha⟩] at hR;subst hR;try (simp[b5])
       repeat ((first|refine sR ?_|refine sC ?_|refine sX ?_);simp[b5])
       refine sD (isName_c f.name hnm _ _) ?_;simp;try (simp[b5,hn])
       repeat ((first|refine sR ?_|refine sC ?_|refine sX ?_);simp[b5,hn])
       refine sD (containsS_c wordsL f.name (by decide) _ _) ?_;simp;try (simp[b5,hn,hm])
       repeat ((first|refine sR ?_|refine sC ?_|refine sX ?_);simp[b5,hn,hm])
       refine sT (sH Hb Ht ?_);simp
    .have b5:(f.kind==1)=false:=by simpa using c5
     try (simp[b5])
     repeat ((first|refine sR ?_|refine sC ?_|refine sX ?_);simp[b5])
     refine sE ?_;exact⟨fun h=>absurd h c5,wkA⟩
   .rw[if_neg hat] at hR;simp only[stFoA];repeat first|simp|refine sR ?_
    refine sN ?_;refine sL (stFoT f nb box tok nt) (fun i=>i<=f.kids.length/\∀j,j<i->∀hj:j<f.kids.length,f.kids[j].formE=0) (fun i=>f.kids.length-i) 0 ⟨Nat.zero_le _,fun j hj=>absurd hj (Nat.not_lt_zero _)⟩ wkA ?_;rintro i S ⟨hi,h0⟩ hS;simp only[stFoT] at hS;subst hS;have hw:=sW (i:=i) (by omega);repeat first|simp|refine sR ?_|refine sC ?_
    refine⟨fun hlt=>?_,fun hge=>?_⟩
    .have ihx:=ih _ (List.getElem_mem hlt);have htake:=Fo.formL_take hlt h0;repeat first|simp[hlt,Fo.cells_eq]|refine sR ?_
     generalize hx:f.kids[i]=x at *;repeat first|simp|refine sR ?_
     refine sD (ihx _ _) ?_;simp;by_cases he:x.formE=0
     .try (simp[he,hw])
      repeat ((first|refine sR ?_|refine sC ?_|refine sX ?_);simp[he,hw])
      refine sE ?_;refine⟨i+1,⟨hlt,fun j hj hj2=>?_⟩,by omega,wkA⟩;rcases Nat.lt_or_ge j i with h|h
      .exact h0 j h hj2
      .have:j=i:=by omega
       subst this;rw[hx];exact he
     .have he':(x.formE != 0)=true:=by simpa using he
      rw[if_pos he] at htake;rw[htake] at hR;subst hR;try (simp[he,he'])
      repeat ((first|refine sR ?_|refine sC ?_|refine sX ?_);simp[he,he'])
      refine sT (sH Hb Ht ?_);simp
    .refine sX ?_;simp only[AU,↓reduceIte];have hz:Fo.formL f.kids=0:=Fo.formL_none fun j hj=>h0 j (by omega) hj
     rw[hz] at hR;subst hR;repeat first|simp|refine sR ?_
     refine sT (sH Hb Ht ?_);simp
def stWd(L:List ByteArray)(s:ByteArray)(nb:Nat)(box:Bxs)(tok:Tks)(nt:Nat)(i:Nat):AS :=
 ⟨tl [(4,I i),(3,.d (strs L)),(0,Sb s)],lb nb box [],tok,nt⟩
set_option maxRecDepth 100000 in
theorem word50_c(s:ByteArray):DC 228 [Sb s] (B (memS wordsL s)):=by
 intro tok nt box nb;refine sI func228 ntmps228 fun Hb Ht=>?_
 repeat first|simp|refine sR ?_
 refine⟨rfl,?_⟩;obtain⟨L,hL⟩:∃L,wordsL=L:=⟨_,rfl⟩
 have hlen:L.length=10:=by rw[<-hL];rfl
 rw[hL];repeat first|simp|refine sR ?_
 refine sN ?_;refine sL (stWd L s nb box tok nt) (fun i=>i<=L.length/\∀x∈L.take i,decide (s=x)=false) (fun i=>L.length-i) 0 ⟨Nat.zero_le _,by simp⟩ (wM (nr _) rfl (by rw[<-hL];simp[ToL,lk];exact .data) trivial) ?_;rintro i S ⟨hi,htk⟩ hS;simp only[stWd] at hS;subst hS;have hw:=sW (i:=i) (by omega);by_cases hlt:i<L.length
 .have hpx:decide (s=L[i])=true->memS L s=true:=fun he=>memS_iff.2 (by rw[of_decide_eq_true he];exact List.getElem_mem hlt)
  have hmore:decide (s=L[i])=false->∀x∈L.take (i+1),decide (s=x)=false:=fun he x hx=>by
   rw[List.take_succ_eq_append_getElem hlt] at hx;rcases List.mem_append.1 hx with hx|hx
   .exact htk x hx
   .simp at hx;rw[hx];exact he
  have hsq:(L[i].toList==s.toList)=decide (s=L[i]):=by rw[seq_dec,Bool.eq_iff_iff,decide_eq_true_eq,decide_eq_true_eq];exact eq_comm
  cases e:decide (s=L[i])
  .rw[e] at hsq;try (simp[hlt,hsq,hw])
   repeat ((first|refine sR ?_|refine sC ?_|refine sX ?_);simp[hlt,hsq,hw])
   refine sE ?_;exact⟨i+1,⟨hlt,by simpa using hmore e⟩,by omega,wM (nr _) rfl (by simp[ToL,lk]) trivial⟩
  .rw[e] at hsq;have h1:=hpx e;try (simp[hlt,hsq,hw])
   repeat ((first|refine sR ?_|refine sC ?_|refine sX ?_);simp[hlt,hsq,hw])
   refine sT (sH Hb Ht ?_);simp[h1]
 .have hn:memS L s=false:=by
   rw[List.take_of_length_le (by omega)] at htk;simpa[memS] using htk
  repeat first|simp[hlt]|refine sR ?_|refine sC ?_
  refine sX ?_;simp only[AU,↓reduceIte];repeat first|simp|refine sR ?_
  refine sT (sH Hb Ht ?_);simp[hn]
def kidB(k:Int)(n:Nat):Bool:=if k=1 then ((n:Int)==0) else if k=3∨k=4 then decide (2<=(n:Int)) else if k=8∨k=12 then ((n:Int)==2) else ((n:Int)==1)
theorem arB_kid(k:Int)(n:Nat):arB k n=(kOk k&&kidB k n):=by
 rcases kinds k with h|h|h|h|h|h|h|h|h|h|h|h|h
 any_goals (subst h;rw[Bool.eq_iff_iff];simp[arB,kOk,kidB];try omega)
 obtain⟨h1,h2,h3,h4,h5,h6,h7,h8,h9,h10,h11,h12⟩:=h;have h0:¬(1<=k/\k<=12):=by omega
 rw[Bool.eq_iff_iff];simp[arB,kOk,kidB,h1,h3,h4,h8,h12,h0];omega
set_option maxRecDepth 100000 in
theorem kids50_c(f:Fo)(hl:f.kids.length<=1000000):DC 227 [f.av] (B (kidB f.kind f.kids.length)):=by
 intro tok nt box nb;by_cases h1:f.kind=1
 .refine sI func227 ntmps227 fun Hb Ht=>?_
  try (simp[h1])
  repeat ((first|refine sR ?_|refine sC ?_|refine sX ?_);simp[h1])
  refine sT (sH Hb Ht ?_);simp[kidB,h1]
 .have b1:(f.kind==1)=false:=by simpa using h1
  by_cases h3:f.kind=3
  .refine sI func227 ntmps227 fun Hb Ht=>?_
   try (simp[h3])
   repeat ((first|refine sR ?_|refine sC ?_|refine sX ?_);simp[h3])
   refine sT (sH Hb Ht ?_);simp[kidB,h3]
  .have b3:(f.kind==3)=false:=by simpa using h3
   by_cases h4:f.kind=4
   .refine sI func227 ntmps227 fun Hb Ht=>?_
    try (simp[h4])
    repeat ((first|refine sR ?_|refine sC ?_|refine sX ?_);simp[h4])
    refine sT (sH Hb Ht ?_);simp[kidB,h4]
   .have b4:(f.kind==4)=false:=by simpa using h4
    by_cases h8:f.kind=8
    .refine sI func227 ntmps227 fun Hb Ht=>?_
     try (simp[h8])
     repeat ((first|refine sR ?_|refine sC ?_|refine sX ?_);simp[h8])
     refine sT (sH Hb Ht ?_);simp[kidB,h8]
    .have b8:(f.kind==8)=false:=by simpa using h8
     by_cases h12:f.kind=12
     .refine sI func227 ntmps227 fun Hb Ht=>?_
      try (simp[h12])
      repeat ((first|refine sR ?_|refine sC ?_|refine sX ?_);simp[h12])
      refine sT (sH Hb Ht ?_);simp[kidB,h12]
     .have b12:(f.kind==12)=false:=by simpa using h12
      refine sI func227 ntmps227 fun Hb Ht=>?_
      try (simp[b1,b3,b4,b8,b12,h1,h3,h4,h8,h12])
      repeat ((first|refine sR ?_|refine sC ?_|refine sX ?_);simp[b1,b3,b4,b8,b12,h1,h3,h4,h8,h12])
      refine sT (sH Hb Ht ?_);simp[kidB,h1,h3,h4,h8,h12]
structure Sd where
 k:Int
 o:Bool
 near:Int
 far:Int
 low:Int
 high:Int
abbrev Sd.cells(s:Sd):List D:=[.raw (.int .i64 s.k),.raw (.bool s.o),.raw (.int .i64 s.near),.raw (.int .i64 s.far),.raw (.int .i64 s.low),.raw (.int .i64 s.high)]
abbrev Sd.av(s:Sd):AV:=.agg [I s.k,B s.o,I s.near,I s.far,I s.low,I s.high]
structure DelS where
 j:Nat
 i:Nat
 ys:List Ov
structure DelOk (xs:List Ov) (p:Ov->Bool) (x:DelS):Prop where
 ij:x.i<x.j
 jn:x.j<=xs.length
 len:x.ys.length=xs.length
 tk:x.ys.take x.i=(xs.take x.j).filter fun o=>!p o
 dr:x.ys.drop x.j=xs.drop x.j
theorem DelOk.at{xs:List Ov}{p:Ov->Bool}{x:DelS}(h:DelOk xs p x)(hj:x.j<xs.length):x.ys[x.j]'(by rw[h.len];exact hj)=xs[x.j]:=by
 have h1:x.ys[x.j]'(by rw[h.len];exact hj)=(x.ys.drop x.j)[0]'(by simp[h.len];omega):=by simp
 have h2:xs[x.j]=(xs.drop x.j)[0]'(by simp;omega):=by simp
 rw[h1,h2];simp only[h.dr]
theorem DelOk.skip{xs:List Ov}{p:Ov->Bool}{j i:Nat}{ys:List Ov}(h:DelOk xs p ⟨j,i,ys⟩)(hj:j<xs.length)(hp:p xs[j]=true):DelOk xs p ⟨j+1,i,ys⟩:=by
 obtain⟨h1,h2,h3,h4,h5⟩:=h;simp only at h1 h2 h3 h4 h5;refine⟨by simp only;omega,hj,h3,?_,?_⟩
 .simp only;rw[h4,<-List.take_append_getElem hj,List.filter_append];simp[hp]
 .simp only;rw[<-List.drop_drop,<-List.drop_drop,h5]
theorem DelOk.put{xs:List Ov}{p:Ov->Bool}{j i:Nat}{ys:List Ov}(h:DelOk xs p ⟨j,i,ys⟩)(hj:j<xs.length)(hp:p xs[j]=false):DelOk xs p ⟨j+1,i+1,ys.set i xs[j]⟩:=by
 obtain⟨h1,h2,h3,h4,h5⟩:=h;simp only at h1 h2 h3 h4 h5;refine⟨by simp only;omega,hj,by simp[h3],?_,?_⟩
 .simp only;have hi:i<(ys.set i xs[j]).length:=by simp;omega
  rw[<-List.take_append_getElem hi,<-List.take_append_getElem hj,List.filter_append,<-h4];simp[hp,List.take_set_of_le]
 .simp only;rw[List.drop_set_of_lt (by omega),<-List.drop_drop,<-List.drop_drop,h5]
theorem DelOk.start{xs:List Ov}{p:Ov->Bool}(h:xs.any p=true):DelOk xs p ⟨xs.findIdx p+1,xs.findIdx p,xs⟩:=by
 have hlt:xs.findIdx p<xs.length:=by
  rw[List.findIdx_lt_length];simpa using h
 refine⟨Nat.lt_succ_self _,hlt,rfl,?_,rfl⟩;simp only;rw[<-List.take_append_getElem hlt,List.filter_append];have h1:p xs[xs.findIdx p]=true:=List.findIdx_getElem (w:=hlt)
 have h2:(xs.take (xs.findIdx p)).filter (fun o=>!p o)=xs.take (xs.findIdx p):=by
  refine List.filter_eq_self.2 fun a ha=>?_
  obtain⟨q,hq,rfl⟩:=List.getElem_of_mem ha;rw[List.getElem_take];have:=List.not_of_lt_findIdx (p:=p) (xs:=xs) (i:=q) (by simp at hq;omega)
  simpa using this
 rw[h2];simp[h1]
structure Ar where
 to:Gr
 m:Mo
abbrev Ar.av(x:Ar):AV:=.agg [.d (ints x.to.nodes),.d (AM.edges x.to.edges),.d (ints x.m.nodes),.d (ints x.m.edges)]
structure Ar.Big (x:Ar):Prop where
 n:x.m.nodes.length<=bigN
 e:x.m.edges.length<=bigN
def RS(n:Int)(s t:St2):Prop:=(s.2=0/\t.2=0/\s.1+t.1=2000/\0<=s.1/\s.1<=n)∨(s.2=3/\t.2=3)
theorem RS.up{n m:Int}{s t:St2}(h:RS n s t)(hnm:n<=m):RS m s t:=by
 rcases h with ⟨h1,h2,h3,h4,h5⟩|h
 .exact .inl ⟨h1,h2,h3,h4,by omega⟩
 .exact .inr h
theorem RS.zero{n:Int}{s t:St2}(h:RS n s t)(h0:s.2=0):t.2=0:=by
 rcases h with h|h
 .exact h.2.1
 .rw[h.1] at h0;cases h0
structure Ch where
 a:Dr
 b:List Int
 g:List Int
 c:List Int
abbrev Ch.av(x:Ch):AV:=.agg [.d (.sl 1 (x.a.nodes.map fun n=>[u8 n])),.d (.sl 3 (x.a.edges.map fun e=>[u8 e.1,u8 e.2.1,u8 e.2.2])),.d (bytes x.b),.d (bytes x.g),.d (bytes x.c)]
def Ch.ok(x:Ch):Bool:=decide (x.a.nodes.length<=1/\x.a.edges.length<=1/\x.c.length<=12/\x.b.length<=10/\x.g.length<=10)
theorem Pre.le{a b:Gr}(h:Pre a b):a.nodes.length<=b.nodes.length/\a.edges.length<=b.edges.length:=by
 obtain⟨t,ht⟩:=h.n;obtain⟨u,hu⟩:=h.e;rw[ht,hu];simp
inductive Cd.Pl:Cd->Prop
 | mk {c:Cd} (hs:c.sl=[]) (hv:c.vars=0) (ht:c.te=[]) (h:∀x∈c.kids,Cd.Pl x):Cd.Pl c
theorem Cd.Pl.sl{c:Cd}(h:c.Pl):c.sl=[]:=by cases h;assumption
theorem Cd.Pl.te{c:Cd}(h:c.Pl):c.te=[]:=by cases h;assumption
theorem Cd.Pl.vars{c:Cd}(h:c.Pl):c.vars=0:=by cases h;assumption
theorem Cd.Pl.kid{c:Cd}(h:c.Pl):∀x∈c.kids,Cd.Pl x:=by cases h;assumption
structure Ac3 where
 own:Own
 tok:Nat->Bool
 nt:Nat
def Ac3.add(x:Ac3)(b:Bool):Ac3:=if b=true then ⟨.tok (x.nt+2),upd (x.own.kill (upd (upd (upd x.tok x.nt true) x.nt false) (x.nt+1) true)) (x.nt+2) true,x.nt+3⟩ else x
structure Ac3.Ok (x:Ac3) (tok:Tks) (nt:Nat):Prop where
 adv:Adv tok nt .full x.tok x.nt x.own
 lt:∀t,tok t=true->t<nt
theorem Ac3.Ok.add{x:Ac3}{tok:Nat->Bool}{nt:Nat}(h:x.Ok tok nt)(b:Bool):(x.add b).Ok tok nt:=by
 unfold Ac3.add;split
 .have had:=Adv.fresh h.adv.live h.adv.lt;exact⟨h.adv.trans h.lt (had.trans h.adv.lt (Adv.app had.live had.lt)),h.lt⟩
 .exact h
theorem Ac3.Ok.tk{x:Ac3}{tok:Nat->Bool}{nt:Nat}(h:x.Ok tok nt):TK tok nt x.tok x.nt [x.own] :=
 ⟨fun t ht=>h.adv.keep t ht (by simp),h.lt,h.adv.le,fun o ho t e=>by
  rw[List.mem_singleton] at ho;subst ho;have hl:=h.adv.live;rw[e] at hl;refine⟨hl,?_,h.adv.lt t hl⟩;rcases h.adv.new with e2|⟨s,e2,hs⟩
  .rw[e] at e2;cases e2
  .rw[e] at e2;cases e2;exact hs,List.pairwise_singleton _ _⟩
abbrev Gr.cells(g:Gr):List D:=[ints g.nodes,AM.edges g.edges]
theorem Ac3.Ok.start{tok:Nat->Bool}{nt:Nat}(h:∀t,tok t=true->t<nt):(Ac3.mk .full tok nt).Ok tok nt:=⟨Adv.refl trivial h,h⟩
theorem TK.adv{mtok:Nat->Bool}{nt0:Nat}{tok tok':Nat->Bool}{nt nt':Nat}{os:List Own}{own':Own}(h:TK mtok nt0 tok nt os)(ha:Adv tok nt .full tok' nt' own'):TK mtok nt0 tok' nt' (own'::os):=by
 have hnew:∀s,own'=.tok s->nt<=s/\tok' s=true:=fun s e=>by
  have hl:=ha.live;rw[e] at hl;rcases ha.new with e2|⟨s2,e2,hs⟩
  .rw[e] at e2;cases e2
  .rw[e] at e2;cases e2;exact⟨hs,hl⟩
 refine⟨fun t ht=>ha.keep t (h.old t ht) (by simp),h.lt,Nat.le_trans h.le ha.le,fun o ho t e=>?_,?_⟩
 .rcases List.mem_cons.1 ho with rfl|ho
  .obtain⟨h1,h2⟩:=hnew t e;exact⟨h2,Nat.le_trans h.le h1,ha.lt t h2⟩
  .obtain⟨h1,h2,h3⟩:=h.own o ho t e;exact⟨ha.keep t h1 (by simp),h2,Nat.lt_of_lt_of_le h3 ha.le⟩
 .refine List.pairwise_cons.2 ⟨fun b hb t e e2=>?_,h.ne⟩;obtain⟨h1,h2⟩:=hnew t e;obtain⟨_,_,h3⟩:=h.own b hb t e2;omega
def Ac3.ed(x:Ac3)(s:Nat):Ac3:=⟨.tok (x.nt+1),upd (x.own.kill (upd (upd x.tok s false) x.nt true)) (x.nt+1) true,x.nt+2⟩
def Ac3.nd(x:Ac3)(s:Nat):Ac3:=⟨x.own,upd (upd x.tok s false) x.nt true,x.nt+1⟩
theorem dss_nil:DSs [] []:=⟨rfl,fun i h=>by simp at h⟩
theorem dss_cons{x y:List D}{xs ys:List (List D)}:DSs (x::xs) (y::ys)↔DS1 x y/\DSs xs ys:=by
 constructor
 .rintro⟨h1,h2⟩;exact⟨h2 0 (by simp) (by simp),by simpa using h1,fun j g1 g2=>h2 (j+1) (by simpa using g1) (by simpa using g2)⟩
 .rintro⟨h1,h2,h3⟩;refine⟨by simp[h2],fun j g1 g2=>?_⟩
  match j with
  | 0=>exact h1
  | j+1=>exact h3 j (by simpa using g1) (by simpa using g2)
theorem dsub_all{sz:Nat}{es es':List (List D)}(h:DSs es es'):DSub (.sl sz es) (.sl sz es'):=h.sub sz
theorem to_dss{p q:Nat->Prop}{fz:Option (Nat × Nat × List (List D))}{sz:Nat}{es es':List (List D)}{o:Own}(h:DSs es es'):To p q fz (.osl sz es o) (.d (.sl sz es')):=.odsub (h.sub sz)
abbrev Co.cells(c:Co):List D:=[.raw (.string c.name),.raw (.int .i64 c.kind),ints c.g.nodes,AM.edges c.g.edges,xts c.exts]
abbrev rCo(l:List Co):List (List D):=l.map Co.cells
abbrev cosD(l:List Co):D:=.sl 5 (rCo l)
def stICo(xs:List Co)(f:FuncId)(caps:List AV)(nb:Nat)(box:Bxs)(tok:Tks)(nt:Nat)(i:Nat):AS:=⟨tl [(0,.d (cosD xs)),(1,.fn (.func f) caps),(7,I xs.length),(8,I i)],lb nb box [],tok,nt⟩
theorem indexFuncCo_c(xs:List Co)(f:FuncId)(caps:List AV)(p:Co->Bool)(hx:xs.length<=1000000)(box:Bxs)(nb:Nat)(tok:Tks)(nt:Nat)(hc:∀c∈caps,OkIn (fun k=>box k≠none) (fun _=>True) c)(hf:∀x∈xs,∀box' nb',Ext box box'->ACalls prog f (x.av::caps) ⟨box',nb',tok,nt⟩ fun v m=>v=B (p x)/\m=⟨box',nb',tok,nt⟩):
  ACalls prog 148 [.d (cosD xs),.fn (.func f) caps] ⟨box,nb,tok,nt⟩ fun v m=>v=I (if anyB p xs=true then (xs.findIdx p:Nat) else -1)/\m=⟨box,nb,tok,nt⟩:=by
 refine sI func148 ntmps148 fun Hb Ht=>?_
 repeat first|simp|refine sR ?_
 refine sN ?_;refine sL (stICo xs f caps nb box tok nt) (fun i=>i<=xs.length/\∀x∈xs.take i,p x=false) (fun i=>xs.length-i) 0 ⟨Nat.zero_le _,by simp⟩ (wM (nr _) rfl (by simp[ToL];exact .same (okFn hc Hb [] (by simp) rfl _)) trivial) ?_;rintro i S' ⟨hi,htk⟩ hS;simp only[stICo] at hS;subst hS;have hw:=sW (i:=i) (by omega);repeat first|simp|refine sR ?_|refine sC ?_
 refine⟨fun hlt=>?_,fun hge=>?_⟩
 .have hfx:=hf xs[i] (List.getElem_mem _);have hpx:p xs[i]=true->anyB p xs=true/\(xs.findIdx p=i):=fun he=>any_takeG hlt htk he
  have hmore:p xs[i]=false->∀x∈xs.take (i+1),p x=false:=fun he x hx=>by
   rw[List.take_succ_eq_append_getElem hlt] at hx;rcases List.mem_append.1 hx with hx|hx
   .exact htk x hx
   .simp at hx;rw[hx];exact he
  repeat first|simp[hlt]|refine sR ?_
  generalize xs[i]=x at *;refine Stop.of_b (hfx _ _ ((Ext.refl box).lb Hb [])) ?_;simp;cases he:p x
  .refine sC ?_;simp;repeat first|simp[hw]|refine sR ?_
   refine sE ?_;refine⟨i+1,⟨hlt,?_⟩,by omega,wM (nr _) rfl (by simp[ToL];exact .same (okFn hc Hb [] (by simp) rfl _)) trivial⟩;exact hmore he
  .obtain⟨h1,h2⟩:=hpx he;refine sC ?_;repeat first|simp|refine sR ?_
   refine sT (sH Hb Ht ?_);simp[h1,h2]
 .have hn:anyB p xs=false:=by
   rw[List.take_of_length_le hge] at htk;simpa[anyB] using htk
  refine sX ?_;simp only[AU,↓reduceIte];repeat first|simp|refine sR ?_
  refine sT (sH Hb Ht ?_);simp[hn]
def shapeF(f:Fo):Int:=if f.formE≠0 then f.formE else if 40<f.size then 3 else if 8<f.depth then 3 else 0
theorem shapeT_c(f:Fo)(hb:f.size<=1000000)(hs:f.Sm):DC 83 [f.av] (I (shapeF f)):=by
 intro tok nt box nb;have h1:=formT_c _ f (Nat.lt_succ_self _) hb hs;have h2:=measureT_c _ f (Nat.lt_succ_self _) hb;have hd:=f.depth_le_size _ (Nat.lt_succ_self _);obtain⟨R,hR⟩:∃R,shapeF f=R:=⟨_,rfl⟩
 rw[hR];unfold shapeF at hR;generalize f.formE=e at *;refine sI func83 ntmps83 fun Hb Ht=>?_
 repeat first|simp|refine sR ?_
 refine sD (h1 _ _) ?_;simp;by_cases he:e=0
 .have b0:(e != 0)=false:=by simpa using he
  rw[if_neg (by simpa using he)] at hR;try (simp[b0])
  repeat ((first|refine sR ?_|refine sC ?_|refine sX ?_);simp[b0])
  refine sD (h2 _ _) ?_;simp;by_cases c1:(40:Int)<(f.size:Int)
  .rw[if_pos (by omega)] at hR;subst hR;try (simp[c1])
   repeat ((first|refine sR ?_|refine sC ?_|refine sX ?_);simp[c1])
   refine sT (sH Hb Ht ?_);simp
  .rw[if_neg (by omega)] at hR;by_cases c2:(8:Int)<(f.depth:Int)
   .rw[if_pos (by omega)] at hR;subst hR;try (simp[c1,c2])
    repeat ((first|refine sR ?_|refine sC ?_|refine sX ?_);simp[c1,c2])
    refine sT (sH Hb Ht ?_);simp
   .rw[if_neg (by omega)] at hR;subst hR;try (simp[c1,c2])
    repeat ((first|refine sR ?_|refine sC ?_|refine sX ?_);simp[c1,c2])
    refine sT (sH Hb Ht ?_);simp
 .have b0:(e != 0)=true:=by simpa using he
  rw[if_pos he] at hR;subst hR;try (simp[b0])
  repeat ((first|refine sR ?_|refine sC ?_|refine sX ?_);simp[b0])
  refine sT (sH Hb Ht ?_);simp
mutual
def Fo.ats:Fo->List ByteArray
 | .mk k s c=>if k=1 then s::Fo.atsL c else Fo.atsL c
def Fo.atsL:List Fo->List ByteArray
 | []=>[]
 | x::r=>Fo.ats x++Fo.atsL r
end
def stTm5(c:Fo)(nb:Nat)(box:Bxs)(tok:Tks)(nt:Nat)(i:Nat):AS :=
 ⟨tl [(6,I i),(4,I (1+Fo.sizeL (c.kids.take i):Nat)),(5,I (Fo.depthL (c.kids.take i))),(1,.ptr (nb+1) 0 0)],lb nb box [(1,[c.row])],tok,nt⟩
theorem measure50_c:∀(n:Nat) (c:Fo),c.size<n->c.size<=1000000->∀(tok:Tks) (nt:Nat),DCall prog 153 [c.av] tok nt (.tup [I c.size,I c.depth]) tok nt
 | 0,c,hn,_,tok,nt=>absurd hn (Nat.not_lt_zero _)
 | n+1,c,hn,hb,tok,nt=>by
  intro box nb;have ih:=fun x (hx:x∈c.kids)=>measure50_c n x (by have:=Fo.kid_size hx;omega) (by have:=Fo.kid_size hx;omega)
  have hkl:=c.kids_len;have hs:=c.size_eq;have hd:=c.depth_eq;have hds:=c.depth_le_size _ (Nat.lt_succ_self _);refine sI func153 ntmps153 fun Hb Ht=>?_
  repeat first|simp|refine sR ?_
  refine sN ?_;refine sL (stTm5 c nb box tok nt) (fun i=>i<=c.kids.length) (fun i=>c.kids.length-i) 0 (Nat.zero_le _) (wM (nr _) rfl (by simp[ToL,lk,Fo.sizeL,Fo.depthL]) (by simp[BoxL,lk])) ?_;rintro i S hi hS;simp only[stTm5] at hS;subst hS;have hw:=sW (i:=i) (by omega);repeat first|simp|refine sR ?_|refine sC ?_
  refine⟨fun hlt=>?_,fun hge=>?_⟩
  .have h1:=Fo.sizeL_take hlt;have h2:=Fo.depthL_take hlt;have h3:=Fo.sizeL_take_le c.kids (i+1);have h4:=Fo.depthL_take_le c.kids (i+1);have ihx:=ih _ (List.getElem_mem hlt);have hw2:IntKind.i64.wrap (1+(Fo.sizeL (c.kids.take i):Int)+(c.kids[i].size:Int))=((1+Fo.sizeL (c.kids.take (i+1)):Nat):Int):=by rw[wrap_in (by omega) (by omega)];omega
   have hm:max (Fo.depthL (c.kids.take i):Int) (c.kids[i].depth:Int)=((Fo.depthL (c.kids.take (i+1)):Nat):Int):=by omega
   repeat first|simp[hlt,Fo.cells_eq]|refine sR ?_
   generalize c.kids[i]=x at *;repeat first|simp|refine sR ?_
   refine sD (ihx _ _) ?_;simp;repeat first|simp[hw2,hm]|refine sR ?_
   repeat first|simp[hw]|refine sR ?_
   refine sE ?_;exact⟨i+1,hlt,by omega,wkA⟩
  .refine sX ?_;simp only[AU,↓reduceIte];have:i=c.kids.length:=by omega
   subst this;rw[List.take_length];have hw3:IntKind.i64.wrap ((Fo.depthL c.kids:Int)+1)=((c.depth:Nat):Int):=by rw[wrap_in (by omega) (by omega)];omega
   have hs2:(1+(Fo.sizeL c.kids:Int))=((c.size:Nat):Int):=by omega
   repeat first|simp[hw3]|refine sR ?_
   refine sT (sH Hb Ht ?_);simp[hs2,hd]
def stSh5(f:Fo)(nb:Nat)(box:Bxs)(tok:Tks)(nt:Nat)(i:Nat):AS :=
 ⟨tl [(3,I i),(1,.ptr (nb+1) 0 0)],lb nb box [(1,[f.row])],tok,nt⟩
set_option maxRecDepth 100000 in
theorem form50_c:∀(n:Nat) (f:Fo),f.size<n->f.size<=1000000->f.Sm->∀(tok:Tks) (nt:Nat),DCall prog 152 [f.av] tok nt (I f.formE) tok nt
 | 0,f,hn,_,_,tok,nt=>absurd hn (Nat.not_lt_zero _)
 | n+1,f,hn,hb,hs,tok,nt=>by
  intro box nb;have ih:=fun x (hx:x∈f.kids)=>form50_c n x (by have:=Fo.kid_size hx;omega) (by have:=Fo.kid_size hx;omega) (hs.kid x hx)
  have hkl:=f.kids_len;have hnm:=hs.name;have har:=arB_kid f.kind f.kids.length;have hkc:=kids50_c f (by omega);obtain⟨R,hR⟩:∃R,f.formE=R:=⟨_,rfl⟩
  rw[hR];rw[f.formE_eq] at hR;refine sI func152 ntmps152 fun Hb Ht=>?_
  refine sR ?_;simp;refine sN ?_;refine AL.cutP (l:=[_,_]) (stFoA f nb box tok nt) (badF f.kind f.name f.kids.length=false) ?_ fun hbad=>?_
  .by_cases c1:f.kind<1
   .have e:arB f.kind f.kids.length=false:=by rw[har];simp[kOk];omega
    simp only[badF,e,Bool.not_false,Bool.true_or,↓reduceIte] at hR;subst hR;try (simp[c1])
    repeat ((first|refine sR ?_|refine sC ?_|refine sX ?_);simp[c1])
    refine sT (sH Hb Ht ?_);simp
   .by_cases c2:12<f.kind
    .have e:arB f.kind f.kids.length=false:=by rw[har];simp[kOk];omega
     simp only[badF,e,Bool.not_false,Bool.true_or,↓reduceIte] at hR;subst hR;try (simp[c1,c2])
     repeat ((first|refine sR ?_|refine sC ?_|refine sX ?_);simp[c1,c2])
     refine sT (sH Hb Ht ?_);simp
    .have hk:kOk f.kind=true:=by simp[kOk];omega
     rw[hk,Bool.true_and] at har;cases c3:kidB f.kind f.kids.length
     .rw[c3] at har;simp only[badF,har,Bool.not_false,Bool.true_or,↓reduceIte] at hR;subst hR;try (simp[c1,c2])
      repeat ((first|refine sR ?_|refine sC ?_|refine sX ?_);simp[c1,c2])
      refine sD (hkc _ _) ?_;simp;try (simp[c1,c2,c3])
      repeat ((first|refine sR ?_|refine sC ?_|refine sX ?_);simp[c1,c2,c3])
      refine sT (sH Hb Ht ?_);simp
     .rw[c3] at har;by_cases c5:f.kind=1
      .have hb:badF f.kind f.name f.kids.length=false:=by unfold badF;rw[har];simp[c5]
       have b5:(f.kind != 1)=false:=by simp[c5]
       try (simp[c1,c2])
       repeat ((first|refine sR ?_|refine sC ?_|refine sX ?_);simp[c1,c2])
       refine sD (hkc _ _) ?_;simp;try (simp[c1,c2,c3,b5])
       repeat ((first|refine sR ?_|refine sC ?_|refine sX ?_);simp[c1,c2,c3,b5])
       refine sE ?_;exact⟨hb,wkA⟩
      .have b5:(f.kind != 1)=true:=by simpa using c5
       by_cases c4:f.name=⟨#[]⟩
       .have hs':=nm_nil.2 c4
        have hb:badF f.kind f.name f.kids.length=false:=by unfold badF;rw[har];simp[c4]
        try (simp[c1,c2])
        repeat ((first|refine sR ?_|refine sC ?_|refine sX ?_);simp[c1,c2])
        refine sD (hkc _ _) ?_;simp;try (simp[c1,c2,c3,b5,hs'])
        repeat ((first|refine sR ?_|refine sC ?_|refine sX ?_);simp[c1,c2,c3,b5,hs'])
        refine sE ?_;exact⟨hb,wkA⟩
       .have hs':f.name.toList.isEmpty=false:=by simpa using fun h=>c4 (nm_nil.1 h)
        have hs2:¬f.name.toList=[]:=fun h=>c4 (nm_nil.1 h)
        have hb:badF f.kind f.name f.kids.length=true:=by unfold badF;rw[har];simp[c4,c5]
        simp only[hb,↓reduceIte] at hR;subst hR;try (simp[c1,c2])
        repeat ((first|refine sR ?_|refine sC ?_|refine sX ?_);simp[c1,c2])
        refine sD (hkc _ _) ?_;simp;try (simp[c1,c2,c3,b5,hs',hs2])
        repeat ((first|refine sR ?_|refine sC ?_|refine sX ?_);simp[c1,c2,c3,b5,hs',hs2])
        refine sT (sH Hb Ht ?_);simp
  .simp only[hbad,Bool.false_eq_true,↓reduceIte] at hR;simp only[stFoA];refine sN ?_;refine AL.cutP (l:=[_,_]) (stFoA f nb box tok nt) (¬(f.kind=1/\fatB f.name=false)) ?_ fun hat=>?_
   .by_cases c5:f.kind=1
    .have b5:(f.kind==1)=true:=by simpa using c5
     cases hn:nameB f.name
     .have ha:fatB f.name=false:=by simp[fatB,hn]
      rw[if_pos ⟨c5,ha⟩] at hR;subst hR;try (simp[b5])
      repeat ((first|refine sR ?_|refine sC ?_|refine sX ?_);simp[b5])
      refine sD (isName01_c f.name hnm _ _) ?_;simp;try (simp[b5,hn])
      repeat ((first|refine sR ?_|refine sC ?_|refine sX ?_);simp[b5,hn])
      refine sT (sH Hb Ht ?_);simp
     .cases hm:memS wordsL f.name
      .have ha:fatB f.name=true:=by simp[fatB,hn,hm]
       try (simp[b5])
       repeat ((first|refine sR ?_|refine sC ?_|refine sX ?_);simp[b5])
       refine sD (isName01_c f.name hnm _ _) ?_;simp;try (simp[b5,hn])
       repeat ((first|refine sR ?_|refine sC ?_|refine sX ?_);simp[b5,hn])
       refine sD (word50_c f.name _ _) ?_;simp;try (simp[b5,hn,hm])
       repeat ((first|refine sR ?_|refine sC ?_|refine sX ?_);simp[b5,hn,hm])
       refine sE ?_;exact⟨fun _=>ha,wkA⟩
      .have ha:fatB f.name=false:=by simp[fatB,hn,hm]
       rw[if_pos ⟨c5,ha⟩] at hR;subst hR;try (simp[b5])
       repeat ((first|refine sR ?_|refine sC ?_|refine sX ?_);simp[b5])
       refine sD (isName01_c f.name hnm _ _) ?_;simp;try (simp[b5,hn])
       repeat ((first|refine sR ?_|refine sC ?_|refine sX ?_);simp[b5,hn])
       refine sD (word50_c f.name _ _) ?_;simp;try (simp[b5,hn,hm])
       repeat ((first|refine sR ?_|refine sC ?_|refine sX ?_);simp[b5,hn,hm])
       refine sT (sH Hb Ht ?_);simp
    .have b5:(f.kind==1)=false:=by simpa using c5
     try (simp[b5])
     repeat ((first|refine sR ?_|refine sC ?_|refine sX ?_);simp[b5])
     refine sE ?_;exact⟨fun h=>absurd h c5,wkA⟩
   .rw[if_neg hat] at hR;simp only[stFoA];repeat first|simp|refine sR ?_
    refine sN ?_;refine sL (stSh5 f nb box tok nt) (fun i=>i<=f.kids.length/\∀j,j<i->∀hj:j<f.kids.length,f.kids[j].formE=0) (fun i=>f.kids.length-i) 0 ⟨Nat.zero_le _,fun j hj=>absurd hj (Nat.not_lt_zero _)⟩ wkA ?_;rintro i S ⟨hi,h0⟩ hS;simp only[stSh5] at hS;subst hS;have hw:=sW (i:=i) (by omega);repeat first|simp|refine sR ?_|refine sC ?_
    refine⟨fun hlt=>?_,fun hge=>?_⟩
    .have ihx:=ih _ (List.getElem_mem hlt);have htake:=Fo.formL_take hlt h0;repeat first|simp[hlt,Fo.cells_eq]|refine sR ?_
     generalize hx:f.kids[i]=x at *;refine sD (ihx _ _) ?_;simp;by_cases he:x.formE=0
     .try (simp[he,hw])
      repeat ((first|refine sR ?_|refine sC ?_|refine sX ?_);simp[he,hw])
      refine sE ?_;refine⟨i+1,⟨hlt,fun j hj hj2=>?_⟩,by omega,wkA⟩;rcases Nat.lt_or_ge j i with h|h
      .exact h0 j h hj2
      .have:j=i:=by omega
       subst this;rw[hx];exact he
     .have he':(x.formE != 0)=true:=by simpa using he
      rw[if_pos he] at htake;rw[htake] at hR;subst hR;try (simp[he,he'])
      repeat ((first|refine sR ?_|refine sC ?_|refine sX ?_);simp[he,he'])
      refine sT (sH Hb Ht ?_);simp
    .refine sX ?_;simp only[AU,↓reduceIte];have hz:Fo.formL f.kids=0:=Fo.formL_none fun j hj=>h0 j (by omega) hj
     rw[hz] at hR;subst hR;repeat first|simp|refine sR ?_
     refine sT (sH Hb Ht ?_);simp
theorem shape50_c(f:Fo)(hb:f.size<=1000000)(hs:f.Sm):DC 86 [f.av] (I (shapeF f)):=by
 intro tok nt box nb;have h1:=form50_c _ f (Nat.lt_succ_self _) hb hs;have h2:=measure50_c _ f (Nat.lt_succ_self _) hb;have hd:=f.depth_le_size _ (Nat.lt_succ_self _);obtain⟨R,hR⟩:∃R,shapeF f=R:=⟨_,rfl⟩
 rw[hR];unfold shapeF at hR;generalize f.formE=e at *;refine sI func86 ntmps86 fun Hb Ht=>?_
 repeat first|simp|refine sR ?_
 refine sD (h1 _ _) ?_;simp;by_cases he:e=0
 .have b0:(e != 0)=false:=by simpa using he
  rw[if_neg (by simpa using he)] at hR;try (simp[b0])
  repeat ((first|refine sR ?_|refine sC ?_|refine sX ?_);simp[b0])
  refine sD (h2 _ _) ?_;simp;by_cases c1:(40:Int)<(f.size:Int)
  .rw[if_pos (by omega)] at hR;subst hR;try (simp[c1])
   repeat ((first|refine sR ?_|refine sC ?_|refine sX ?_);simp[c1])
   refine sT (sH Hb Ht ?_);simp
  .rw[if_neg (by omega)] at hR;by_cases c2:(8:Int)<(f.depth:Int)
   .rw[if_pos (by omega)] at hR;subst hR;try (simp[c1,c2])
    repeat ((first|refine sR ?_|refine sC ?_|refine sX ?_);simp[c1,c2])
    refine sT (sH Hb Ht ?_);simp
   .rw[if_neg (by omega)] at hR;subst hR;try (simp[c1,c2])
    repeat ((first|refine sR ?_|refine sC ?_|refine sX ?_);simp[c1,c2])
    refine sT (sH Hb Ht ?_);simp
 .have b0:(e != 0)=true:=by simpa using he
  rw[if_pos he] at hR;subst hR;try (simp[b0])
  repeat ((first|refine sR ?_|refine sC ?_|refine sX ?_);simp[b0])
  refine sT (sH Hb Ht ?_);simp
mutual
def Fo.left:Fo->Int->Int
 | .mk _ s c,m=>if 60<s.size then -1 else Fo.leftL c (m-1)
def Fo.leftL:List Fo->Int->Int
 | [],m=>m
 | x::r,m=>if 0<=m then Fo.leftL r (Fo.left x m) else m
end
def hasCo(L:List Co)(s:ByteArray):Bool:=anyB (fun c:Co=>decide (c.name=s)) L
def plCo(L:List Co)(s:ByteArray):Int:=if hasCo L s=true then (L.findIdx (fun c:Co=>decide (c.name=s)):Nat) else -1
theorem plCo_nn(L:List Co)(s:ByteArray):decide (0<=plCo L s)=hasCo L s:=by
 unfold plCo;cases h:hasCo L s
 .simp
 .simp
 
theorem namedT1_c(q:Co)(s:ByteArray)(box:Bxs)(nb k:Nat)(tok:Tks)(nt:Nat)(h:box k=some [[Sb s]]):
  ACalls prog 151 [q.av,.ptr k 0 0] ⟨box,nb,tok,nt⟩ fun v m=>v=B (decide (q.name=s))/\m=⟨box,nb,tok,nt⟩:=by
 refine sI func151 ntmps151 fun Hb Ht=>?_
 have kn:=key_lt Hb h;have e:=seq_dec q.name s;repeat first|simp[lO kn,h]|refine sR ?_
 refine sT (sH Hb Ht ?_);simp[e]
theorem namedT_c(L:List Co)(s:ByteArray)(hx:L.length<=1000000):DC 84 [.d (cosD L),Sb s] (I (plCo L s)):=by
 intro tok nt box nb;have hi:=fun bx nb' k (hk:bx k=some [[Sb s]])=>indexFuncCo_c L 151 [.ptr k 0 0] (fun q=>decide (q.name=s)) hx bx nb' tok nt (by simp[hk]) (fun x _ box' nb'' he=>namedT1_c x s box' nb'' _ tok nt (he _ _ hk))
 have key:(if anyB (fun q:Co=>decide (q.name=s)) L=true then ((L.findIdx (fun q:Co=>decide (q.name=s)):Nat):Int) else -1)=plCo L s:=rfl
 rw[key] at hi;generalize plCo L s=R at *;refine sI func84 ntmps84 fun Hb Ht=>?_
 repeat first|simp|refine sR ?_
 refine Stop.of_b (hi _ _ _ (by simp[lb_at,lk])) ?_;repeat first|simp|refine sR ?_
 refine sT (sH Hb Ht ?_);simp
abbrev rSt(l:List ByteArray):List (List D):=l.map fun s=>[D.raw (.string s)]
theorem Fo.ats_eq(f:Fo):f.ats=if f.kind=1 then f.name::Fo.atsL f.kids else Fo.atsL f.kids:=by cases f;rw[Fo.ats];rfl
theorem Fo.atsL_app:∀a b:List Fo,Fo.atsL (a++b)=Fo.atsL a++Fo.atsL b
 | [],b=>by simp[Fo.atsL]
 | x::r,b=>by simp[Fo.atsL,Fo.atsL_app r b]
theorem Fo.atsL_take{l:List Fo}{i:Nat}(h:i<l.length):Fo.atsL (l.take (i+1))=Fo.atsL (l.take i)++l[i].ats:=by
 rw[List.take_succ_eq_append_getElem h,Fo.atsL_app];simp[Fo.atsL]
theorem Fo.ats_len:∀(n:Nat) (f:Fo),f.size<n->f.ats.length<=f.size
 | 0,f,h=>absurd h (Nat.not_lt_zero _)
 | n+1,f,h=>by
  have key:∀l:List Fo,Fo.sizeL l<n->(Fo.atsL l).length<=Fo.sizeL l:=by
   intro l;induction l with
   | nil=>intro _;simp[Fo.atsL]
   | cons x r ih =>
    intro hl;simp only[Fo.sizeL] at hl;have h1:=Fo.ats_len n x (by omega);have h2:=ih (by omega);simp only[Fo.sizeL,Fo.atsL,List.length_append];omega
  rw[f.size_eq] at h ⊢;rw[f.ats_eq];have:=key f.kids (by omega)
  split
  .simp;omega
  .omega
def QAt(E:List ByteArray)(box:Bxs)(nb:Nat)(mtok:Tks)(nt0 nt:Nat)(v:AV)(m:AMem):Prop :=
 ∃sz own tok nt',v=.osl sz (rSt E) own/\m=⟨box,nb,tok,nt'⟩/\TK mtok nt0 tok nt' [own]/\nt<=nt'/\(sz=1∨E=[]/\own=.full)
def atX(es:List ByteArray)(l:List Fo)(i:Nat):List ByteArray:=es++Fo.atsL (l.take i)
theorem atX_succ{es:List ByteArray}{l:List Fo}{i:Nat}(h:i<l.length):atX es l (i+1)=atX es l i++l[i].ats:=by
 unfold atX;rw[Fo.atsL_take h,List.append_assoc]
structure AtA where
 i:Nat
 sz:Nat
 own:Own
 tok:Nat->Bool
 nt:Nat
def stAtF(f:Fo)(es:List ByteArray)(nb:Nat)(box:Bxs)(a:AtA):AS :=
 ⟨tl [(16,.d (fos f.kids)),(17,I f.kids.length),(18,I a.i),(1,.osl a.sz (rSt (atX es f.kids a.i)) a.own),(2,.ptr (nb+2) 0 0)],lb nb box [(2,[f.row])],a.tok,a.nt⟩
def stAt0(f:Fo)(es:List ByteArray)(nb:Nat)(box:Bxs)(a:AtA):AS :=
 ⟨tl [(1,.osl a.sz (rSt es) a.own),(2,.ptr (nb+2) 0 0)],lb nb box [(2,[f.row])],a.tok,a.nt⟩
set_option maxRecDepth 100000 in
theorem atomsT_c(mtok:Tks)(nt0:Nat):∀(n:Nat) (f:Fo),f.size<n->f.size<=1000000->∀(es:List ByteArray) (own:Own) (sz:Nat) (tok:Tks) (nt:Nat),TK mtok nt0 tok nt [own]->(sz=1∨es=[]/\own=.full)->es.length+f.size<=2000000 ->
  ∀(box:Bxs) (nb:Nat),ACalls prog 85 [f.av,.osl sz (rSt es) own] ⟨box,nb,tok,nt⟩ (QAt (es++f.ats) box nb mtok nt0 nt)
 | 0,f,hn,_=>absurd hn (Nat.not_lt_zero _)
 | n+1,f,hn,hb=>by
  intro es own sz tok nt htk hsz hle box nb;have ih:=fun x (hx:x∈f.kids)=>atomsT_c mtok nt0 n x (by have:=Fo.kid_size hx;omega) (by have:=Fo.kid_size hx;omega)
  have hkl:=f.kids_len;obtain⟨R,hR⟩:∃R,f.ats=R:=⟨_,rfl⟩
  rw[hR];rw[f.ats_eq] at hR;have hsq:f.size=1+Fo.sizeL f.kids:=f.size_eq
  -- behind the atom's own name
  obtain⟨es0,hes0⟩:∃es0,(if f.kind=1 then es++[f.name] else es)=es0:=⟨_,rfl⟩
  have hR2:es++R=es0++Fo.atsL f.kids:=by
   rw[<-hR,<-hes0];split<;>simp
  rw[hR2];have hlast:atX es0 f.kids f.kids.length=es0++Fo.atsL f.kids:=by rw[atX,List.take_length]
  generalize es0++Fo.atsL f.kids=E1 at *;have hl0:es0.length<=es.length+1:=by rw[<-hes0];split<;>simp
  refine sI func85 ntmps85 fun Hb Ht=>?_
  refine sR ?_;simp;refine sN ?_;refine AL.cut (l:=[_,_]) (stAt0 f es0 nb box) (fun a=>TK mtok nt0 a.tok a.nt [a.own]/\nt<=a.nt/\(a.sz=1∨es0=[]/\a.own=.full)) ?_ ?_
  .by_cases c1:f.kind=1
   .have b1:(f.kind==1)=true:=by simpa using c1
    rw[if_pos c1] at hes0;subst hes0;try (simp[b1])
    repeat ((first|refine sR ?_|refine sC ?_|refine sX ?_);simp[b1])
    refine⟨⟨hsz.imp id (fun h=>⟨h.1,h.2⟩),by omega,htk.live⟩,?_⟩;try (simp[b1])
    repeat ((first|refine sR ?_|refine sC ?_|refine sX ?_);simp[b1])
    refine sE ?_;exact⟨⟨0,1,.tok nt,_,nt+1⟩,⟨htk.app,Nat.le_succ _,rfl⟩,wM (Nat.le_succ _) rfl (by simp[ToL,lk]) (by simp[BoxL,lk])⟩
   .have b1:(f.kind==1)=false:=by simpa using c1
    rw[if_neg c1] at hes0;subst hes0;try (simp[b1])
    repeat ((first|refine sR ?_|refine sC ?_|refine sX ?_);simp[b1])
    refine sE ?_;exact⟨⟨0,sz,own,tok,nt⟩,⟨htk,nr _,hsz⟩,wkA⟩
  .rintro⟨_,sz1,own1,tok1,nt1⟩ ⟨htk1,hle1,hsz1⟩;simp only at htk1 hle1 hsz1;simp only[stAt0];repeat first|simp|refine sR ?_
   refine sN ?_;refine sL (stAtF f es0 nb box) (fun a=>a.i<=f.kids.length/\TK mtok nt0 a.tok a.nt [a.own]/\nt<=a.nt/\(a.sz=1∨atX es0 f.kids a.i=[]/\a.own=.full)) (fun a=>f.kids.length-a.i) ⟨0,sz1,own1,tok1,nt1⟩ ⟨Nat.zero_le _,htk1,hle1,by simpa[atX,Fo.atsL] using hsz1⟩ (wM hle1 rfl (by simp[ToL,lk,atX,Fo.atsL]) (by simp[BoxL,lk])) ?_;rintro⟨i,sz2,own2,tok2,nt2⟩ S ⟨hi,htk2,hle2,hsz2⟩ hS;simp only[stAtF] at hS hi htk2 hle2 hsz2;subst hS;have hw:=sW (i:=i) (by omega);repeat first|simp|refine sR ?_|refine sC ?_
   refine⟨fun hlt=>?_,fun hge=>?_⟩
   .have hst:=atX_succ (es:=es0) hlt;have hal:(Fo.atsL (f.kids.take i)).length+f.kids[i].size<=Fo.sizeL f.kids:=by
     have h1:=Fo.sizeL_take hlt;have h2:=Fo.sizeL_take_le f.kids (i+1);have h3:∀l:List Fo,(Fo.atsL l).length<=Fo.sizeL l:=by
      intro l;induction l with
      | nil=>simp[Fo.atsL]
      | cons x r ih =>
       have:=Fo.ats_len _ x (Nat.lt_succ_self _)
       simp only[Fo.atsL,Fo.sizeL,List.length_append];omega
     have:=h3 (f.kids.take i)
     omega
    have ihx:=ih _ (List.getElem_mem hlt) (atX es0 f.kids i) own2 sz2 tok2 nt2 htk2 hsz2 (by simp only[atX,List.length_append];omega);repeat first|simp[hlt,Fo.cells_eq]|refine sR ?_
    generalize f.kids[i]=x at *;generalize atX es0 f.kids i=E0 at *;refine Stop.of_a (ihx _ _) ?_;rintro v m' ⟨sz3,own3,tok3,nt3,rfl,rfl,htk3,hle3,hsz3⟩;repeat first|simp[hw]|refine sR ?_
    refine sE ?_;refine⟨⟨i+1,sz3,own3,tok3,nt3⟩,⟨hlt,htk3,by simp only;omega,?_⟩,by simp only;omega,wM (Nat.le_trans hle2 hle3) rfl (by simp[ToL,lk,hst]) (by simp[BoxL,lk])⟩;simp only[hst];exact hsz3
   .refine sX ?_;simp only[AU,↓reduceIte];have:i=f.kids.length:=by omega
    subst this;rw[hlast] at hsz2 ⊢;repeat first|simp|refine sR ?_
    refine sT ?_;try simp only[AU]
    exact⟨by simp,(Fin.own (av:=.osl sz2 (rSt E1) own2) (by simp[resAs,resA];rfl) Hb rfl hle2 (by simp)).mono fun v m hq=>⟨sz2,own2,tok2,nt2,hq.1,hq.2,htk2,hle2,hsz2⟩⟩
theorem condR_err(c:Co):(condR c).2=shpE c:=by
 unfold condR;split<;>simp_all
def coE(L:List Co)(i:Nat):Int:=match L[i]? with
 | some c=>if shpE c≠0 then shpE c else if plCo L c.name<(i:Int) then 5 else 0
 | none=>0
def coF(L:List Co):Nat->Nat->Int
 | 0,_=>0
 | n+1,i=>if coE L i≠0 then coE L i else coF L n (i+1)
theorem coF_at{L:List Co}{i:Nat}(h:i<L.length):coF L (L.length-i) i=if coE L i≠0 then coE L i else coF L (L.length-(i+1)) (i+1):=by
 rw[show L.length-i=(L.length-(i+1))+1 by omega,coF]
def validF(f:Fo)(L:List Co):Int:=if shapeF f≠0 then shapeF f else if 20<L.length then 3 else if coF L L.length 0≠0 then coF L L.length 0 else if (f.ats.all fun s=>hasCo L s)=true then 0 else 4
structure Cos (L:List Co):Prop where
 n:L.length<=1000000
 fit:∀c∈L,c.Fit
def stVa(f:Fo)(L:List Co)(nb:Nat)(box:Bxs)(tok:Tks)(nt:Nat)(i:Nat):AS :=
 ⟨tl [(20,.d (cosD L)),(21,I L.length),(22,I i),(1,.d (cosD L)),(2,.ptr (nb+2) 0 0)],lb nb box [(2,[f.row])],tok,nt⟩
def stVb(L:List Co)(A:List ByteArray)(nb:Nat)(box:Bxs)(tok:Tks)(nt:Nat)(i:Nat):AS :=
 ⟨tl [(43,.d (strs A)),(44,I A.length),(45,I i),(1,.d (cosD L))],lb nb box [],tok,nt⟩
set_option maxRecDepth 100000 in
theorem validT_c(f:Fo)(L:List Co)(hb:f.size<=1000000)(hs:f.Sm)(hL:Cos L):DC 28 [f.av,.d (cosD L)] (I (validF f L)):=by
 intro tok nt box nb;have hLn:=hL.n;obtain⟨R,hR⟩:∃R,validF f L=R:=⟨_,rfl⟩
 rw[hR];unfold validF at hR;refine sI func28 ntmps28 fun Hb Ht=>?_
 repeat first|simp|refine sR ?_
 refine sD (shapeT_c f hb hs _ _) ?_;simp;by_cases c1:shapeF f=0
 .have b1:(shapeF f != 0)=false:=by simpa using c1
  rw[if_neg (by simpa using c1)] at hR;by_cases c2:(20:Int)<(L.length:Int)
  .rw[if_pos (by omega)] at hR;subst hR;try (simp[b1,c2])
   repeat ((first|refine sR ?_|refine sC ?_|refine sX ?_);simp[b1,c2])
   refine sT (sH Hb Ht ?_);simp
  .rw[if_neg (by omega)] at hR;try (simp[b1,c2])
   repeat ((first|refine sR ?_|refine sC ?_|refine sX ?_);simp[b1,c2])
   refine sN ?_;refine sL (stVa f L nb box tok nt) (fun i=>i<=L.length/\coF L L.length 0=coF L (L.length-i) i) (fun i=>L.length-i) 0 ⟨Nat.zero_le _,rfl⟩ wkA ?_;rintro i S ⟨hi,hco⟩ hS;simp only[stVa] at hS;subst hS;have hw:=sW (i:=i) (by omega);repeat first|simp|refine sR ?_|refine sC ?_
   refine⟨fun hlt=>?_,fun hge=>?_⟩
   .have hc:=condK_c L[i] (hL.fit _ (List.getElem_mem hlt)) tok nt;rw[condR_err] at hc;rw[coF_at hlt] at hco;have hce:coE L i=if shpE L[i]≠0 then shpE L[i] else if plCo L L[i].name<(i:Int) then 5 else 0:=by simp[coE,hlt]
    repeat first|simp[hlt]|refine sR ?_
    generalize L[i]=x at *;refine sD (hc) ?_;simp;by_cases e1:shpE x=0
    .have d1:(shpE x != 0)=false:=by simpa using e1
     rw[if_neg (by simpa using e1)] at hce;try (simp[d1])
     repeat ((first|refine sR ?_|refine sC ?_|refine sX ?_);simp[d1])
     refine sD (namedT_c L x.name hLn _ _) ?_;simp;by_cases e2:plCo L x.name<(i:Int)
     .rw[if_pos e2] at hce;rw[hce,if_pos (by decide)] at hco;rw[hco,if_pos (by decide)] at hR;subst hR;try (simp[e2])
      repeat ((first|refine sR ?_|refine sC ?_|refine sX ?_);simp[e2])
      refine sT (sH Hb Ht ?_);simp
     .rw[if_neg e2] at hce;rw[hce,if_neg (by decide)] at hco;try (simp[e2,hw])
      repeat ((first|refine sR ?_|refine sC ?_|refine sX ?_);simp[e2,hw])
      refine sE ?_;exact⟨i+1,⟨hlt,hco⟩,by omega,wkA⟩
    .have d1:(shpE x != 0)=true:=by simpa using e1
     rw[if_pos e1] at hce;rw[hce,if_pos e1] at hco;rw[hco,if_pos e1] at hR;subst hR;try (simp[d1])
     repeat ((first|refine sR ?_|refine sC ?_|refine sX ?_);simp[d1])
     refine sT (sH Hb Ht ?_);simp
   .refine sX ?_;simp only[AU,↓reduceIte];have hz:coF L L.length 0=0:=by rw[hco,show L.length-i=0 by omega];rfl
    rw[hz,if_neg (by decide)] at hR;obtain⟨A,hA⟩:∃A,f.ats=A:=⟨_,rfl⟩
    have hAl:A.length<=1000000:=by rw[<-hA];have:=f.ats_len _ (Nat.lt_succ_self _);omega
    have hat:=atomsT_c tok nt _ f (Nat.lt_succ_self _) hb [] .full 0 tok nt (TK.start Ht).full (.inr ⟨rfl,rfl⟩) (by simp;omega);rw[List.nil_append,hA] at hat;rw[hA] at hR;repeat first|simp|refine sR ?_
    refine Stop.of_a (hat _ _) ?_;rintro v m' ⟨sz,own,tok2,nt2,rfl,rfl,htk2,hle2,hsz2⟩;have hto:∀p q fz,To p q fz (.osl sz (rSt A) own) (.d (strs A)):=fun p q fz=>by
     rcases hsz2 with h|⟨h,_⟩
     .subst h;exact .data
     .subst h;exact .odsub .emp
    repeat first|simp|refine sR ?_
    refine sN ?_;refine sL (stVb L A nb box tok2 nt2) (fun i=>i<=A.length/\∀j,j<i->∀hj:j<A.length,hasCo L A[j]=true) (fun i=>A.length-i) 0 ⟨Nat.zero_le _,fun j hj=>absurd hj (Nat.not_lt_zero _)⟩ (wM hle2 rfl (by simp[ToL,lk];exact hto _ _ _) trivial) ?_;rintro j S ⟨hj,hall⟩ hS;simp only[stVb] at hS;subst hS;have hw:=sW (i:=j) (by omega);repeat first|simp|refine sR ?_|refine sC ?_
    refine⟨fun hlt=>?_,fun hge=>?_⟩
    .have hno:hasCo L A[j]=false->R=4:=fun h=>by
      rw[<-hR,if_neg];intro ha;rw[List.all_eq_true] at ha;have:=ha _ (List.getElem_mem hlt)
      rw[h] at this;cases this
     have hmore:hasCo L A[j]=true->∀q,q<j+1->∀hq:q<A.length,hasCo L A[q]=true:=fun h q hq hq2=>by
      rcases Nat.lt_or_ge q j with h'|h'
      .exact hall q h' hq2
      .have:q=j:=by omega
       subst this;exact h
     have hnn:=plCo_nn L A[j];repeat first|simp[hlt]|refine sR ?_
     generalize A[j]=x at *;refine sD (namedT_c L x hLn _ _) ?_;simp;cases e:hasCo L x
     .have hf:=hno e;subst hf;rw[e] at hnn;have hd:plCo L x<0:=by simpa using hnn
      try (simp[hd])
      repeat ((first|refine sR ?_|refine sC ?_|refine sX ?_);simp[hd])
      refine sT (sG Hb Ht htk2.old hle2 ?_);simp
     .rw[e] at hnn;have hd:¬plCo L x<0:=by simpa using hnn
      try (simp[hd,hw])
      repeat ((first|refine sR ?_|refine sC ?_|refine sX ?_);simp[hd,hw])
      refine sE ?_;exact⟨j+1,⟨hlt,hmore e⟩,by omega,wM hle2 rfl (by simp[ToL,lk]) trivial⟩
    .refine sX ?_;simp only[AU,↓reduceIte];have hz:R=0:=by
      rw[<-hR,if_pos];rw[List.all_eq_true];intro x hx;obtain⟨q,hq,rfl⟩:=List.getElem_of_mem hx;exact hall q (by omega) hq
     subst hz;repeat first|simp|refine sR ?_
     refine sT (sG Hb Ht htk2.old hle2 ?_);simp
 .have b1:(shapeF f != 0)=true:=by simpa using c1
  rw[if_pos c1] at hR;subst hR;try (simp[b1])
  repeat ((first|refine sR ?_|refine sC ?_|refine sX ?_);simp[b1])
  refine sT (sH Hb Ht ?_);simp
def arS(N:List (List Int))(a:Int × Int):List (List Int):=if decide (a.2∈N.getD a.1.toNat [])=true then N else N.set a.1.toNat (N.getD a.1.toNat []++[a.2])
def arP(n:Nat)(A:List (Int × Int))(i:Nat):List (List Int):=(A.take i).foldl arS (List.replicate n [])
theorem arP_zero(n:Nat)(A:List (Int × Int)):arP n A 0=List.replicate n []:=by simp[arP]
theorem arP_succ{n:Nat}{A:List (Int × Int)}{i:Nat}(h:i<A.length):arP n A (i+1)=arS (arP n A i) A[i]:=by
 unfold arP;rw[List.take_succ_eq_append_getElem h,List.foldl_append];rfl
structure RwI (n:Nat) (N:List (List Int)):Prop where
 len:N.length=n
 nod:∀r∈N,r.Nodup
 rng:∀r∈N,∀k∈r,inR n k
theorem RwI.le{n:Nat}{N:List (List Int)}(h:RwI n N):∀r∈N,r.length<=n:=fun r hr=>nodup_len n r (h.nod r hr) (h.rng r hr)
theorem rw_step{n:Nat}{N:List (List Int)}{a:Int × Int}(h:RwI n N)(h1:inR n a.1)(h2:inR n a.2):RwI n (arS N a):=by
 unfold arS;have hl:=h.len;obtain⟨g1,g2⟩:=h1;have hi:a.1.toNat<N.length:=by omega
 have hg:N.getD a.1.toNat []=N[a.1.toNat]:=by simp[hi]
 rw[hg];split
 .exact h
 .rename_i hc;have hm:=List.getElem_mem hi;generalize N[a.1.toNat]=r at *;refine⟨by simpa using hl,fun q hq=>?_,fun q hq=>?_⟩
  .rcases List.mem_or_eq_of_mem_set hq with hq|rfl
   .exact h.nod q hq
   .refine List.pairwise_append.2 ⟨h.nod r hm,by simp,fun x hx y hy e=>?_⟩;simp at hy;subst hy;subst e;exact hc (by simpa using hx)
  .rcases List.mem_or_eq_of_mem_set hq with hq|rfl
   .exact h.rng q hq
   .intro k hk;rcases List.mem_append.1 hk with hk|hk
    .exact h.rng r hm k hk
    .simp at hk;subst hk;exact h2
theorem arP_ok{n:Nat}{A:List (Int × Int)}(hA:∀a∈A,inR n a.1/\inR n a.2):∀i,i<=A.length->RwI n (arP n A i)
 | 0,_=>by
  rw[arP_zero];refine⟨by simp,fun r hr=>?_,fun r hr=>?_⟩
  .rw[(List.mem_replicate.1 hr).2];exact .nil
  .rw[(List.mem_replicate.1 hr).2];intro k hk;simp at hk
 | i+1,hi=>by
  rw[arP_succ hi];have:=hA _ (List.getElem_mem hi)
  exact rw_step (arP_ok hA i (by omega)) this.1 this.2
def nx0(i:Nat)(r:List Int):List Int:=if r=[] then [(i:Int)] else r
def nx1(i:Nat)(r:List Int):List Int:=sortI (nx0 i r)
def nxR(N:List (List Int)):List (List Int):=N.mapIdx nx1
@[simp] theorem nxR_len(N:List (List Int)):(nxR N).length=N.length:=by simp[nxR]
theorem nxR_at{N:List (List Int)}{i:Nat}(h:i<N.length)(h2:i<(nxR N).length):(nxR N)[i]=nx1 i N[i]:=by simp[nxR]
theorem mem_sortI(l:List Int)(x:Int):x∈sortI l↔x∈l:=by
 unfold sortI;exact(List.mergeSort_perm l fun x y=>decide (x<=y)).mem_iff
theorem nx0_ok{n i:Nat}(hi:i<n){r:List Int}(h1:r.Nodup)(h2:∀k∈r,inR n k):(nx0 i r).Nodup/\(∀k∈nx0 i r,inR n k)/\nx0 i r≠[]:=by
 unfold nx0;split
 .refine⟨by simp,fun k hk=>?_,by simp⟩;simp at hk;subst hk;exact⟨by omega,by omega⟩
 .rename_i h;exact⟨h1,h2,h⟩
theorem nx1_ok{n i:Nat}(hi:i<n){r:List Int}(h1:r.Nodup)(h2:∀k∈r,inR n k):(nx1 i r).Nodup/\(∀k∈nx1 i r,inR n k)/\nx1 i r≠[]:=by
 obtain⟨g1,g2,g3⟩:=nx0_ok hi h1 h2;refine⟨(List.mergeSort_perm (nx0 i r) fun x y=>decide (x<=y)).symm.nodup g1,fun k hk=>g2 k ((mem_sortI _ k).1 hk),fun e=>g3 ?_⟩;have h3:(nx1 i r).length=(nx0 i r).length:=by simp[nx1,sortI]
 rw[e] at h3;exact List.length_eq_zero_iff.1 h3.symm
theorem nxR_ok{n:Nat}{N:List (List Int)}(h:RwI n N):RwI n (nxR N)/\∀r∈nxR N,r≠[]:=by
 have key:∀r∈nxR N,r.Nodup/\(∀k∈r,inR n k)/\r≠[]:=by
  intro r hr;obtain⟨i,hi,rfl⟩:=List.getElem_of_mem hr;have hi2:i<N.length:=by simpa using hi
  rw[nxR_at hi2];exact nx1_ok (by have:=h.len;omega) (h.nod _ (List.getElem_mem hi2)) (h.rng _ (List.getElem_mem hi2))
 exact⟨⟨by rw[nxR_len];exact h.len,fun r hr=>(key r hr).1,fun r hr=>(key r hr).2.1⟩,fun r hr=>(key r hr).2.2⟩
def pvS(i:Nat)(P:List (List Int))(k:Int):List (List Int):=P.set k.toNat (P.getD k.toNat []++[(i:Int)])
def pvJ(i:Nat)(r:List Int)(P:List (List Int))(j:Nat):List (List Int):=(r.take j).foldl (pvS i) P
theorem pvJ_zero(i:Nat)(r:List Int)(P:List (List Int)):pvJ i r P 0=P:=by simp[pvJ]
theorem pvJ_succ{i:Nat}{r:List Int}{P:List (List Int)}{j:Nat}(h:j<r.length):pvJ i r P (j+1)=pvS i (pvJ i r P j) r[j]:=by
 unfold pvJ;rw[List.take_succ_eq_append_getElem h,List.foldl_append];rfl
theorem pv_len(i:Nat):∀(r:List Int) (P:List (List Int)),(r.foldl (pvS i) P).length=P.length
 | [],P=>rfl
 | k::r,P=>by rw[List.foldl_cons,pv_len i r];simp[pvS]
@[simp] theorem pvJ_len(i:Nat)(r:List Int)(P:List (List Int))(j:Nat):(pvJ i r P j).length=P.length:=pv_len i _ P
def pvP(NX:List (List Int)):Nat->List (List Int)
 | 0=>List.replicate NX.length []
 | i+1=>(NX.getD i []).foldl (pvS i) (pvP NX i)
@[simp] theorem pvP_len(NX:List (List Int)):∀i,(pvP NX i).length=NX.length
 | 0=>by simp[pvP]
 | i+1=>by rw[pvP,pv_len,pvP_len NX i]
theorem pvP_succ{NX:List (List Int)}{i:Nat}{r:List Int}(h:NX.getD i []=r):pvP NX (i+1)=pvJ i r (pvP NX i) r.length:=by
 rw[pvP,h,pvJ,List.take_length]
theorem pvS_get{i:Nat}{P:List (List Int)}{k:Int}(hk:inR P.length k){q:Nat}(hq:q<P.length):(pvS i P k).getD q []=P.getD q []++if (q:Int)=k then [(i:Int)] else []:=by
 obtain⟨h1,h2⟩:=hk;have hk2:k.toNat<P.length:=by omega
 unfold pvS;by_cases e:(q:Int)=k
 .have:k.toNat=q:=by omega
  subst e;simp[hq]
 .have:k.toNat≠q:=by omega
  simp[e,List.getElem?_set,this]
theorem pv_fold(i:Nat):∀(r:List Int) (P:List (List Int)),r.Nodup->(∀k∈r,inR P.length k)->∀q,q<P.length->(r.foldl (pvS i) P).getD q []=P.getD q []++if (q:Int)∈r then [(i:Int)] else []
 | [],P,_,_,q,_=>by simp
 | k::r,P,hn,hr,q,hq=>by
  have hn2:=List.pairwise_cons.1 hn;have hl:(pvS i P k).length=P.length:=by simp[pvS]
  rw[List.foldl_cons,pv_fold i r (pvS i P k) hn2.2 (fun x hx=>by rw[hl];exact hr x (by simp[hx])) q (by omega),pvS_get (hr k (by simp)) hq];by_cases e:(q:Int)=k
  .have h1:(q:Int)∉r:=fun hm=>hn2.1 _ hm e.symm
   rw[if_pos e,if_neg h1,if_pos (by rw[e];simp)];simp
  .rw[if_neg e];by_cases hm:(q:Int)∈r
   .rw[if_pos hm,if_pos (by simp[hm])];simp
   .rw[if_neg hm,if_neg (by simp[hm,e])];simp
theorem pvP_get{NX:List (List Int)}(h:RwI NX.length NX):∀i,i<=NX.length->∀q,q<NX.length->(pvP NX i).getD q []=((List.range i).filter fun j=>decide ((q:Int)∈NX.getD j [])).map fun (j:Nat)=>(j:Int)
 | 0,_,q,hq=>by simp[pvP,hq]
 | i+1,hi,q,hq=>by
  have hm:NX.getD i []∈NX:=by
   have:NX.getD i []=NX[i]:=by simp[show i<NX.length by omega]
   rw[this];exact List.getElem_mem _
  rw[pvP,pv_fold i _ _ (h.nod _ hm) (fun k hk=>by rw[pvP_len];exact h.rng _ hm k hk) q (by rw[pvP_len];exact hq),pvP_get h i (by omega) q hq,List.range_succ,List.filter_append,List.map_append];congr 1
  by_cases e:(q:Int)∈NX.getD i []
  .rw[if_pos e,List.filter_cons_of_pos (by simpa only[decide_eq_true_eq] using e)];rfl
  .rw[if_neg e,List.filter_cons_of_neg (by simpa only[decide_eq_true_eq] using e)];rfl
def putP(es:List (ByteArray × List Bool))(s:ByteArray)(b:Bool):List (ByteArray × List Bool):=match es.findIdx? fun e=>decide (e.1=s) with
 | some i=>es.set i (s,(es.getD i (s,[])).2++[b])
 | none=>es++[(s,[b])]
theorem findIdx_mid{α:Type}{p:α->Bool}:∀{A:List α} {x:α} {B:List α},(∀e∈A,p e=false)->p x=true->(A++x::B).findIdx? p=some A.length
 | [],x,B,_,hx=>by simp[List.findIdx?_cons,hx]
 | a::A,x,B,h,hx=>by
  rw[List.cons_append,List.findIdx?_cons,h a (by simp),findIdx_mid (fun e he=>h e (by simp[he])) hx];simp
theorem put_mid{A B:List (ByteArray × List Bool)}{s:ByteArray}{xs:List Bool}{b:Bool}(h:∀e∈A,e.1≠s):putP (A++(s,xs)::B) s b=A++(s,xs++[b])::B:=by
 unfold putP;rw[findIdx_mid (fun e he=>by simpa using h e he) (by simp)];simp
theorem put_new{A:List (ByteArray × List Bool)}{s:ByteArray}{b:Bool}(h:∀e∈A,e.1≠s):putP A s b=A++[(s,[b])]:=by
 unfold putP;rw[List.findIdx?_eq_none_iff.2 fun e he=>by simpa using h e he]
def atmS(u:ByteArray->Bool)(bt:Co->Bool)(es:List (ByteArray × List Bool))(c:Co):List (ByteArray × List Bool):=if u c.name=true then putP es c.name (bt c) else es
def atmH(u:ByteArray->Bool)(bit:Hs->Co->Bool)(L:List Co)(es:List (ByteArray × List Bool))(h:Hs):List (ByteArray × List Bool):=L.foldl (atmS u (bit h)) es
def atmR(u:ByteArray->Bool)(bit:Hs->Co->Bool)(L:List Co)(H:List Hs):List (ByteArray × List Bool):=H.foldl (atmH u bit L) []
def ndN(L:List Co):Prop:=L.Pairwise fun a b=>a.name≠b.name
theorem at_new(u:ByteArray->Bool)(bt:Co->Bool):∀(M D:List Co),ndN (D++M)->M.foldl (atmS u bt) (D.map fun c=>(c.name,[bt c]))=(D++M.filter fun c=>u c.name).map fun c=>(c.name,[bt c])
 | [],D,_=>by simp
 | c::M,D,h=>by
  have hc:=(List.pairwise_append.1 h).2.2;rw[List.foldl_cons];by_cases e:u c.name=true
  .have hs:atmS u bt (D.map fun c=>(c.name,[bt c])) c=(D++[c]).map fun c=>(c.name,[bt c]):=by
    unfold atmS;rw[if_pos e,put_new fun x hx=>by
     obtain⟨y,hy,rfl⟩:=List.mem_map.1 hx;exact hc y hy c (by simp)]
    simp
   rw[hs,at_new u bt M (D++[c]) (by simpa[ndN] using h)];simp[e]
  .have hs:atmS u bt (D.map fun c=>(c.name,[bt c])) c=D.map fun c=>(c.name,[bt c]):=by
    unfold atmS;rw[if_neg e]
   have hd:ndN (D++M):=by
    refine List.Pairwise.sublist ?_ h;exact(List.Sublist.refl D).append (List.sublist_cons_self c M)
   rw[hs,at_new u bt M D hd];simp[e]
theorem at_old(u:ByteArray->Bool)(bt:Co->Bool)(g:Co->List Bool):∀(M D:List Co),ndN (D++M)->M.foldl (atmS u bt) ((D.map fun c=>(c.name,g c++[bt c]))++(M.filter fun c=>u c.name).map fun c=>(c.name,g c))=(D++M.filter fun c=>u c.name).map fun c=>(c.name,g c++[bt c])
 | [],D,_=>by simp
 | c::M,D,h=>by
  have hc:=(List.pairwise_append.1 h).2.2;rw[List.foldl_cons];by_cases e:u c.name=true
  .have hs:atmS u bt ((D.map fun c=>(c.name,g c++[bt c]))++((c::M).filter fun c=>u c.name).map fun c=>(c.name,g c)) c=((D++[c]).map fun c=>(c.name,g c++[bt c]))++(M.filter fun c=>u c.name).map fun c=>(c.name,g c):=by
    unfold atmS;rw[if_pos e,List.filter_cons_of_pos (by simpa using e),List.map_cons,put_mid fun x hx=>by
     obtain⟨y,hy,rfl⟩:=List.mem_map.1 hx;exact hc y hy c (by simp)]
    simp
   rw[hs,at_old u bt g M (D++[c]) (by simpa[ndN] using h)];simp[e]
  .have hd:ndN (D++M):=by
    refine List.Pairwise.sublist ?_ h;exact(List.Sublist.refl D).append (List.sublist_cons_self c M)
   have hf:((c::M).filter fun c=>u c.name)=M.filter fun c=>u c.name:=List.filter_cons_of_neg (by simpa using e)
   have hs:∀es,atmS u bt es c=es:=fun es=>by
    unfold atmS;rw[if_neg e]
   rw[hs,hf,at_old u bt g M D hd]
theorem atH_pre(u:ByteArray->Bool)(bit:Hs->Co->Bool)(L:List Co)(hN:ndN L):∀(H pre:List Hs),H.foldl (atmH u bit L) ((L.filter fun c=>u c.name).map fun c=>(c.name,pre.map fun h=>bit h c))=(L.filter fun c=>u c.name).map fun c=>(c.name,(pre++H).map fun h=>bit h c)
 | [],pre=>by simp
 | h::H,pre=>by
  rw[List.foldl_cons];have h1:=at_old u (bit h) (fun c=>pre.map fun h=>bit h c) L [] (by simpa using hN);simp only[List.map_nil,List.nil_append] at h1;have h2:atmH u bit L ((L.filter fun c=>u c.name).map fun c=>(c.name,pre.map fun h=>bit h c)) h=(L.filter fun c=>u c.name).map fun c=>(c.name,(pre++[h]).map fun h=>bit h c):=by
   unfold atmH;rw[h1];simp
  rw[h2,atH_pre u bit L hN H (pre++[h])];simp
theorem atR_eq(u:ByteArray->Bool)(bit:Hs->Co->Bool)(L:List Co)(hN:ndN L)(H:List Hs)(hH:H≠[]):atmR u bit L H=(L.filter fun c=>u c.name).map fun c=>(c.name,H.map fun h=>bit h c):=by
 match H,hH with
 | h::H,_ =>
  unfold atmR;rw[List.foldl_cons];have h1:=at_new u (bit h) L [] (by simpa using hN);simp only[List.map_nil,List.nil_append] at h1;have h2:atmH u bit L [] h=(L.filter fun c=>u c.name).map fun c=>(c.name,[h].map fun h=>bit h c):=by
   unfold atmH;rw[h1];simp
  rw[h2,atH_pre u bit L hN H [h]];simp
def bitS(t:Ty)(h:Hs)(c:Co):Bool:=decide ((vioS t c h.g fun _=>false).1.length=0)
def usedF(f:Fo)(s:ByteArray):Bool:=memS f.ats s
def mdlR(t:Ty)(H:List Hs)(A:List (Int × Int))(f:Fo)(L:List Co):Mdl :=
 ⟨nxR (arP H.length A A.length),pvP (nxR (arP H.length A A.length)) H.length,atmR (usedF f) (bitS t) L H⟩
theorem coF_zero{L:List Co}:∀(n i:Nat),coF L n i=0->∀j,i<=j->j<i+n->coE L j=0
 | 0,i,_,j,h1,h2=>by omega
 | n+1,i,h,j,h1,h2=>by
  rw[coF] at h;split at h
  .rename_i hc;exact absurd h hc
  .rename_i hc;by_cases e:j=i
   .subst e;simpa using hc
   .exact coF_zero n (i+1) h j (by omega) (by omega)
theorem plCo_le{L:List Co}{i:Nat}(h:i<L.length){s:ByteArray}(hs:L[i].name=s):plCo L s<=(i:Int):=by
 unfold plCo;split
 .have:L.findIdx (fun c:Co=>decide (c.name=s))<=i:=Nat.le_of_not_lt fun hlt=>absurd hs (by have:=List.not_of_lt_findIdx hlt;simpa using this)
  omega
 .omega
theorem coF_nd{L:List Co}(h:coF L L.length 0=0):ndN L:=by
 refine List.pairwise_iff_getElem.2 fun i j hi hj hij e=>?_
 have hj0:=coF_zero L.length 0 h j (Nat.zero_le _) (by omega);have hp:=plCo_le hi e;unfold coE at hj0;rw[List.getElem?_eq_getElem hj] at hj0;simp only at hj0;split at hj0
 .rename_i h1;exact absurd hj0 h1
 .split at hj0
  .cases hj0
  .omega
theorem coF_sh{L:List Co}(h:coF L L.length 0=0):∀c∈L,shpE c=0:=by
 intro c hc;obtain⟨j,hj,rfl⟩:=List.getElem_of_mem hc;have hj0:=coF_zero L.length 0 h j (Nat.zero_le _) (by omega);unfold coE at hj0;rw[List.getElem?_eq_getElem hj] at hj0;simp only at hj0;split at hj0
 .rename_i h1;exact absurd hj0 h1
 .rename_i h1;simpa using h1
structure VaF (f:Fo) (L:List Co):Prop where
 form:f.formE=0
 size:f.size<=40
 depth:f.depth<=8
 nL:L.length<=20
 nd:ndN L
 sh:∀c∈L,shpE c=0
 ats:∀s∈f.ats,hasCo L s=true
theorem validF_zero{f:Fo}{L:List Co}(h:validF f L=0):VaF f L:=by
 have h1:shapeF f=0:=Classical.byContradiction fun e=>by rw[validF,if_pos e] at h;exact e h
 rw[validF,if_neg (by simp[h1])] at h;have h2:¬20<L.length:=fun e=>by rw[if_pos e] at h;exact absurd h (by decide)
 rw[if_neg h2] at h;have h3:coF L L.length 0=0:=Classical.byContradiction fun e=>by rw[if_pos e] at h;exact e h
 rw[if_neg (by simp[h3])] at h;have h4:(f.ats.all fun s=>hasCo L s)=true:=Classical.byContradiction fun e=>by rw[if_neg e] at h;exact absurd h (by decide)
 unfold shapeF at h1;have g1:f.formE=0:=Classical.byContradiction fun e=>by rw[if_pos e] at h1;exact e h1
 rw[if_neg (by simp[g1])] at h1;have g2:¬40<f.size:=fun e=>by rw[if_pos e] at h1;exact absurd h1 (by decide)
 rw[if_neg g2] at h1;have g3:¬8<f.depth:=fun e=>by rw[if_pos e] at h1;exact absurd h1 (by decide)
 exact⟨g1,by omega,by omega,by omega,coF_nd h3,coF_sh h3,fun s hs=>List.all_eq_true.1 h4 s hs⟩
theorem arB_sh{k:Int}{n:Nat}(h:arB k n=true):(k=1/\n=0)∨((k=3∨k=4)/\2<=n)∨((k=8∨k=12)/\n=2)∨(k≠1/\k≠3/\k≠4/\k≠8/\k≠12/\1<=k/\k<=12/\n=1):=by
 unfold arB at h;split at h
 .simp at h;omega
 .split at h
  .simp at h;omega
  .split at h
   .simp at h;omega
   .simp at h;omega
mutual
theorem Fo.hok_of(m:Mdl):∀f:Fo,f.formE=0->(∀s∈f.ats,∃a∈m.atoms,a.1=s)->f.Hok m
 | .mk k s c,h,ha=>by
  rw[Fo.formE] at h;rw[Fo.ats] at ha;split at h
  .cases h
  .rename_i hb;split at h
   .cases h
   .have har:arB k c.length=true:=by
     unfold badF at hb;cases e:arB k c.length with
     | true=>rfl
     | false=>rw[e] at hb;simp at hb
    have har2:=arB_sh har;have hk:=Fo.hokL_of m c h (fun x hx=>ha x (by split<;>simp[hx]));rw[Fo.Hok];exact⟨⟨fun hk=>ha s (by simp[hk]),fun hk=>by omega,fun h1 h2 h3 h4 h5 h6 h7 h8 h9 h10=>by omega⟩,hk⟩
theorem Fo.hokL_of(m:Mdl):∀l:List Fo,Fo.formL l=0->(∀s∈Fo.atsL l,∃a∈m.atoms,a.1=s)->Fo.HokL m l
 | [],_,_=>by rw[Fo.HokL];trivial
 | x::r,h,ha=>by
  rw[Fo.formL] at h;rw[Fo.atsL] at ha;split at h
  .rename_i hx;exact absurd h hx
  .rename_i hx;have h1:=Fo.hok_of m x (by simpa using hx) (fun s hs=>ha s (by simp[hs]));have h2:=Fo.hokL_of m r h (fun s hs=>ha s (by simp[hs]));rw[Fo.HokL];exact⟨h1,h2⟩
end
structure MdlG (m:Mdl) (n:Nat) (f:Fo):Prop where
 ok:m.Ok n
 hok:f.Hok m
 cv:∀k,inR n k->∀i∈m.prev.getD k.toNat [],k∈m.next.getD i.toNat []
 ne:∀r∈m.next,r≠[]
theorem mdl_ok(t:Ty)(H:List Hs)(A:List (Int × Int))(f:Fo)(L:List Co)(hH:0<H.length)(hH2:H.length<=300)(hA:∀a∈A,inR H.length a.1/\inR H.length a.2)(hv:VaF f L):MdlG (mdlR t H A f L) H.length f:=by
 obtain⟨hx,hne⟩:=nxR_ok (arP_ok hA A.length (nr _));have hat:=atR_eq (usedF f) (bitS t) L hv.nd H (fun e=>by rw[e] at hH;simp at hH);have e1:(mdlR t H A f L).next=nxR (arP H.length A A.length):=rfl
 have e2:(mdlR t H A f L).prev=pvP (nxR (arP H.length A A.length)) H.length:=rfl
 have e3:(mdlR t H A f L).atoms=(L.filter fun c=>usedF f c.name).map fun c=>(c.name,H.map fun h=>bitS t h c):=hat
 generalize mdlR t H A f L=m at *;generalize nxR (arP H.length A A.length)=NX at *;have hl:=hx.len;have hx2:RwI NX.length NX:=by rw[hl];exact hx
 have hg:=pvP_get hx2 H.length (by omega);have hpl:(pvP NX H.length).length=NX.length:=pvP_len NX _
 have hp:∀r∈pvP NX H.length,(∀k∈r,inR H.length k)/\r.length<=H.length:=by
  intro r hr;obtain⟨q,hq,rfl⟩:=List.getElem_of_mem hr;have:=hg q (by omega)
  rw[List.getD_eq_getElem?_getD,List.getElem?_eq_getElem hq,Option.getD_some] at this;rw[this];refine⟨fun k hk=>?_,?_⟩
  .obtain⟨j,hj,rfl⟩:=List.mem_map.1 hk;have:=List.mem_range.1 (List.mem_filter.1 hj).1
   exact⟨by omega,by omega⟩
  .have:=List.length_filter_le (fun j=>decide ((q:Int)∈NX.getD j [])) (List.range H.length)
   simpa using this
 refine⟨⟨hH,hH2,by rw[e1];exact hl,by rw[e2];omega,by rw[e1];exact hx.rng,by rw[e2];exact fun r hr=>(hp r hr).1,by rw[e1];exact hx.le,by rw[e2];exact fun r hr=>(hp r hr).2,?_⟩,?_,?_,by rw[e1];exact hne⟩
 .rw[e3];intro a ha;obtain⟨c,_,rfl⟩:=List.mem_map.1 ha;simp
 .refine Fo.hok_of m f hv.form fun s hs=>?_
  have:=hv.ats s hs
  unfold hasCo anyB at this;obtain⟨c,hc,he⟩:=List.any_eq_true.1 this;have he:c.name=s:=by simpa using he
  rw[e3];exact⟨_,List.mem_map.2 ⟨c,List.mem_filter.2 ⟨hc,by show memS f.ats c.name=true;rw[he];exact memS_iff.2 hs⟩,rfl⟩,he⟩
 .intro k hk i hi;obtain⟨h1,h2⟩:=hk;rw[e2,hg k.toNat (by omega)] at hi;obtain⟨j,hj,rfl⟩:=List.mem_map.1 hi;have:=(List.mem_filter.1 hj).2
  rw[show ((k.toNat:Nat):Int)=k by omega] at this;rw[e1];simpa using this
open Go Go.Proofs Go.RowKit
open Go.Proofs.Tryz
theorem rowsI_flatR(xs:List Int)(R:List (List AV)):(rowsI xs++R).flatten=(xs.map fun n=>AV.d (.raw (.int .i64 n)))++R.flatten:=by
 rw[List.flatten_append];congr 1
 induction xs with
 | nil=>rfl
 | cons x xs ih =>
  simp only[rowsI,List.map_cons,List.flatten_cons] at ih ⊢;rw[ih];rfl
theorem putCells_list(cur:Array Value)(ts:List Int)(h:ts.length<=cur.size):(Go.Sort.putCells (Value.int .i64) 0 ts.toArray cur).toList=ts.map (Value.int .i64)++cur.toList.drop ts.length:=by
 have h1:=take_putCellsI cur ts h;rw[<-List.take_append_drop ts.length (Go.Sort.putCells (Value.int .i64) 0 ts.toArray cur).toList,h1];congr 1
 apply List.ext_getElem?;intro j;rw[List.getElem?_drop,List.getElem?_drop,Array.getElem?_toList,Array.getElem?_toList];by_cases hj:ts.length+j<cur.size
 .simp[Go.Sort.putCells,hj];intro h;omega
 .rw[Array.getElem?_eq_none (by simpa[Go.Sort.putCells] using hj),Array.getElem?_eq_none (by omega)]
set_option maxRecDepth 100000 in
theorem sortBox_c(xs:List Int)(hx:xs.length<=1000000)(box:Bxs)(k nb:Nat)(R:List (List AV))(hk:box k=some (rowsI xs++R))(tok:Tks)(nt:Nat):
  ACalls prog 156 [.msl k 0 xs.length 1] ⟨box,nb,tok,nt⟩ fun v m=>v=.tup []/\m=⟨upd box k (some (rowsI (sortI xs)++R)),nb,tok,nt⟩:=by
 refine⟨Enters.mk func156 rfl (by kernel_rfl),fun G w vals hm hr=>?_⟩;obtain⟨hlen,hrv⟩:=hr
 match vals,hlen with
 | [v],_ =>
  have h0:=hrv 0 (by simp) (by simp);simp only[List.getElem_cons_zero] at h0;generalize hq:(AV.msl k 0 xs.length 1)=q at h0;cases h0 with
  | @msl _ _ _ b _ cap h1 h2 h3 =>
   cases hq;obtain⟨hkind,cs,e,hheap,hrows,hR,hone⟩:=hm.box k _ b 1 hk h1;rw[rowsI_flatR] at hR;have hlc:xs.length<=cs.toList.length:=by have:=hR.1;simp at this;simp;omega
   have hcell:cs.toList.take xs.length=xs.map (Value.int .i64):=by
    apply List.ext_getElem
    .rw[List.length_take,List.length_map];omega
    .intro j g1 g2;have hj:j<xs.length:=by simpa using g2
     have h4:=hR.2 j (by simp;omega) (by omega);rw[List.getElem_append_left (by simpa using hj)] at h4;simp only[List.getElem_map] at h4;rw[List.getElem_take,List.getElem_map];generalize cs.toList[j]=u at h4;cases h4 with
     | d h5=>cases h5;rfl
   have hH:Go.Sort.Holds (Value.int .i64) w b 0 xs.toArray:=holds_of_blockI hheap hcell
   have hlt:=(Array.getElem?_eq_some_iff.1 hheap).1;have hc:=Tryz.slices_Sort_int b 0 cap xs w hH hlt (by omega);refine hc.mono ?_;rintro e' w' ⟨rfl,n,os,rfl⟩;have hsl:(sortI xs).length=xs.length:=by simp[sortI]
   have hcs:(sortI xs).length<=cs.size:=by rw[hsl];simpa using hlc
   have hput:=putCells_list cs (sortI xs) hcs;have hnew:=heap_sortedI (n:=n) (os:=os) (sortI xs).toArray hheap;have hgr:=grownBy_sortedI (w:=w) (g:=b) (n:=n) (os:=os) (sortI xs).toArray;have hsz:(rowsI (sortI xs)++R).flatten=((sortI xs).map fun n=>AV.d (.raw (.int .i64 n)))++R.flatten:=rowsI_flatR _ _
   have hone2:∀u∈(Go.Sort.putCells (Value.int .i64) 0 (sortI xs).toArray cs).toList,u.oneCell'=true:=by
    intro u hu;rw[hput] at hu;rcases List.mem_append.1 hu with hu|hu
    .obtain⟨y,_,rfl⟩:=List.mem_map.1 hu;rfl
    .exact hone u (List.mem_of_mem_drop hu)
   have hRV:RVs G w (rowsI (sortI xs)++R).flatten (Go.Sort.putCells (Value.int .i64) 0 (sortI xs).toArray cs).toList:=by
    rw[hsz,hput];refine RVs.append ⟨by simp,fun i g1 g2=>?_⟩ ?_
    .simp only[List.getElem_map];exact .d (.raw rfl)
    .have:=hR.drop xs.length
     rw[List.drop_append_of_le_length (by simp),List.drop_eq_nil_of_le (by simp),List.nil_append] at this;rw[hsl];exact this
   have hrw:∀r∈rowsI (sortI xs)++R,r.length=1:=by
    intro r hr;rcases List.mem_append.1 hr with hr|hr
    .obtain⟨y,_,rfl⟩:=List.mem_map.1 hr;rfl
    .exact hrows r (by simp[hr])
   have hm1:=hm.setRow h1 hrw hheap hRV hone2;have hle1:=Le.setRow (w:=w) hkind (Go.Sort.putCells (Value.int .i64) 0 (sortI xs).toArray cs);have hbel:Below (w.setRow b (Go.Sort.putCells (Value.int .i64) 0 (sortI xs).toArray cs)).heap.size (w.setRow b (Go.Sort.putCells (Value.int .i64) 0 (sortI xs).toArray cs)) (Go.Sort.grow (Go.Sort.putRow (Value.int .i64) (Go.Sort.ahead w n) b 0 (sortI xs).toArray) os):=by
    have hss:(w.setRow b (Go.Sort.putCells (Value.int .i64) 0 (sortI xs).toArray cs)).heap.size=w.heap.size:=by simp[World.setRow]
    refine⟨hgr.os,hgr.tape,hgr.output,by rw[hss];exact hgr.size,fun j hj=>?_⟩;rw[hss] at hj;by_cases ej:j=b
    .subst ej;rw[setRow_heap w j cs _ e (0,0) hheap];exact hnew
    .rw[setRow_other w b j _ ej];exact hgr.block j hj (fun e=>by cases e;exact ej rfl)
   refine⟨_,_,_,G,rfl,⟨rfl,rfl⟩,rfl,relM_below hm1 hbel,.tup (vs:=[]) rfl (fun i g1 _=>by simp at g1),hle1.trans (le_below hm1 hbel),fun j hj=>⟨hj,?_⟩⟩;simp only;rw[uO _ _ (fun e=>by subst e;rw[h1] at hj;cases hj)]
  | _=>cases hq
theorem set_perm{α:Type}{l:List α}{k:Nat}(h:k<l.length)(x:α):(x::l.eraseIdx k).Perm (l.set k x):=by
 rw[List.eraseIdx_eq_take_drop_succ,List.set_eq_take_append_cons_drop,if_pos h];exact List.perm_middle.symm
theorem erase_perm{α:Type}{l:List α}{k:Nat}(h:k<l.length):l.Perm (l[k]::l.eraseIdx k):=by
 rw[List.eraseIdx_eq_take_drop_succ];have:=List.perm_middle (a:=l[k]) (l₁:=l.take k) (l₂:=l.drop (k+1))
 rw[<-List.drop_eq_getElem_cons h,List.take_append_drop] at this;exact this
theorem TK.appAt{mtok:Nat->Bool}{nt0:Nat}{tok:Nat->Bool}{nt:Nat}{os:List Own}(h:TK mtok nt0 tok nt os){k:Nat}(hk:k<os.length):TK mtok nt0 (upd (os[k].kill tok) nt true) (nt+1) (os.set k (.tok nt)) :=
 ((h.perm (erase_perm hk)).app).perm (set_perm hk _)
theorem TK.liveAt{mtok:Nat->Bool}{nt0:Nat}{tok:Nat->Bool}{nt:Nat}{os:List Own}(h:TK mtok nt0 tok nt os){o:Own}(ho:o∈os):o.liveP tok:=by
 cases o with
 | full=>trivial
 | tok t=>exact(h.own _ ho t rfl).1
abbrev ownR(R:List (Nat × List Int)):List Own:=R.map fun r=>Own.tok r.1
def rowsS(R:List (Nat × List Int)):List (List AV):=R.map fun r=>[AV.stk r.1 1 (rI r.2)]
theorem TK.rowApp{mtok:Nat->Bool}{nt0:Nat}{tok:Nat->Bool}{nt:Nat}{R:List (Nat × List Int)}{os:List Own}(h:TK mtok nt0 tok nt (ownR R++os)){k:Nat}(hk:k<R.length)(xs:List Int):
  tok R[k].1=true/\TK mtok nt0 (upd (upd tok R[k].1 false) nt true) (nt+1) (ownR (R.set k (nt,xs))++os):=by
 have hk2:k<(ownR R++os).length:=by simp;omega
 have e1:(ownR R++os)[k]=.tok R[k].1:=by rw[List.getElem_append_left (by simpa using hk)];simp
 have e2:(ownR R++os).set k (.tok nt)=ownR (R.set k (nt,xs))++os:=by rw[List.set_append_left _ _ (by simpa using hk)];simp[List.map_set]
 have h1:=h.appAt hk2;have h2:=h.liveAt (List.getElem_mem hk2);rw[e1] at h1 h2;rw[e2] at h1;exact⟨h2,h1⟩
@[simp] theorem rowsS_len(R:List (Nat × List Int)):(rowsS R).length=R.length:=by simp[rowsS]
theorem rowsS_set(R:List (Nat × List Int))(k t:Nat)(xs:List Int):(rowsS R).set k [AV.stk t 1 (rI xs)]=rowsS (R.set k (t,xs)):=by simp[rowsS,List.map_set]
theorem rowsS_to{p:Nat->Prop}{fz:Option (Nat × Nat × List (List D))}(R:List (Nat × List Int)):RowsTo p (fun _=>True) fz (rowsS R) (rowsS R):=rowsTo_same fun r hr x hx=>by
 obtain⟨y,_,rfl⟩:=List.mem_map.1 hr;simp at hx;subst hx;exact .stk trivial
abbrev ownW(P:List (List Int × Own)):List Own:=P.map fun r=>r.2
def rowsW(P:List (List Int × Own)):List (List AV):=P.map fun r=>[AV.osl 1 (rI r.1) r.2]
@[simp] theorem rowsW_len(P:List (List Int × Own)):(rowsW P).length=P.length:=by simp[rowsW]
theorem rowsW_set(P:List (List Int × Own))(k:Nat)(xs:List Int)(o:Own):(rowsW P).set k [AV.osl 1 (rI xs) o]=rowsW (P.set k (xs,o)):=by simp[rowsW,List.map_set]
theorem rowsW_to{p:Nat->Prop}{fz:Option (Nat × Nat × List (List D))}(P:List (List Int × Own)):RowsTo p (fun _=>True) fz (rowsW P) (rowsW P):=rowsTo_same fun r hr x hx=>by
 obtain⟨y,_,rfl⟩:=List.mem_map.1 hr;simp at hx;subst hx;exact .osl fun _ _=>trivial
theorem rowsW_d{p:Nat->Prop}{q:Nat->Prop}{fz:Option (Nat × Nat × List (List D))}(P:List (List Int × Own)):RowsTo p q fz (rowsW P) (rowsD (P.map fun r=>[ints r.1])):=by
 refine⟨by simp,fun i h1 h2=>⟨by simp[rowsW,rowsD],fun j g1 g2=>?_⟩⟩;simp only[rowsW,rowsD,List.getElem_map,List.map_cons,List.map_nil] at g1 g2 ⊢;have:j=0:=by simp at g1;omega
 subst this;exact .data
theorem rowsW_nil{p:Nat->Prop}{q:Nat->Prop}{fz:Option (Nat × Nat × List (List D))}(n:Nat):RowsTo p q fz (List.replicate n [.osl 0 [] .full]) (rowsW (List.replicate n ([],.full))):=by
 refine⟨by simp,fun i h1 h2=>⟨by simp[rowsW],fun j g1 g2=>?_⟩⟩;simp only[rowsW,List.getElem_map,List.getElem_replicate] at g1 g2 ⊢;have:j=0:=by simp at g1;omega
 subst this;exact .nil (by decide) rfl
theorem TK.rowWApp{mtok:Nat->Bool}{nt0:Nat}{tok:Nat->Bool}{nt:Nat}{P:List (List Int × Own)}{os:List Own}(h:TK mtok nt0 tok nt (ownW P++os)){k:Nat}(hk:k<P.length)(xs:List Int):
  P[k].2.liveP tok/\TK mtok nt0 (upd (P[k].2.kill tok) nt true) (nt+1) (ownW (P.set k (xs,.tok nt))++os):=by
 have hk2:k<(ownW P++os).length:=by simp;omega
 have e1:(ownW P++os)[k]=P[k].2:=by rw[List.getElem_append_left (by simpa using hk)];simp
 have e2:(ownW P++os).set k (.tok nt)=ownW (P.set k (xs,.tok nt))++os:=by rw[List.set_append_left _ _ (by simpa using hk)];simp[List.map_set]
 have h1:=h.appAt hk2;have h2:=h.liveAt (List.getElem_mem hk2);rw[e1] at h1 h2;rw[e2] at h1;exact⟨h2,h1⟩
theorem Trans.comp{cx:Cx}{nt0:Nat}{S S' S'':AS}(h:Trans cx nt0 S S')(k:Trans cx nt0 S' S''):Trans cx nt0 S S'':=by
 intro G0 w0 G a w he hn hS hL;obtain⟨G1,h1,h2⟩:=h G0 w0 G a w he hn hS hL;exact k G0 w0 G1 a w he hn h1 h2
def opRows(nt n j:Nat):List (List AV):=(List.range n).map fun i=>if i<j then [.stk (nt+i) 1 []] else [.osl 0 [] .full]
def opTok(tok:Tks)(nt:Nat):Nat->Nat->Bool
 | 0=>tok
 | j+1=>upd (opTok tok nt j) (nt+j) true
def opR(nt n:Nat):List (Nat × List Int):=(List.range n).map fun i=>(nt+i,[])
theorem opRows_zero(nt n:Nat):opRows nt n 0=List.replicate n [.osl 0 [] .full]:=by
 apply List.ext_getElem<;>simp[opRows]
theorem opRows_all(nt n:Nat):opRows nt n n=rowsS (opR nt n):=by
 apply List.ext_getElem
 .simp[opRows,opR]
 .intro i h1 h2;have:i<n:=by simpa[opRows] using h1
  simp[opRows,rowsS,opR,this]
theorem Trans.opnRows{cx:Cx}{nt0 nt:Nat}{l:List (Nat × AV)}{out:Bxs}{loc:List (Nat × List (List AV))}{tok:Nat->Bool}(s n:Nat):∀j,Trans cx nt0 ⟨tl l,lb cx.base out ((s,opRows nt n 0)::loc),tok,nt⟩ ⟨tl l,lb cx.base out ((s,opRows nt n j)::loc),opTok tok nt j,nt+j⟩
 | 0=>fun G0 w0 G a w he hn hS hL=>⟨G,hS,hL⟩
 | j+1=>by
  refine(Trans.opnRows s n j).comp ?_;refine Trans.opn 1 (by have:=cvL_map (R:=OpTo (nt+j) 1) (f:=id) (fun _=>.same) l;simpa using this) ⟨rfl,⟨by simp[opRows],fun i h1 h2=>?_⟩,cvB_refl (fun _=>.same) _⟩;simp only[opRows,List.getElem_map,List.getElem_range];rcases Nat.lt_trichotomy i j with h|h|h
  .rw[if_pos h,if_pos (by omega)];exact⟨rfl,fun _ _ _=>.same⟩
  .subst h;rw[if_neg (by omega),if_pos (by omega)];exact cvR_cons .nil cvR_nil
  .rw[if_neg (by omega),if_neg (by omega)];exact⟨rfl,fun _ _ _=>.same⟩
theorem TK.opTok{mtok:Nat->Bool}{nt0:Nat}{tok:Nat->Bool}{nt:Nat}{os:List Own}(h:TK mtok nt0 tok nt os):∀j,TK mtok nt0 (Go.AM.opTok tok nt j) (nt+j) (ownR (opR nt j)++os)
 | 0=>by simpa[Go.AM.opTok,opR] using h
 | j+1=>by
  have:=(TK.opTok h j).more 0
  refine this.perm ?_;simp only[opR,List.range_succ,List.map_append,List.map_cons,List.map_nil,Nat.add_zero,List.append_assoc,List.cons_append,List.nil_append];exact List.perm_middle.symm
abbrev MpQ:Type:=List (ByteArray × List Bool × Own)
abbrev encQ(q:MpQ):List (ByteArray × List (List D) × Own):=q.map fun e=>(e.1,rBo e.2.1,e.2.2)
abbrev plQ(q:MpQ):List (ByteArray × List Bool):=q.map fun e=>(e.1,e.2.1)
abbrev ownQ(q:MpQ):List Own:=q.map fun e=>e.2.2
def putQ(q:MpQ)(s:ByteArray)(b:Bool)(t:Nat):MpQ:=match q.findIdx? fun e=>decide (e.1=s) with
 | some i=>q.set i (s,(q.getD i (s,[],.full)).2.1++[b],.tok t)
 | none=>q++[(s,[b],.tok t)]
theorem putQ_pl(q:MpQ)(s:ByteArray)(b:Bool)(t:Nat):plQ (putQ q s b t)=putP (plQ q) s b:=by
 unfold putQ putP;have e:(plQ q).findIdx? (fun e=>decide (e.1=s))=q.findIdx? fun e=>decide (e.1=s):=by rw[List.findIdx?_map];rfl
 rw[e];cases hi:q.findIdx? fun e=>decide (e.1=s) with
 | none=>simp
 | some i =>
  have hl:=(List.findIdx?_eq_some_iff_getElem.1 hi).1;simp[List.map_set,hl]
theorem putQ_len{q:MpQ}{s:ByteArray}{b:Bool}{t M:Nat}(h:∀e∈q,e.2.1.length<=M):∀e∈putQ q s b t,e.2.1.length<=M+1:=by
 intro e he;unfold putQ at he;split at he
 .rename_i i hi;have hl:=(List.findIdx?_eq_some_iff_getElem.1 hi).1;rcases List.mem_or_eq_of_mem_set he with he|rfl
  .have:=h e he;omega
  .have:=h _ (List.getElem_mem hl)
   simp[hl];exact this
 .rcases List.mem_append.1 he with he|he
  .have:=h e he;omega
  .simp at he;subst he;simp
theorem mp_step{mtok:Nat->Bool}{nt0:Nat}{tok:Nat->Bool}{nt:Nat}{q:MpQ}{os:List Own}(s:ByteArray)(h:TK mtok nt0 tok nt (ownQ q++os)):
  ∃sz xs own,mpGet (encQ q) s=.osl sz (rBo xs) own/\(sz=1∨xs=[]/\own=.full)/\own.liveP tok/\(xs=[]∨∃e∈q,e.2.1=xs) /\
   ∀b,mpPut (encQ q) s (rBo xs++[[D.raw (.bool b)]]) (.tok nt)=encQ (putQ q s b nt)/\TK mtok nt0 (upd (own.kill tok) nt true) (nt+1) (ownQ (putQ q s b nt)++os):=by
 have e1:(encQ q).findIdx? (fun e=>decide (e.1=s))=q.findIdx? fun e=>decide (e.1=s):=by rw[List.findIdx?_map];rfl
 have e2:(encQ q).find? (fun e=>decide (e.1=s))=(q.find? fun e=>decide (e.1=s)).map fun e=>(e.1,rBo e.2.1,e.2.2):=by rw[List.find?_map];rfl
 cases hi:q.findIdx? fun e=>decide (e.1=s) with
 | none =>
  have hn:q.find? (fun e=>decide (e.1=s))=none:=by
   rw[List.find?_eq_none];intro x hx;have:=List.findIdx?_eq_none_iff.1 hi x hx
   simpa using this
  refine⟨0,[],.full,by unfold mpGet;rw[e2,hn];rfl,.inr ⟨rfl,rfl⟩,trivial,.inl rfl,fun b=>⟨?_,?_⟩⟩
  .unfold mpPut putQ;rw[e1,hi];simp
  .unfold putQ;rw[hi];refine(h.full.app).perm ?_;simp only[List.map_append,List.map_cons,List.map_nil,List.append_assoc,List.cons_append,List.nil_append];exact List.perm_middle.symm
 | some i =>
  obtain⟨hl,hp,hlt⟩:=List.findIdx?_eq_some_iff_getElem.1 hi;have hn:q.find? (fun e=>decide (e.1=s))=some q[i]:=List.find?_eq_some_iff_getElem.2 ⟨hp,i,hl,rfl,fun j hj=>by simpa using hlt j hj⟩
  have hi2:i<(ownQ q++os).length:=by simp;omega
  have g1:(ownQ q++os)[i]=q[i].2.2:=by rw[List.getElem_append_left (by simpa using hl)];simp
  have h1:=h.appAt hi2;have h2:=h.liveAt (List.getElem_mem hi2);rw[g1] at h1 h2;refine⟨1,q[i].2.1,q[i].2.2,by unfold mpGet;rw[e2,hn];rfl,.inl rfl,h2,.inr ⟨_,List.getElem_mem hl,rfl⟩,fun b=>⟨?_,?_⟩⟩
  .unfold mpPut putQ;rw[e1,hi];simp[List.map_set,hl]
  .unfold putQ;rw[hi];have g2:(ownQ q++os).set i (.tok nt)=ownQ (q.set i (s,(q.getD i (s,[],.full)).2.1++[b],.tok nt))++os:=by rw[List.set_append_left _ _ (by simpa using hl)];simp[List.map_set]
   rw[g2] at h1;exact h1
end Go.AM
