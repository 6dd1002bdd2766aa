/-
 Parts of the proof, as merged from many texts: a machine over data, what the functions compute, plain laws.
-/
import Derived.Test.YtebmobphgaiaiaaGreatPNA10
import Derived.Deep.AppendLies
set_option linter.unusedSimpArgs false
set_option linter.unusedVariables false
namespace Go.AM
open Go Go.Proofs
open Go.Proofs.Tryz
theorem sortI_asc{l:List Int}{n:Nat}(hn:l.Nodup)(hr:∀x∈l,0<=x/\x<n):sortI l=ascL l n:=by
 have hp:(sortI l).Perm l:=List.mergeSort_perm _ _
 have hs:(sortI l).Pairwise fun a b=>(decide (a<=b))=true:=List.pairwise_mergeSort (fun a b c h1 h2=>by simp only[decide_eq_true_eq] at *;omega) (fun a b=>by simp only[Bool.or_eq_true,decide_eq_true_eq];omega) l
 have hd:(sortI l).Nodup:=hp.nodup_iff.2 hn
 refine pw_ext (List.Pairwise.imp₂ (fun a b h1 h2=>?_) hs hd) (ascL_pw _ _) fun x=>?_
 .simp only[decide_eq_true_eq] at h1;have:a≠b:=h2
  omega
 .rw[hp.mem_iff,ascL_mem];exact⟨fun h=>⟨h,hr x h⟩,fun h=>h.1⟩
theorem imgP_sort{a y:Gr}{q:Mo}(hq:Emb a y q):(imgP y q)=⟨sortI q.nodes,sortI q.edges⟩:=by
 have v:=hq.vm;rw[imgP,sortI_asc hq.n v.n,sortI_asc hq.e v.e]
theorem SpOk.fit{s:Sp}(h:SpOk s):s.l.Fit/\s.r.Fit/\s.k.Fit/\s.i.Fit:=⟨h.k.emb.fit.2.2,h.i.fit.2.2,h.k.emb.fit.1,h.i.fit.1⟩
set_option maxRecDepth 100000 in
theorem exists_c(c x:Cd)(hkx:c.kids=[x])(k5:c.kind=5)(s:Sp)(hs:SpOk s)(hm:Emb s.r c.g c.m)(ih:s.dng c.m c.g=false->¬s.big c.m c.g->∀(tok:Tks) (nt:Nat),DCall prog 154 [spAv (s.inn c.m c.g),x.av] tok nt (.tup [(x.lft (s.inn c.m c.g)).1.av,I (x.lft (s.inn c.m c.g)).2]) tok nt):DC 217 [spAv s,c.av] (.tup [(c.lft s).1.av,I (c.lft s).2]):=by
 intro tok nt box nb;obtain⟨fl,fr,fk,fi⟩:=hs.fit;obtain⟨fm,_,fg⟩:=hm.fit;have s1:=sorted34_c s.i.nodes fi.n;have s2:=sorted34_c s.i.edges fi.e;have hi:=imgP_vp hs.i;have hC:=ofP_c s.r c.g (imgP s.r s.i) c.m fr fg fm hi.emb.fit.1 hm hi;have hL:c.lft s=lftStep 5 c.m c.g s (fun s=>kidsE (fun x=>Cd.lft x s) [x]) (fun s=>kidsE (fun x=>Cd.lft x s) [x]):=by rw[c.lft_eq,k5,hkx]
 have eI:=imgP_sort hs.i;rw[eI] at hC;refine sI func217 ntmps217 fun Hb Ht=>?_
 repeat first|simp|refine sR ?_
 refine sD (s1 _ _) ?_;repeat first|simp|refine sR ?_
 refine sD (s2 _ _) ?_;repeat first|simp|refine sR ?_
 refine sD (hC _ _) ?_;simp;rw[<-eI];by_cases hd:s.dng c.m c.g=true
 .have e:cmpR s.r c.g (imgP s.r s.i) c.m=(⟨[],[]⟩,14):=if_pos hd
  rw[e,show c.lft s=(noC,0) by rw[hL,lftStep,if_neg (by simp),if_pos hd]];have hn:=no_c;repeat first|simp|refine sR ?_
  refine sC ?_;repeat first|simp|refine sR ?_
  refine sD (hn _ _) ?_;repeat first|simp|refine sR ?_
  refine sT (sH Hb Ht ?_);simp
 .have hd':s.dng c.m c.g=false:=by simpa using hd
  have e:cmpR s.r c.g (imgP s.r s.i) c.m=(s.z c.m c.g,0):=if_neg hd
  rw[e];have ih:=ih hd';have vz:=Sp.z_vp hs hm hd';have hgo:=Sp.go_emb hs hm hd';have hsub:=Sp.go_sub hs hm;have x1:=extractP_c c.g (s.z c.m c.g) fg vz.emb.fit.1 vz;have x2:=extractP_c s.l s.k fl fk hs.k;have vi:=hs.i.vm;have vm:=hm.vm;have p1:=picked_c c.m.nodes s.i.nodes fi.n (by rw[vm.ln];exact vi.n);have p2:=picked_c c.m.edges s.i.edges fi.e (by rw[vm.le];exact vi.e);have a1:=at_c (s.z c.m c.g).nodes (byK s.i.nodes c.m.nodes s.i.nodes.length) vz.emb.fit.1.n (by rw[byK_all];exact fi.n);have a2:=at_c (s.z c.m c.g).edges (byK s.i.edges c.m.edges s.i.edges.length) vz.emb.fit.1.e (by rw[byK_all];exact fi.e);have po:=pushP_c (exG s.l s.k) s.l (s.rest c.m c.g) s.k (s.go c.m c.g) hs.k.emb hgo;have ego:s.go c.m c.g=⟨(byK s.i.nodes c.m.nodes s.i.nodes.length).map (indexI (s.z c.m c.g).nodes),(byK s.i.edges c.m.edges s.i.edges.length).map (indexI (s.z c.m c.g).edges)⟩:=rfl
  obtain⟨P,hP⟩:∃P,pushR s.l (s.rest c.m c.g) s.k (s.go c.m c.g)=P:=⟨_,rfl⟩
  rw[hP,ego] at po;have erest:exG c.g (s.z c.m c.g)=s.rest c.m c.g:=rfl
  rw[erest] at x1;repeat first|simp|refine sR ?_
  refine sC ?_;repeat first|simp|refine sR ?_
  refine sD (x1 _ _) ?_;repeat first|simp|refine sR ?_
  refine sC ?_;repeat first|simp|refine sR ?_
  refine sD (x2 _ _) ?_;repeat first|simp|refine sR ?_
  refine sC ?_;repeat first|simp|refine sR ?_
  refine sD (p1 _ _) ?_;repeat first|simp|refine sR ?_
  refine sD (a1 _ _) ?_;repeat first|simp|refine sR ?_
  refine sD (p2 _ _) ?_;repeat first|simp|refine sR ?_
  refine sD (a2 _ _) ?_;repeat first|simp|refine sR ?_
  refine sD (po _ _) ?_;simp;by_cases hb:s.big c.m c.g
  .have e:P=(⟨⟨[],[]⟩,⟨[],[]⟩,⟨[],[]⟩⟩,3):=by rw[<-hP];exact if_pos hb
   rw[e,show c.lft s=(cdOf 0 [],3) by rw[hL,lftStep,if_neg (by simp),if_neg (by simp[hd']),if_pos hb]];repeat first|simp|refine sR ?_
   refine sC ?_;repeat first|simp|refine sR ?_
   refine sT (sH Hb Ht ?_);simp[cdOf,Cd.kind,Cd.kids,Cd.m,Cd.g,Cd.sl,Cd.vars,Cd.te,conds,ints,AM.edges,slots,tests]
  .have e:P=(s.po c.m c.g,0):=by rw[<-hP];exact if_neg hb
   rw[e];have ih:=ih hb;obtain⟨p1,p2,p3⟩:=Sp.po_emb hs hm hd' hb;have v3:=p3.vm;have f3:=p3.fit;have s1:=sorted34_c (s.po c.m c.g).r.nodes f3.1.n;have s2:=sorted34_c (s.po c.m c.g).r.edges f3.1.e;have eJ:=imgP_sort p3;have hJ:=imgP_vp p3;have fJ:=hJ.emb.fit.1;have sJ:=imgP_sub (y:=(s.po c.m c.g).g) (q:=(s.po c.m c.g).r);rw[eJ] at fJ sJ;have b1:=backwards_c (sortI (s.po c.m c.g).r.nodes) (s.po c.m c.g).r.nodes (s.z c.m c.g).nodes fJ.n f3.1.n sJ.1 (by rw[v3.ln];simp[Sp.rest,exG]);have b2:=backwards_c (sortI (s.po c.m c.g).r.edges) (s.po c.m c.g).r.edges (s.z c.m c.g).edges fJ.e f3.1.e sJ.2 (by rw[v3.le];simp[Sp.rest,exG]);have eN:s.inn c.m c.g=⟨(s.po c.m c.g).g,c.g,imgP (s.po c.m c.g).g (s.po c.m c.g).r,thenM (liftM (s.po c.m c.g).r (imgP (s.po c.m c.g).g (s.po c.m c.g).r)) (s.z c.m c.g)⟩:=rfl
   rw[eJ] at eN;obtain⟨R,hR⟩:∃R,x.lft (s.inn c.m c.g)=R:=⟨_,rfl⟩
   rw[hR] at ih;rw[eN] at ih;simp only[thenM,liftM,List.length_map] at ih;repeat first|simp|refine sR ?_
   refine sC ?_;repeat first|simp|refine sR ?_
   refine sD (s1 _ _) ?_;repeat first|simp|refine sR ?_
   refine sD (s2 _ _) ?_;repeat first|simp|refine sR ?_
   refine sD (b1 _ _) ?_;repeat first|simp|refine sR ?_
   refine sD (b2 _ _) ?_;simp;repeat first|simp[hkx,Cd.cells_eq]|refine sR ?_
   refine sD (ih _ _) ?_;repeat first|simp|refine sR ?_
   by_cases h0:R.2=0
   .rw[show c.lft s=(.mk 5 [R.1] (s.po c.m c.g).l (s.po c.m c.g).g [] 0 [],0) by rw[hL,lftStep,if_neg (by simp),if_neg (by simp[hd']),if_neg hb];have hk:kidsE (fun x=>Cd.lft x (s.inn c.m c.g)) [x]=([R.1],0):=by { unfold kidsE;rw[hR,if_neg (by simp[h0])];exact if_neg (by simp[kidsE]) };rw[hk];exact if_neg (by simp)];have hav:(Cd.mk 5 [R.1] (s.po c.m c.g).l (s.po c.m c.g).g [] 0 []).av=.agg [I 5,.d (.sl 9 [R.1.cells]),.d (ints (s.po c.m c.g).l.nodes),.d (ints (s.po c.m c.g).l.edges),.d (ints (s.po c.m c.g).g.nodes),.d (AM.edges (s.po c.m c.g).g.edges),.d (.sl 4 []),I 0,.d (.sl 5 [])]:=rfl
    rw[R.1.cells_eq] at hav;rw[hav];simp only[h0];refine sC ?_;repeat first|simp|refine sR ?_
    refine sT (sH Hb Ht ?_);simp
   .rw[show c.lft s=(cdOf 0 [],R.2) by rw[hL,lftStep,if_neg (by simp),if_neg (by simp[hd']),if_neg hb];have hk:kidsE (fun x=>Cd.lft x (s.inn c.m c.g)) [x]=([],R.2):=by { unfold kidsE;rw[hR];exact if_pos h0 };rw[hk];exact if_pos h0];have b0:(R.2 != 0)=true:=by simp[h0]
    simp only[b0];refine sC ?_;repeat first|simp|refine sR ?_
    refine sT (sH Hb Ht ?_);simp[cdOf,Cd.kind,Cd.kids,Cd.m,Cd.g,Cd.sl,Cd.vars,Cd.te,conds,ints,AM.edges,slots,tests]
def stLk(c:Cd)(s:Sp)(nb:Nat)(box:Bxs)(x:Acc):AS :=
 ⟨tl [(25,I x.i),(24,I c.kids.length),(23,.d (conds c.kids)),(6,.ptr (nb+6) 0 0),(4,.ptr (nb+4) 0 0),(2,.ptr (nb+2) 0 0)],
  lb nb box [(6,[[I c.kind,.osl 9 (((c.kids.take x.i).map fun k=>(k.lft s).1).map Cd.cells) x.own,nilS,nilS,nilS,nilS,nilS,z0i,nilS]]),(4,[[z0i,nilS,nilS,nilS,nilS,nilS,nilS,z0i,nilS]]),
   (2,[[.d (ints s.l.nodes),.d (AM.edges s.l.edges),.d (ints s.r.nodes),.d (AM.edges s.r.edges),.d (ints s.k.nodes),.d (ints s.k.edges),.d (ints s.i.nodes),.d (ints s.i.edges)]])],x.tok,x.nt⟩
set_option maxRecDepth 100000 in
theorem left_c:∀(n:Nat) (c:Cd),SizeOf.sizeOf c<n->c.Fit->∀s,SpOk s->c.ovr s.r=0->∀(tok:Tks) (nt:Nat),DCall prog 154 [spAv s,c.av] tok nt (.tup [(c.lft s).1.av,I (c.lft s).2]) tok nt
 | 0,c,hn,_,_,_,_,_,_=>absurd hn (Nat.not_lt_zero _)
 | n+1,c,hn,hf,s,hs,hv,tok,nt=>by
  have ih:=fun x (hx:x∈c.kids)=>left_c n x (by have:=Cd.kid_lt hx;omega) (hf.kid x hx)
  intro box nb;have hkl:=hf.kids;obtain⟨h0,h1,h2⟩:=Cd.ovr_zero hv;by_cases k5:c.kind=5
  .obtain⟨hm,x,hkx⟩:=ovr_ex hv k5;have hi:c.inn s.r=c.g:=if_pos k5
   rw[hi] at h2;have he:=exists_c c x hkx k5 s hs hm (fun hd hb=>ih x (by rw[hkx];simp) _ (Sp.inn_ok hs hm hd hb) (h2 x (by rw[hkx];simp)));have b5:(c.kind==5)=true:=by simp[k5]
   refine sI func154 ntmps154 fun Hb Ht=>?_
   repeat first|simp[b5]|refine sR ?_
   refine sC ?_;repeat first|simp|refine sR ?_
   refine sD (he _ _) ?_;repeat first|simp|refine sR ?_
   refine sT (sH Hb Ht ?_);simp
  .have hi:c.inn s.r=s.r:=if_neg k5
   rw[hi] at h2;have b5:(c.kind==5)=false:=by simp[k5]
   have hL:c.lft s=(if (kidsE (fun x=>Cd.lft x s) c.kids).2≠0 then (cdOf 0 [],(kidsE (fun x=>Cd.lft x s) c.kids).2) else (cdOf c.kind (kidsE (fun x=>Cd.lft x s) c.kids).1,0)):=by rw[c.lft_eq];exact if_pos k5
   refine sI func154 ntmps154 fun Hb Ht=>?_
   repeat first|simp[b5]|refine sR ?_
   refine sC ?_;repeat first|simp|refine sR ?_
   refine sN ?_;have hkl2:=hkl;rw[kidN_eq] at hkl2;refine sL (stLk c s nb box) (fun x=>x.i<=c.kids.length/\(∀y∈c.kids.take x.i,(y.lft s).2=0)/\TK tok nt x.tok x.nt [x.own]) (fun x=>c.kids.length-x.i) ⟨0,.full,tok,nt⟩ ⟨Nat.zero_le _,by simp,(TK.start Ht).full⟩ wkA ?_;rintro⟨i,own,tok',nt'⟩ S ⟨hi,hok,htk⟩ hS;simp only[stLk] at hS hi htk hok;subst hS;have hw:=sW (i:=i) (by omega);obtain⟨K,hK⟩:∃K,(c.kids.take i).map (fun k=>(k.lft s).1)=K:=⟨_,rfl⟩
   have hKl:K.length<=i:=by rw[<-hK];simp;omega
   rw[hK];repeat first|simp|refine sR ?_|refine sC ?_
   refine⟨fun hlt=>?_,fun hge=>?_⟩
   .have hmem:c.kids[i]∈c.kids:=List.getElem_mem hlt
    have ihx:=ih _ hmem s hs (h2 _ hmem);have hstep:(c.kids.take (i+1)).map (fun k=>(k.lft s).1)=K++[(c.kids[i].lft s).1]:=by rw[<-hK,<-List.take_append_getElem hlt,List.map_append];rfl
    have hall:(c.kids[i].lft s).2=0->∀y∈c.kids.take (i+1),(y.lft s).2=0:=fun h y hy=>by
     rw[<-List.take_append_getElem hlt] at hy;rcases List.mem_append.1 hy with hy|hy
     .exact hok y hy
     .rw[List.mem_singleton.1 hy];exact h
    have hbad:=fun h=>kidsE_at (f:=fun x=>Cd.lft x s) hlt hok h
    repeat first|simp[hlt,Cd.cells_eq]|refine sR ?_
    refine sD (ihx _ _) ?_;simp;generalize c.kids[i].lft s=R at *;repeat first|simp|refine sR ?_
    by_cases e0:R.2=0
    .simp only[e0];refine sC ?_;repeat first|simp|refine sR ?_
     refine⟨⟨by omega,htk.live⟩,?_⟩;repeat first|simp[hw]|refine sR ?_
     refine sE ?_;exact⟨⟨i+1,_,_,_⟩,⟨hlt,hall e0,htk.app⟩,by simp only;omega,wM htk.app.le rfl (by simp[ToL,lk]) (by simp[BoxL,lk,hstep,Cd.cells_eq])⟩
    .have b0:(R.2 != 0)=true:=by simp[e0]
     rw[hL,hbad e0,if_pos e0];simp only[b0];refine sC ?_;repeat first|simp|refine sR ?_
     refine sT (sG Hb Ht htk.old htk.le ?_);simp[cdOf,Cd.kind,Cd.kids,Cd.m,Cd.g,Cd.sl,Cd.vars,Cd.te,conds,ints,AM.edges,slots,tests]
   .refine sX ?_;simp only[AU,↓reduceIte];have:i=c.kids.length:=by omega
    subst this;rw[List.take_length] at hok;rw[List.take_length] at hK;rw[hL,kidsE_of hok,if_neg (by simp),hK];have hav:(cdOf c.kind K).av=.agg [I c.kind,.d (conds K),.d (ints []),.d (ints []),.d (ints []),.d (AM.edges []),.d (slots []),I 0,.d (tests [])]:=rfl
    rw[hav];repeat first|simp|refine sR ?_
    refine sT (sG Hb Ht htk.old htk.le ?_);simp[ints,AM.edges,slots,tests]
def movR(s:Sp)(c:Cd):Cd × Int:=if validC s.r c≠0 then (cdOf 0 [],validC s.r c) else if (c.lft s).2≠0 then (cdOf 0 [],(c.lft s).2) else if validC s.l (c.lft s).1≠0 then (cdOf 0 [],validC s.l (c.lft s).1) else ((c.lft s).1,0)
def leftR(r:Ru)(c:Cd):Cd × Int:=if strR r≠0 then (cdOf 0 [],strR r) else movR r.sp c
theorem validC_zero{a:Gr}{c:Cd}(h:validC a c=0):vG a=0/\c.ovr a=0:=by
 unfold validC at h;split at h
 .contradiction
 .split at h
  .contradiction
  .rename_i h1 h2;exact⟨Decidable.not_not.1 h1,Decidable.not_not.1 h2⟩
theorem zav:(cdOf 0 []).av=.agg [I 0,.d (.sl 9 []),.d (.sl 1 []),.d (.sl 1 []),.d (.sl 1 []),.d (.sl 3 []),.d (.sl 4 []),I 0,.d (.sl 5 [])]:=rfl
set_option maxRecDepth 100000 in
theorem moved_c(s:Sp)(c:Cd)(hs:SpOk s)(hf:c.Fit):DC 84 [spAv s,c.av] (.tup [(movR s c).1.av,I (movR s c).2]):=by
 intro tok nt box nb;obtain⟨fl,fr,fk,fi⟩:=hs.fit;have h1:=validC_c s.r c fr hf;have h2:=fun hv=>left_c _ c (Nat.lt_succ_self _) hf s hs hv
 refine sI func84 ntmps84 fun Hb Ht=>?_
 repeat first|simp|refine sR ?_
 refine sD (h1 _ _) ?_;repeat first|simp|refine sR ?_
 by_cases e1:validC s.r c=0
 .have hv:=(validC_zero e1).2;simp only[e1];refine sC ?_;repeat first|simp|refine sR ?_
  refine sD (h2 hv _ _) ?_;simp;have hok:=lft_ok _ c (Nat.lt_succ_self _) hf s hs hv;obtain⟨R,hR⟩:∃R,c.lft s=R:=⟨_,rfl⟩
  rw[hR] at hok ⊢;repeat first|simp|refine sR ?_
  by_cases e2:R.2=0
  .have h3:=validC_c s.l R.1 fl (hok e2).fit;simp only[e2];refine sC ?_;repeat first|simp|refine sR ?_
   refine sD (h3 _ _) ?_;repeat first|simp|refine sR ?_
   by_cases e3:validC s.l R.1=0
   .rw[show movR s c=(R.1,0) by rw[movR,if_neg (by simp[e1]),hR,if_neg (by simp[e2]),if_neg (by simp[e3])]];simp only[e3];refine sC ?_;repeat first|simp|refine sR ?_
    refine sT (sH Hb Ht ?_);simp
   .rw[show movR s c=(cdOf 0 [],validC s.l R.1) by rw[movR,if_neg (by simp[e1]),hR,if_neg (by simp[e2]),if_pos e3],zav];have b3:(validC s.l R.1 != 0)=true:=by simp[e3]
    simp only[b3];refine sC ?_;repeat first|simp|refine sR ?_
    refine sT (sH Hb Ht ?_);simp
  .rw[show movR s c=(cdOf 0 [],R.2) by rw[movR,if_neg (by simp[e1]),hR,if_pos e2],zav];have b2:(R.2 != 0)=true:=by simp[e2]
   simp only[b2];refine sC ?_;repeat first|simp|refine sR ?_
   refine sT (sH Hb Ht ?_);simp
 .rw[show movR s c=(cdOf 0 [],validC s.r c) by rw[movR,if_pos e1],zav];have b1:(validC s.r c != 0)=true:=by simp[e1]
  simp only[b1];refine sC ?_;repeat first|simp|refine sR ?_
  refine sT (sH Hb Ht ?_);simp
set_option maxRecDepth 100000 in
theorem leftP_c(r:Ru)(c:Cd)(hr:r.Fit)(hf:c.Fit):DC 37 [r.av,c.av] (.tup [(leftR r c).1.av,I (leftR r c).2]):=by
 intro tok nt box nb;have h1:=structural_c r hr;have h2:=tof_c r;have h3:=fun hs=>moved_c r.sp c hs hf
 refine sI func37 ntmps37 fun Hb Ht=>?_
 repeat first|simp|refine sR ?_
 refine sD (h1 _ _) ?_;repeat first|simp|refine sR ?_
 by_cases e1:strR r=0
 .have hs:=(strR_zero e1).1;rw[show leftR r c=movR r.sp c by rw[leftR,if_neg (by simp[e1])]];simp only[e1];refine sC ?_;repeat first|simp|refine sR ?_
  refine sD (h2 _ _) ?_;repeat first|simp|refine sR ?_
  refine sD (h3 hs _ _) ?_;repeat first|simp|refine sR ?_
  refine sT (sH Hb Ht ?_);simp
 .rw[show leftR r c=(cdOf 0 [],strR r) by rw[leftR,if_pos e1],zav];have b1:(strR r != 0)=true:=by simp[e1]
  simp only[b1];refine sC ?_;repeat first|simp|refine sR ?_
  refine sT (sH Hb Ht ?_);simp
set_option maxRecDepth 100000 in
theorem structural34_c(r:Ru)(hr:r.Fit):DC 58 [r.av] (I (strR r)):=by
 intro tok nt box nb;have h1:=valid05_c r.lg hr.lg;have h2:=valid05_c r.rg hr.rg;have h3:=valid07_c r.lg r.k hr.lg hr.k;have h4:=fun h=>extract07_c r.lg r.k hr.lg hr.k h
 have h5:=fun h=>valid53_c (exG r.lg r.k) r.rg r.i h hr.rg
 have h6:=fun h=>injective26_c (exG r.lg r.k) r.rg r.i h hr.rg hr.i
 have hls:=hr.ls;have hlt:=hr.lt;have hrs:=hr.rs;have hrt:=hr.rt;rw[bigN_eq] at hls hlt hrs hrt;refine sI func58 ntmps58 fun Hb Ht=>?_
 repeat first|simp|refine sR ?_
 refine sD (h1 _ _) ?_;repeat first|simp|refine sR ?_
 by_cases e1:vG r.lg=0
 .simp only[e1];refine sC ?_;repeat first|simp|refine sR ?_
  refine sD (h2 _ _) ?_;repeat first|simp|refine sR ?_
  by_cases e2:vG r.rg=0
  .simp only[e2];refine sC ?_;repeat first|simp|refine sR ?_
   refine sD (h3 _ _) ?_;repeat first|simp|refine sR ?_
   by_cases e3:validP r.lg r.k=0
   .simp only[e3];refine sC ?_;repeat first|simp|refine sR ?_
    have hp:=VP.of e3;have hx:=hp.emb.fit.2.1;refine sD (h4 hp _ _) ?_;repeat first|simp|refine sR ?_
    refine sD (h5 hx _ _) ?_;repeat first|simp|refine sR ?_
    by_cases e4:validM (exG r.lg r.k) r.rg r.i=0
    .simp only[e4];refine sC ?_;repeat first|simp|refine sR ?_
     refine sD (h6 hx _ _) ?_;repeat first|simp|refine sR ?_
     cases e5:injM (exG r.lg r.k) r.rg r.i
     .refine sC ?_;repeat first|simp|refine sR ?_
      refine sT (sH Hb Ht ?_);simp[strR,e1,e2,e3,e4,e5]
     .refine sC ?_;simp;have w0:IntKind.i64.wrap ((r.lsl.length:Int)+r.lte.length)=(r.lsl.length:Int)+r.lte.length:=wrap_in (by omega) (by omega)
      have w1:IntKind.i64.wrap ((r.lsl.length:Int)+r.lte.length+r.rsl.length)=(r.lsl.length:Int)+r.lte.length+r.rsl.length:=wrap_in (by omega) (by omega)
      have w2:IntKind.i64.wrap ((r.lsl.length:Int)+r.lte.length+r.rsl.length+r.rte.length)=(r.lsl.length:Int)+r.lte.length+r.rsl.length+r.rte.length:=wrap_in (by omega) (by omega)
      by_cases s1:((r.lsl.length:Int)+r.lte.length+r.rsl.length+r.rte.length)=0
      .have b1:(((r.lsl.length:Int)+r.lte.length+r.rsl.length+r.rte.length)==0)=true:=by rw[beq_iff_eq];exact s1
       by_cases s2:r.lv=0
       .have b2:(r.lv==0)=true:=by simp[s2]
        by_cases s3:r.rv=0
        .have b3:(r.rv==0)=true:=by simp[s3]
         have y1:r.plainL:=⟨by omega,s2⟩
         have y2:r.plainR:=⟨by omega,s3⟩
         cases hin:r.inj
         .repeat first|simp[w0,w1,w2,b1,b2,b3,hin]|refine sR ?_
          refine sC ?_;repeat first|simp|refine sR ?_
          refine sT (sH Hb Ht ?_);simp[strR,e1,e2,e3,e4,e5,y1,y2,hin]
         .repeat first|simp[w0,w1,w2,b1,b2,b3,hin]|refine sR ?_
          refine sC ?_;repeat first|simp|refine sR ?_
          refine sT (sH Hb Ht ?_);simp[strR,e1,e2,e3,e4,e5,y1,y2,hin]
        .have b3:(r.rv==0)=false:=by simp[s3]
         have n2:¬r.plainR:=fun h=>s3 h.2
         repeat first|simp[w0,w1,w2,b1,b2,b3]|refine sR ?_
         refine sC ?_;repeat first|simp|refine sR ?_
         refine sT (sH Hb Ht ?_);simp[strR,e1,e2,e3,e4,e5,n2]
       .have b2:(r.lv==0)=false:=by simp[s2]
        have n1:¬r.plainL:=fun h=>s2 h.2
        repeat first|simp[w0,w1,w2,b1,b2]|refine sR ?_
        refine sC ?_;repeat first|simp|refine sR ?_
        refine sT (sH Hb Ht ?_);simp[strR,e1,e2,e3,e4,e5,n1]
      .have b1:(((r.lsl.length:Int)+r.lte.length+r.rsl.length+r.rte.length)==0)=false:=by rw[beq_eq_false_iff_ne];exact s1
       have n1:¬(r.plainL/\r.plainR/\r.inj=true):=fun h=>by
        have h1:=h.1.1;have h2:=h.2.1.1;omega
       have hS:strR r=8:=by simp only[strR,e1,e2,e3,e4,e5];simp[n1]
       rw[hS];repeat first|simp[w0,w1,w2,b1]|refine sR ?_
       refine sC ?_;repeat first|simp|refine sR ?_
       refine sT (sH Hb Ht ?_);simp
    .have b4:(validM (exG r.lg r.k) r.rg r.i != 0)=true:=by simp[e4]
     simp only[b4];refine sC ?_;repeat first|simp|refine sR ?_
     refine sT (sH Hb Ht ?_);simp[strR,e1,e2,e3,e4]
   .have b3:(validP r.lg r.k != 0)=true:=by simp[e3]
    simp only[b3];refine sC ?_;repeat first|simp|refine sR ?_
    refine sT (sH Hb Ht ?_);simp[strR,e1,e2,e3]
  .have b2:(vG r.rg != 0)=true:=by simp[e2]
   simp only[b2];refine sC ?_;repeat first|simp|refine sR ?_
   refine sT (sH Hb Ht ?_);simp[strR,e1,e2]
 .have b1:(vG r.lg != 0)=true:=by simp[e1]
  simp only[b1];refine sC ?_;repeat first|simp|refine sR ?_
  refine sT (sH Hb Ht ?_);simp[strR,e1]
def fewR(r:Ru):Bool:=fewG r.lg&&fewG r.rg&&fewM r.k 140&&fewM r.i 140
structure Ru.Big (r:Ru):Prop where
 k:r.k.nodes.length<=bigN/\r.k.edges.length<=bigN
 i:r.i.nodes.length<=bigN/\r.i.edges.length<=bigN
 ls:r.lsl.length<=bigN
 lt:r.lte.length<=bigN
 rs:r.rsl.length<=bigN
 rt:r.rte.length<=bigN
 c:r.c.Big
theorem few34_c(r:Ru)(hb:r.Big):DC 57 [r.av] (B (fewR r)):=by
 intro tok nt box nb;obtain⟨k1,k2⟩:=hb.k;obtain⟨i1,i2⟩:=hb.i;rw[bigN_eq] at k1 k2 i1 i2;have h1:=few05_c r.lg;have h2:=few05_c r.rg;have h3:=few07_c r.k 140 (by omega) (by omega);have h4:=few06_c r.i 140 (by omega) (by omega);refine sI func57 ntmps57 fun Hb Ht=>?_
 repeat first|simp|refine sR ?_
 refine sD (h1 _ _) ?_;repeat first|simp|refine sR ?_
 cases e1:fewG r.lg
 .repeat first|simp|refine sR ?_
  refine sT (sH Hb Ht ?_);simp[fewR,e1]
 .repeat first|simp|refine sR ?_
  refine sD (h2 _ _) ?_;repeat first|simp|refine sR ?_
  cases e2:fewG r.rg
  .repeat first|simp|refine sR ?_
   refine sT (sH Hb Ht ?_);simp[fewR,e1,e2]
  .repeat first|simp|refine sR ?_
   refine sD (h3 _ _) ?_;repeat first|simp|refine sR ?_
   cases e3:fewM r.k 140
   .repeat first|simp|refine sR ?_
    refine sT (sH Hb Ht ?_);simp[fewR,e1,e2,e3]
   .repeat first|simp|refine sR ?_
    refine sD (h4 _ _) ?_;repeat first|simp|refine sR ?_
    refine sT (sH Hb Ht ?_);simp[fewR,e1,e2,e3]
def backL(l:List Int)(n:Nat):List Int:=(List.range n).map fun (k:Nat)=>indexI l (k:Int)
theorem backL_succ(l:List Int)(k:Nat):backL l (k+1)=backL l k++[indexI l k]:=by simp[backL,List.range_succ]
def backS(l:List Int)(k j:Nat):List Int:=backL l k++[indexI (l.take j) k]
theorem backS_len(l:List Int)(k j:Nat):(backS l k j).length=k+1:=by simp[backS,backL]
theorem backS_zero(l:List Int)(k:Nat):backS l k 0=backL l k++[-1]:=by simp[backS,indexI]
theorem backS_all(l:List Int)(k:Nat):backS l k l.length=backL l (k+1):=by simp[backS,backL_succ]
theorem indexI_none{l:List Int}{v:Int}(h:v∉l):indexI l v = -1:=by
 rcases indexI_spec l v with ⟨h1,_⟩|⟨k,_,h3,h4⟩
 .exact h1
 .exact absurd (h4 ▸ getD_mem h3) h
theorem take_mem{l:List Int}{j:Nat}(h:j<l.length){v:Int}:v∈l.take (j+1)↔v∈l.take j∨v=l.getD j 0:=by
 rw[<-List.take_append_getElem h,List.mem_append,List.mem_singleton];simp[h]
theorem index_no{l:List Int}{j:Nat}(h:j<l.length){v:Int}(hv:l.getD j 0≠v)(hn:l.Nodup):indexI (l.take (j+1)) v=indexI (l.take j) v:=by
 by_cases hm:v∈l.take j
 .obtain⟨a1,a2,a3⟩:=indexI_in hm;obtain⟨b1,b2,b3⟩:=indexI_in ((take_mem h).2 (.inl hm));have hnd:(l.take (j+1)).Nodup:=hn.sublist (List.take_sublist _ _)
  have hl:(l.take j).length<=(l.take (j+1)).length:=by simp;omega
  have e:(l.take (j+1)).getD (indexI (l.take j) v).toNat 0=v:=by
   have q:(indexI (l.take j) v).toNat<(l.take j).length:=by omega
   have q1:(indexI (l.take j) v).toNat<j:=by simp at q;omega
   have q2:(l.take (j+1)).getD (indexI (l.take j) v).toNat 0=(l.take j).getD (indexI (l.take j) v).toNat 0:=by
    simp only[List.getD_eq_getElem?_getD,List.getElem?_take];rw[if_pos (by omega),if_pos q1]
   rw[q2];exact a3
  have:=getD_inj hnd (show (indexI (l.take j) v).toNat<(l.take (j+1)).length by omega) (show (indexI (l.take (j+1)) v).toNat<(l.take (j+1)).length by omega) (e.trans b3.symm)
  omega
 .rw[indexI_none hm,indexI_none fun hm2=>by
   rcases (take_mem h).1 hm2 with h1|h1
   .exact hm h1
   .exact hv h1.symm]
theorem index_yes{l:List Int}{j:Nat}(h:j<l.length)(hn:l.Nodup):indexI (l.take (j+1)) (l.getD j 0)=j:=by
 have hnd:(l.take (j+1)).Nodup:=hn.sublist (List.take_sublist _ _)
 have hj:j<(l.take (j+1)).length:=by simp;omega
 have e:(l.take (j+1)).getD j 0=l.getD j 0:=by
  simp only[List.getD_eq_getElem?_getD,List.getElem?_take];rw[if_pos (by omega)]
 have:=indexI_gd hnd hj
 rwa [e] at this
theorem backS_no{l:List Int}{k j:Nat}(h:j<l.length)(hv:l.getD j 0≠k)(hn:l.Nodup):backS l k (j+1)=backS l k j:=by rw[backS,backS,index_no h hv hn]
theorem backS_yes{l:List Int}{k j:Nat}(h:j<l.length)(hv:l.getD j 0=k)(hn:l.Nodup):backS l k (j+1)=(backS l k j).set k j:=by
 have h2:=index_yes h hn;rw[hv] at h2;have hl:(backL l k).length=k:=by simp[backL]
 rw[backS,backS,h2,List.set_append_right _ _ (by omega),hl];simp
end Go.AM
namespace Go.Proofs.YtebmobphgaiaiaaGreat.back
open Go Go.Proofs Go.RowKit Go.AM
open Go.Proofs.Tryz
theorem info3:(prog.info? 3).map (fun i=>(i.zero,i.size,i.bytes))=some (some (.int .i64 0),1,8):=by kernel_rfl
set_option maxHeartbeats 2000000 in
set_option maxRecDepth 100000 in
theorem any(b off n c m:Nat)(zs:List Int)(w:World)(hz:zs.length=n)(hn:n<=1000000)(hm:m<=1000000)(hd:zs.Nodup)(hb:b<w.heap.size)(hc:∀j,j<zs.length->w.cell? ⟨b,off+j,none⟩=some (.int .i64 (zs.getD j 0))):
  Calls prog 158 #[.slice (some ⟨b,off,none⟩) n c,.int .i64 m] w fun e w'=>∃v,e=.returned v/\w'.ownsRow w.heap.size 3 1 v m ((backL zs m).map (Value.int .i64))/\Below w.heap.size w w':=by
 obtain⟨i0,hi,hz0,hz1,hz2⟩:=info_parts info3
 go_enter func158,ntmps158
 go_wp2
 go_loopw [5,6] (fun v i wr=>∃k:Nat,k<=m/\i=.int .i64 k/\wr.ownsRow w.heap.size 3 1 v k ((backL zs k).map (Value.int .i64))/\Below w.heap.size w wr) (fun _ i _=>m-(intOf i).toNat)
 case atStart=>exact⟨0,Nat.zero_le _,rfl,World.ownsRow_nil _ _ _ _,Below.refl _ _⟩
 case round =>
  obtain⟨k,hk,rfl,hown,hnx⟩:=hrel
  go_wp2_with (first
   | (at_builtin;refine wpList_append_own _ rfl _ _ 26 rfl w.heap.size 3 i0 (.int .i64 0) 1 8 underlying26 hi hz0 hz1 hz2 rfl (by decide) _ _ _ rfl (hown.alloc _) ⟨wr.heap.size,0,none⟩ 1 1 [.int .i64 (-1)] rfl rfl ?c1 ?c2 ?c3 ?c4 ?c5 ?_)
   | go_in)
  case c1 =>
   intro j u hj
   match j,hj with
   | 0,hj=>simp at hj;subst hj;simp[Addr.add]
  case c2=>intro u hu;simp at hu;subst hu;rfl
  case c3=>unfold maxLen;omega
  case c4=>omega
  case c5=>have:=hnx.size;simp;omega
  .intro v' w1 hown' hgrow hne;have hk':k<m:=by assumption
   obtain⟨g,cap,rfl,hg1,hg2⟩:=hown'.form (by omega);have hnx1:Below w.heap.size w w1:=(hnx.alloc (by have:=hnx.size;omega) _).grown hgrow (by have:=hnx.size;simp;omega) (fun q hq=>(hown.lt q hq).1)
   rw[show List.map (Value.int .i64) (backL zs k)++[Value.int .i64 (-1)]=(backS zs k 0).map (Value.int .i64) by rw[backS_zero];simp] at hown';clear hgrow hown hnx hne
   go_wp2
   go_loopw [7] (fun i wr=>∃j:Nat,j<=n/\i=.int .i64 j/\wr.ownsRow w.heap.size 3 1 (.slice (some ⟨g,0,none⟩) (k+1) cap) (k+1) ((backS zs k j).map (Value.int .i64))/\Below w.heap.size w wr) (fun i _=>n-(intOf i).toNat)
   case atStart=>exact⟨0,Nat.zero_le _,rfl,hown',hnx1⟩
   case round =>
    clear hown' hnx1;obtain⟨j,hj,rfl,hown,hnx⟩:=hrel;have hcx:j<n->wr.cell? ⟨b,off+j,none⟩=some (.int .i64 (zs.getD j 0)):=fun h=>(hnx.cell (by exact hb)).trans (hc j (by omega))
    have hst:=hown.stored k (.int .i64 j);have hfz:=hown.frozenAt k;have hck:wr.cell? ⟨g,k,none⟩=some (.int .i64 ((backS zs k j).getD k 0)):=by
     rw[hown.cellAt k (by omega),List.getElem?_map,List.getElem?_eq_getElem (by rw[backS_len];omega)];simp[show k<(backS zs k j).length by rw[backS_len];omega]
    go_wp2
    .have hlt:j<n:=by assumption
     have hjl:j<zs.length:=by omega
     have h:(zs[j]==(k:Int))=true:=by assumption
     have e:zs.getD j 0=(k:Int):=by
      have:=beq_iff_eq.1 h
      simpa[hjl] using this
     refine⟨⟨j+1,by omega,by simp,?_,hnx.setCell hg1 _⟩,by simp[intOf];omega⟩;rw[backS_yes hjl e hd,List.map_set];exact hst.1
    .have hlt:j<n:=by assumption
     have hjl:j<zs.length:=by omega
     have h:(zs[j]==(k:Int))=false:=by assumption
     have e:zs.getD j 0≠(k:Int):=by
      have:=beq_eq_false_iff_ne.1 h
      simpa[hjl] using this
     refine⟨⟨j+1,by omega,by simp,?_,hnx⟩,by simp[intOf];omega⟩;rw[backS_no hjl e hd];exact hown
    .have hlt:¬j<n:=by assumption
     have hjn:j=zs.length:=by omega
     rw[hjn,backS_all] at hown;exact⟨⟨k+1,by omega,by simp,hown,hnx⟩,by simp[intOf];omega⟩
  .go_ret
   have hk':¬k<m:=by assumption
   obtain rfl:k=m:=by omega
   exact⟨_,rfl,hown,hnx⟩
end Go.Proofs.YtebmobphgaiaiaaGreat.back
namespace Go.Proofs.YtebmobphgaiaiaaGreat.back
open Go Go.Proofs Go.RowKit Go.AM
open Go.Proofs.Tryz
set_option maxHeartbeats 2000000 in
set_option maxRecDepth 100000 in
theorem zero(A:Option Addr)(c m:Nat)(w:World)(hm:m<=1000000):
  Calls prog 158 #[.slice A 0 c,.int .i64 m] w fun e w'=>∃v,e=.returned v/\w'.ownsRow w.heap.size 3 1 v m ((backL [] m).map (Value.int .i64))/\Below w.heap.size w w':=by
 obtain⟨i0,hi,hz0,hz1,hz2⟩:=info_parts info3
 go_enter func158,ntmps158
 go_wp2
 go_loopw [5,6] (fun v i wr=>∃k:Nat,k<=m/\i=.int .i64 k/\wr.ownsRow w.heap.size 3 1 v k ((backL [] k).map (Value.int .i64))/\Below w.heap.size w wr) (fun _ i _=>m-(intOf i).toNat)
 case atStart=>exact⟨0,Nat.zero_le _,rfl,World.ownsRow_nil _ _ _ _,Below.refl _ _⟩
 case round =>
  obtain⟨k,hk,rfl,hown,hnx⟩:=hrel
  go_wp2_with (first
   | (at_builtin;refine wpList_append_own _ rfl _ _ 26 rfl w.heap.size 3 i0 (.int .i64 0) 1 8 underlying26 hi hz0 hz1 hz2 rfl (by decide) _ _ _ rfl (hown.alloc _) ⟨wr.heap.size,0,none⟩ 1 1 [.int .i64 (-1)] rfl rfl ?c1 ?c2 ?c3 ?c4 ?c5 ?_)
   | go_in)
  case c1 =>
   intro j u hj
   match j,hj with
   | 0,hj=>simp at hj;subst hj;simp[Addr.add]
  case c2=>intro u hu;simp at hu;subst hu;rfl
  case c3=>unfold maxLen;omega
  case c4=>omega
  case c5=>have:=hnx.size;simp;omega
  .intro v' w1 hown' hgrow hne;have hk':k<m:=by assumption
   have hnx1:Below w.heap.size w w1:=(hnx.alloc (by have:=hnx.size;omega) _).grown hgrow (by have:=hnx.size;simp;omega) (fun q hq=>(hown.lt q hq).1)
   rw[show List.map (Value.int .i64) (backL [] k)++[Value.int .i64 (-1)]=(backL [] (k+1)).map (Value.int .i64) by rw[backL_succ];simp[indexI]] at hown';clear hgrow hown hnx hne
   go_wp2
   go_loopw [7] (fun i wr=>i=.int .i64 0/\wr=w1) (fun i _=>0)
   case atStart=>exact⟨rfl,rfl⟩
   case round =>
    obtain⟨rfl,rfl⟩:=hrel
    go_wp2
    exact⟨⟨k+1,by omega,by simp,hown',hnx1⟩,by simp[intOf];omega⟩
  .go_ret
   have hk':¬k<m:=by assumption
   obtain rfl:k=m:=by omega
   exact⟨_,rfl,hown,hnx⟩
end Go.Proofs.YtebmobphgaiaiaaGreat.back
namespace Go.AM
open Go Go.Proofs Go.RowKit
open Go.Proofs.Tryz
def upP(ps:List Int)(i:Nat):List Int:=if _h:0<=ps.getD i 0/\(ps.getD i 0).toNat<i then (i:Int)::upP ps (ps.getD i 0).toNat else [(i:Int)]
termination_by i
decreasing_by exact _h.2
def upI(ps:List Int)(a:Int):List Int:=if a<0 then [] else upP ps a.toNat
theorem upI_neg{ps:List Int}{a:Int}(h:a<0):upI ps a=[]:=if_pos h
theorem upI_up{ps:List Int}{a:Int}(h:0<=a)(hp:ps.getD a.toNat 0<a):upI ps a=a::upI ps (ps.getD a.toNat 0):=by
 rw[upI,if_neg (by omega),upP];by_cases h0:0<=ps.getD a.toNat 0
 .rw[dif_pos ⟨h0,by omega⟩,upI,if_neg (by omega),Int.toNat_of_nonneg h]
 .rw[dif_neg (fun h2=>h0 h2.1),upI,if_pos (by omega),Int.toNat_of_nonneg h]
theorem upP_len(ps:List Int):∀n i,i<n->(upP ps i).length<=i+1
 | 0,i,h=>absurd h (Nat.not_lt_zero _)
 | n+1,i,h=>by
  rw[upP];split
  .rename_i h1;have:=upP_len ps n _ (show (ps.getD i 0).toNat<n by omega)
   simp only[List.length_cons];omega
  .simp
theorem upI_len(ps:List Int)(a:Int):(upI ps a).length<=(a+1).toNat:=by
 unfold upI;split
 .simp
 .have:=upP_len ps _ _ (Nat.lt_succ_self a.toNat)
  omega
end Go.AM
namespace Go.Proofs.YtebmobphgaiaiaaGreat.line
open Go Go.Proofs Go.RowKit Go.AM Go.Sort
open Go.Proofs.Tryz
theorem own_le{w:World}{base base':Nat}{e:TypeId}{size:Nat}{v:Value}{n:Nat}{xs:List Value}(h:w.ownsRow base e size v n xs)(hb:base'<=base):w.ownsRow base' e size v n xs :=
 ⟨h.1,h.2.imp id fun ⟨g,cap,cur,a,b,c⟩=>⟨g,cap,cur,a,Nat.le_trans hb b,c⟩⟩
theorem rev{base n:Nat}{v:Value}{l:List Int}{w0 w:World}(hown:w.ownsRow base 3 1 v n (l.map (Value.int .i64)))(hb:Below base w0 w)(hl:l.length<=1000000):
  Calls prog 302 #[v] w fun e w'=>e=.returned (.tuple #[])/\w'.ownsRow base 3 1 v n (l.reverse.map (Value.int .i64))/\Below base w0 w':=by
 rcases hown.2 with ⟨rfl,e0⟩|⟨g,cap,cur,rfl,hg1,hg2,hg3,hg4,hg5,hg6⟩
 .refine(Tryz.slices_Reverse_int_empty _ _ _).mono ?_;rintro e w3 ⟨rfl,rfl⟩;subst e0;have:l=[]:=List.length_eq_zero_iff.1 (by simpa using hown.1)
  subst this;exact⟨rfl,hown,hb⟩
 .obtain⟨g',cap',hv,hgb,hgl,hncap,hcm,hlen,hH⟩:=Lib.holds_of_ownsRow hown (by simp);cases hv;have hrev:=Tryz.slices_Reverse_int g 0 cap l _ hH (by omega);rw[hlen] at hrev;refine hrev.mono ?_;rintro e w3 ⟨rfl,q,rfl⟩;have hh:=Lib.ownsRow_putRow (q:=q) (ys:=l.reverse) hown (by simpa using hlen) (nr _);rw[List.take_of_length_le (by simp[hlen])] at hh;exact⟨rfl,hh,Lib.below_putRow hb hg1⟩
set_option maxHeartbeats 2000000 in
set_option maxRecDepth 100000 in
theorem any(b off n c:Nat)(u:Value)(a0:Int)(ps:List Int)(w:World)(hz:ps.length=n)(hn:n<=1000000)(ha:a0<n)(hp:∀j,j<n->ps.getD j 0<j)(hb:b<w.heap.size)(hc:∀j,j<n->w.cell? ⟨b,off+j*4+1,none⟩=some (.int .i64 (ps.getD j 0))):
  Calls prog 277 #[.agg #[.slice (some ⟨b,off,none⟩) n c,u],.int .i64 a0] w fun e w'=>∃v,e=.returned v/\w'.ownsRow w.heap.size 3 1 v (upI ps a0).length ((upI ps a0).reverse.map (Value.int .i64))/\Below w.heap.size w w':=by
 obtain⟨i0,hi,hz0,hz1,hz2'⟩:=info_parts YtebmobphgaiaiaaGreat.back.info3
 go_enter func277,ntmps277
 go_wp2
 have hsz:(w.alloc (Obj.cells #[Value.slice (some { block:=b,off:=off }) n c,u] 25)).heap.size=w.heap.size+1:=by unfold World.alloc;exact Array.size_push _
 have hz2:(w.alloc (Obj.cells #[Value.slice (some { block:=b,off:=off }) n c,u] 25)).cell? ⟨w.heap.size,0,none⟩=some (Value.slice (some { block:=b,off:=off }) n c):=by rw[World.cell?_alloc_at _ _ _ _ rfl];rfl
 have hcc:∀j,j<n->(w.alloc (Obj.cells #[Value.slice (some { block:=b,off:=off }) n c,u] 25)).cell? ⟨b,off+j*4+1,none⟩=some (.int .i64 (ps.getD j 0)):=fun j hj=>((Below.refl _ w).alloc (nr _) _ |>.cell (by exact hb)).trans (hc j hj)
 have hbel:Below w.heap.size w (w.alloc (Obj.cells #[Value.slice (some { block:=b,off:=off }) n c,u] 25)):=(Below.refl _ w).alloc (nr _) _
 generalize w.alloc (Obj.cells #[Value.slice (some { block:=b,off:=off }) n c,u] 25)=w1 at *
 go_loopw [1,5] (fun x v wr=>∃(a:Int) (l:List Int),x=.int .i64 a/\a<n/\l++upI ps a=upI ps a0/\wr.ownsRow w1.heap.size 3 1 v l.length (l.map (Value.int .i64))/\Below w1.heap.size w1 wr) (fun x _ _=>(intOf x+1).toNat)
 case atStart=>exact⟨a0,[],rfl,ha,rfl,World.ownsRow_nil _ _ _ _,Below.refl _ _⟩
 case round =>
  obtain⟨a,l,rfl,hal,hl,hown,hnx⟩:=hrel;have hll:l.length<=n:=by
   have h1:=congrArg List.length hl;have h2:=upI_len ps a0;rw[List.length_append] at h1;omega
  have hr2:=(hnx.cell (p:=⟨w.heap.size,0,none⟩) (by simp;omega)).trans hz2
  go_wp2_with (first
   | (at_builtin;refine wpList_append_own _ rfl _ _ 26 rfl w1.heap.size 3 i0 (.int .i64 0) 1 8 underlying26 hi hz0 hz1 hz2' rfl (by decide) _ _ _ rfl (hown.alloc _) ⟨wr.heap.size,0,none⟩ 1 1 [.int .i64 a] rfl rfl ?c1 ?c2 ?c3 ?c4 ?c5 ?_)
   | (go_at_call 302;refine(rev hown hnx (by omega)).mono ?_;rintro e w3 ⟨rfl,hown3,hnx3⟩)
   | go_in)
  case c1 =>
   intro j u hj
   match j,hj with
   | 0,hj=>simp at hj;subst hj;simp[Addr.add]
  case c2=>intro u hu;simp at hu;subst hu;rfl
  case c3=>unfold maxLen;omega
  case c4=>omega
  case c5=>have:=hnx.size;simp;omega
  .intro v' w2 hown' hgrow hne;have h0:0<=a:=by assumption
   obtain⟨k,rfl⟩:=Int.eq_ofNat_of_zero_le h0;have hnx1:Below w1.heap.size w1 w2:=(hnx.alloc (by have:=hnx.size;omega) _).grown hgrow (by have:=hnx.size;simp;omega) (fun q hq=>(hown.lt q hq).1)
   have hr3:=(hnx1.cell (p:=⟨w.heap.size,0,none⟩) (by simp;omega)).trans hz2;have hr4:=(hnx1.cell (p:=⟨b,off+k*4+1,none⟩) (by simp;omega)).trans (hcc k (by omega));have hup:=upI_up (ps:=ps) h0 (by have:=hp k (by omega);simpa using this);rw[hup,Int.toNat_natCast] at hl;clear hgrow hown hnx hne
   go_wp2
   refine⟨⟨ps.getD k 0,l++[(k:Int)],rfl,by have:=hp k (by omega);omega,by rw[List.append_assoc];exact hl,by simpa[hsz] using hown',hnx1⟩,?_⟩;have:=hp k (by omega)
   simp at this;simp[intOf];omega
  .go_ret
   have h0:a<0:=by assumption
   rw[upI_neg h0,List.append_nil] at hl;rw[<-hl];exact⟨_,rfl,own_le hown3 (by omega),hbel.trans (hnx3.mono (by omega))⟩
end Go.Proofs.YtebmobphgaiaiaaGreat.line
namespace Go.AM
open Go Go.Proofs Go.RowKit
open Go.Proofs.Tryz
abbrev Ty.pars(t:Ty):List Int:=t.nodes.map NT.par
theorem pars_getD(t:Ty){j:Nat}(h:j<t.nodes.length):t.pars.getD j 0=(t.nd j).par:=by simp[Ty.pars,Ty.nd,h]
theorem rvd_pars{c:Addr->Option Value}{ps:Addr->Prop}{l:List NT}{v:Value}(h:RVd c ps (nts l) v):
  ∃A cap,v=.slice A l.length cap/\l.length<=cap/\cap<=maxLen/\(l≠[]->∃a,A=some a)/\∀a,A=some a->∀i (hi:i<l.length),c (a.add (i*4))=some (.string l[i].name)/\c (a.add (i*4+1))=some (.int .i64 l[i].par):=by
 unfold nts at h;generalize hes:l.map NT.cells=es at h;cases h with
 | @sl _ _ A cap u hcap hmax hsz hA hc hr =>
  have hl:es.length=l.length:=by rw[<-hes];simp
  refine⟨A,cap,by rw[hl],by omega,hmax,fun hne=>hA (by intro e;rw[e] at hl;exact hne (List.length_eq_zero_iff.1 hl.symm)),fun a ha i hi=>⟨?_,?_⟩⟩
  .have g:=(hc a ha i 0 (by omega) (by decide)).2;have r:=hr i 0 (by omega) (by rw[hsz _ (List.getElem_mem _)];decide);have e1:es[i][0]'(by rw[hsz _ (List.getElem_mem _)];decide)=D.raw (.string l[i].name):=by
    subst hes;simp
   rw[e1] at r;have e2:u i 0=.string l[i].name:=by
    generalize hu:u i 0=x at r;cases r;rfl
   rw[<-e2];exact g
  .have g:=(hc a ha i 1 (by omega) (by decide)).2;have r:=hr i 1 (by omega) (by rw[hsz _ (List.getElem_mem _)];decide);have e1:es[i][1]'(by rw[hsz _ (List.getElem_mem _)];decide)=D.raw (.int .i64 l[i].par):=by
    subst hes;simp
   rw[e1] at r;have e2:u i 1=.int .i64 l[i].par:=by
    generalize hu:u i 1=x at r;cases r;rfl
   rw[<-e2];exact g
theorem line_c(t:Ty)(ht:t.nodes.length<=1000000)(a:Int)(h0:0<=a)(ha:a<t.nodes.length)(hp:∀j,j<t.nodes.length->(t.nd j).par<j):DC 277 [t.av,I a] (.d (ints (upI t.pars a).reverse)):=by
 intro tok nt box nb;refine⟨Enters.mk func277 rfl (by kernel_rfl),fun G w vals hm hr=>?_⟩;obtain⟨hlen,hrv⟩:=hr
 match vals,hlen with
 | [v,x],_ =>
  have h0:=hrv 0 (by simp) (by simp);have h1:=hrv 1 (by simp) (by simp);simp only[List.getElem_cons_zero,List.getElem_cons_succ] at h0 h1;cases h1 with
  | d h1 =>
  cases h1 with
  | raw h1 =>
  cases h0 with
  | @agg _ vs hl h2 h3 =>
   match vs,hl with
   | [v1,v2],_ =>
    have h4:=h2 0 (by simp) (by simp);simp only[List.getElem_cons_zero] at h4;cases h4 with
    | d h4 =>
     obtain⟨A,cap,rfl,hcap,hmax,hA,hc⟩:=rvd_pars h4;have e:t.nodes≠[]:=by intro e;rw[e] at ha;simp at ha;omega
     obtain⟨a1,rfl⟩:=hA e;have hp0:0<t.nodes.length:=List.length_pos_iff.2 e
     have hc':=hc a1 rfl
     have hs:a1.spot=none:=by
      cases hsp:a1.spot with
      | none=>rfl
      | some q =>
       exfalso
       have:=(hc' 0 hp0).1
       simp only[World.cell?,Addr.add,hsp,Option.isSome_some,↓reduceIte] at this;split at this<;>simp at this
     obtain⟨b,off,sp⟩:=a1;simp only at hs;subst hs;have hcc:∀j,j<t.nodes.length->w.cell? ⟨b,off+j*4+1,none⟩=some (.int .i64 (t.pars.getD j 0)):=fun j hj=>by
      have h1:=(hc' j hj).2;rw[pars_getD t hj,nd_at hj];unfold Addr.add at h1;split at h1
      .rename_i e;omega
      .rw[show off+j*4+1=off+(j*4+1) by omega];exact h1
     have hbw:b<w.heap.size:=lt_of_cell (hcc 0 hp0)
     refine(YtebmobphgaiaiaaGreat.line.any b off t.nodes.length cap v2 a t.pars w (by simp) ht (by omega) (fun j hj=>by rw[pars_getD t hj];exact hp j hj) hbw hcc).mono ?_;rintro e w' ⟨v,rfl,hown,hb⟩;refine⟨v,_,_,G,rfl,⟨rfl,rfl⟩,rfl,relM_below hm hb,.d (rvd_owns hm (by rw[List.length_reverse];exact hown)),le_below hm hb,fun k hk=>⟨hk,rfl⟩⟩
theorem Ty.Fit.hM{t:Ty}(h:t.Fit)(i:Nat):(t.nd i).own.length<=1000:=by
 by_cases hi:i<t.nodes.length
 .rw[nd_at hi];exact(h.a _ (List.getElem_mem hi)).1
 .simp[Ty.nd,List.getElem?_eq_none (Nat.le_of_not_lt hi)];exact Nat.zero_le _
theorem given1_c(t:Ty)(n:Int)(box:Bxs)(nb k:Nat)(tok:Tks)(nt:Nat)(h1:box k=some [[.d (nts t.nodes),.d (ets t.edges)]]):
  ACalls prog 276 [I n,.ptr k 0 0] ⟨box,nb,tok,nt⟩ fun v m=>v=B (!insB t n)/\m=⟨box,nb,tok,nt⟩:=by
 by_cases h0:n<0
 .rw[show insB t n=false by simp only[insB,decide_eq_false_iff_not];omega];refine sI func276 ntmps276 fun Hb Ht=>?_
  have k1n:=key_lt Hb h1;repeat first|simp[lO k1n,h1,h0]|refine sR ?_
  refine sT (sH Hb Ht ?_);simp
 .by_cases h2:(t.nodes.length:Int)<=n
  .rw[show insB t n=false by simp only[insB,decide_eq_false_iff_not];omega];refine sI func276 ntmps276 fun Hb Ht=>?_
   have k1n:=key_lt Hb h1;repeat first|simp[lO k1n,h1,h0,h2]|refine sR ?_
   refine sT (sH Hb Ht ?_);simp
  .rw[show insB t n=true by simp only[insB,decide_eq_true_eq];omega];refine sI func276 ntmps276 fun Hb Ht=>?_
   have k1n:=key_lt Hb h1;repeat first|simp[lO k1n,h1,h0,h2]|refine sR ?_
   refine sT (sH Hb Ht ?_);simp
def givE(t:Ty)(l:List Int):Int:=if tyE t=0 then (if anyB (fun a=>!insB t a) l=true then 6 else 0) else tyE t
theorem given_c(t:Ty)(ht:t.Fit)(l:List Int)(hl:l.length<=1000000):DC 229 [t.av,.d (ints l)] (I (givE t l)):=by
 intro tok nt box nb;have h1:=valid_c4 t ht ht.hM;obtain⟨N,hN⟩:∃N,givE t l=N:=⟨_,rfl⟩
 rw[hN];unfold givE at hN;generalize tyE t=E at *;generalize tyN t=Z at *;refine sI func229 ntmps229 fun Hb Ht=>?_
 repeat first|simp|refine sR ?_
 refine sD (h1 _ _) ?_;repeat first|simp|refine sR ?_
 by_cases e1:E=0
 .rw[if_pos e1] at hN;obtain⟨p,hpp⟩:∃p:Int->Bool,(fun a=>!insB t a)=p:=⟨_,rfl⟩
  have h2:=fun y box nb k hbk=>given1_c t y box nb k tok nt hbk
  have hpy:∀y:Int,(!insB t y)=p y:=fun y=>by rw[<-hpp]
  simp only[hpy] at h2;rw[hpp] at hN;refine sC ?_;simp[e1];repeat first|simp|refine sR ?_
  refine Stop.of_b (containsFunc_c l 276 [.ptr (nb+2) 0 0] p hl _ _ _ _ (fun c hc=>by rw[List.mem_singleton.1 hc];simp[lb_at]) (fun y hy box' nb' he=>h2 y box' nb' _ (he _ _ (by simp[lb_at])))) ?_;simp;cases e2:anyB p l
  .rw[e2,if_neg (by simp)] at hN;repeat first|simp|refine sR ?_
   refine sC ?_;repeat first|simp|refine sR ?_
   refine sT (sH Hb Ht ?_);simp[<-hN]
  .rw[e2,if_pos rfl] at hN;repeat first|simp|refine sR ?_
   refine sC ?_;repeat first|simp|refine sR ?_
   refine sT (sH Hb Ht ?_);simp[<-hN]
 .rw[if_neg e1] at hN;have b1:(E != 0)=true:=by simp[e1]
  refine sC ?_;simp[b1];repeat first|simp|refine sR ?_
  refine sT (sH Hb Ht ?_);simp[<-hN]
def isB(t:Ty)(a b:Int):Bool:=decide (b∈upI t.pars a)
theorem is_c(t:Ty)(ht:t.Fit)(a b:Int)(h0:0<=a)(ha:a<t.nodes.length)(hp:∀j,j<t.nodes.length->(t.nd j).par<j):DC 230 [t.av,I a,I b] (B (isB t a b)):=by
 intro tok nt box nb;have hc:=line_c t (by have:=ht.n;omega) a h0 ha hp;have hlen:=upI_len t.pars a;have htn:=ht.n;obtain⟨N,hN⟩:∃N,isB t a b=N:=⟨_,rfl⟩
 rw[hN];unfold isB at hN;have hN2:decide (b∈(upI t.pars a).reverse)=N:=by rw[<-hN];simp
 have hl2:(upI t.pars a).reverse.length<=1000000:=by rw[List.length_reverse];omega
 generalize (upI t.pars a).reverse=L at *;have hk:=contains_c L b hl2;rw[hN2] at hk;refine sI func230 ntmps230 fun Hb Ht=>?_
 repeat first|simp|refine sR ?_
 refine sD (hc _ _) ?_;repeat first|simp|refine sR ?_
 refine sD (hk _ _) ?_;repeat first|simp|refine sR ?_
 refine sT (sH Hb Ht ?_);simp
theorem tyE_par{t:Ty}(h:tyE t=0):∀j,j<t.nodes.length->(t.nd j).par<j:=by
 unfold tyE at h;split at h
 .cases h
 .split at h
  .cases h
  .split at h
   .cases h
   .split at h
    .rename_i h1;exact absurd h h1
    .rename_i h1;exact fun j hj=>nodE_par (firstE_allZ _ (Decidable.not_not.1 h1) j hj)
def fitB(t:Ty)(e a b:Int):Bool :=
 if givE t [a,b]=0 then (if 0<=e then (if e<t.edges.length then (if isB t a (t.ed e.toNat).fr=true then isB t b (t.ed e.toNat).to else false) else false) else false) else false
theorem givE_in{t:Ty}{l:List Int}(h:givE t l=0):tyE t=0/\∀a∈l,0<=a/\a<t.nodes.length:=by
 unfold givE at h;split at h
 .rename_i h1;split at h
  .cases h
  .rename_i h2;refine⟨h1,fun a ha=>?_⟩;simp only[anyB,List.any_eq_true,not_exists,not_and] at h2;have:=h2 a ha
   simpa[insB] using this
 .rename_i h1;exact absurd h h1
theorem fits_c4(t:Ty)(ht:t.Fit)(e a b:Int):DC 166 [t.av,I e,I a,I b] (B (fitB t e a b)):=by
 intro tok nt box nb;have h1:=given_c t ht [a,b] (by simp);have hin:=@givE_in t [a,b];obtain⟨N,hN⟩:∃N,fitB t e a b=N:=⟨_,rfl⟩
 rw[hN];unfold fitB at hN;generalize givE t [a,b]=E at *;refine sI func166 ntmps166 fun Hb Ht=>?_
 repeat first|simp|refine sR ?_
 refine⟨rfl,?_⟩;refine Stop.data ?_;refine sD (h1 _ _) ?_;simp;by_cases e1:E=0
 .obtain⟨htE,hin⟩:=hin e1;have ha:=hin a (by simp);have hb:=hin b (by simp);rw[if_pos e1] at hN;by_cases e2:0<=e
  .have e2':¬e<0:=by omega
   rw[if_pos e2] at hN;by_cases e3:e<t.edges.length
   .have e3':¬(t.edges.length:Int)<=e:=by omega
    rw[if_pos e3] at hN;obtain⟨k,rfl⟩:=Int.eq_ofNat_of_zero_le e2;have hk:k<t.edges.length:=by omega
    rw[Int.toNat_natCast,ed_at hk] at hN;have c1:=is_c t ht a t.edges[k].fr ha.1 ha.2 (tyE_par htE);have c2:=is_c t ht b t.edges[k].to hb.1 hb.2 (tyE_par htE);repeat first|simp[e1,e2',e3',hk]|refine sR ?_
    refine sC ?_;simp[e1,e2',e3',hk];repeat first|simp[hk]|refine sR ?_
    refine sD (c1 _ _) ?_;simp;cases f1:isB t a t.edges[k].fr
    .rw[f1,if_neg (by simp)] at hN;repeat first|simp|refine sR ?_
     refine sT (sH Hb Ht ?_);simp[<-hN]
    .rw[f1,if_pos rfl] at hN;repeat first|simp[hk]|refine sR ?_
     refine sD (c2 _ _) ?_;repeat first|simp|refine sR ?_
     refine sT (sH Hb Ht ?_);simp[<-hN]
   .have e3':(t.edges.length:Int)<=e:=by omega
    rw[if_neg e3] at hN;repeat first|simp[e1,e2',e3']|refine sR ?_|refine sC ?_
    refine sT (sH Hb Ht ?_);simp[<-hN]
  .have e2':e<0:=by omega
   rw[if_neg e2] at hN;repeat first|simp[e1,e2']|refine sR ?_|refine sC ?_
   refine sT (sH Hb Ht ?_);simp[<-hN]
 .rw[if_neg e1] at hN;have b1:(E != 0)=true:=by simp[e1]
  repeat first|simp[b1]|refine sR ?_|refine sC ?_
  refine sT (sH Hb Ht ?_);simp[<-hN]
theorem below1Neg_c(t:Ty)(a b:Int)(h0:a<0)(hb:0<=b):DC 184 [t.av,I a,I b] (B false):=by
 intro tok nt box nb;have h0':¬0<=a:=by omega
 have e:(a==b)=false:=by simp;omega
 refine sI func184 ntmps184 fun Hb Ht=>?_
 repeat first|simp[e,h0']|refine sR ?_
 refine sT (sH Hb Ht ?_);simp
theorem below1_c(t:Ty)(b:Int)(hb:0<=b)(hp:∀j,j<t.nodes.length->(t.nd j).par<j):∀(n:Nat) (a:Int),a<n->a<t.nodes.length->∀(tok:Tks) (nt:Nat),DCall prog 184 [t.av,I a,I b] tok nt (B (isB t a b)) tok nt
  | 0,a,ha,_,tok,nt=>by
    rw[show isB t a b=false by rw[isB,upI_neg (by omega)];simp];exact below1Neg_c t a b (by omega) hb tok nt
  | n+1,a,ha,hl,tok,nt=>by
    by_cases h0:a<0
    . rw[show isB t a b=false by rw[isB,upI_neg h0];simp]
      exact below1Neg_c t a b h0 hb tok nt
    . obtain⟨k,rfl⟩:=Int.eq_ofNat_of_zero_le (show 0<=a by omega)
      have hk:k<t.nodes.length:=by omega
      have hpk:=hp k hk;have hup:=upI_up (ps:=t.pars) (a:=(k:Int)) (by omega) (by rw[Int.toNat_natCast,pars_getD t hk];exact hpk);rw[Int.toNat_natCast,pars_getD t hk] at hup;have ih:=below1_c t b hb hp n (t.nd k).par (by omega) (by omega);intro box nb;by_cases e:(k:Int)=b
      . have e':((k:Int)==b)=true:=by simp[e]
        rw[show isB t k b=true by rw[isB,hup];simp[e]];refine sI func184 ntmps184 fun Hb Ht=>?_
        repeat first|simp[e']|refine sR ?_
        refine sT (sH Hb Ht ?_);simp
      . have e':((k:Int)==b)=false:=by simp[e]
        have hB:isB t k b=isB t (t.nd k).par b:=by
         rw[isB,hup,isB];simp only[List.mem_cons,decide_eq_decide];constructor
         . rintro(h|h)
           . exact absurd h.symm e
           . exact h
         . exact .inr
        rw[hB];rw[nd_at hk] at ih ⊢;refine sI func184 ntmps184 fun Hb Ht=>?_
        repeat first|simp[e',hk]|refine sR ?_
        refine sD (ih _ _) ?_;repeat first|simp|refine sR ?_
        refine sT (sH Hb Ht ?_);simp
theorem given04_c(t:Ty)(ht:t.Fit)(a b:Int):DC 182 [t.av,I a,I b] (I (givE t [a,b])):=by
 intro tok nt box nb;have htn:=ht.n;have h1:=valid04_c t ht ht.hM;have i1:=in04_c a 0 ((t.nodes.length:Int)-1);have i2:=in04_c b 0 ((t.nodes.length:Int)-1);have hins:∀n:Int,inZ n 0 ((t.nodes.length:Int)-1)=insB t n:=fun n=>by simp only[inZ,insB];congr 1;simp only[eq_iff_iff];omega
 rw[hins] at i1 i2;have hw0:IntKind.i64.wrap ((t.nodes.length:Int)-1)=(t.nodes.length:Int)-1:=by rw[wrap_in (by omega) (by omega)]
 obtain⟨N,hN⟩:∃N,givE t [a,b]=N:=⟨_,rfl⟩
 rw[hN];unfold givE at hN;simp only[anyB,List.any_cons,List.any_nil,Bool.or_false] at hN;generalize tyE t=E at *;generalize tyN t=Z at *;refine sI func182 ntmps182 fun Hb Ht=>?_
 repeat first|simp|refine sR ?_
 refine sD (h1 _ _) ?_;repeat first|simp|refine sR ?_
 by_cases e1:E=0
 .rw[if_pos e1] at hN;cases e2:insB t a
  .rw[e2] at i1 hN;rw[if_pos (by simp)] at hN;refine sC ?_;simp[e1];repeat first|simp[hw0]|refine sR ?_
   refine sD (i1 _ _) ?_;repeat first|simp|refine sR ?_
   refine sC ?_;repeat first|simp|refine sR ?_
   refine sT (sH Hb Ht ?_);simp[<-hN]
  .cases e3:insB t b
   .rw[e2] at i1;rw[e3] at i2;rw[e2,e3,if_pos (by simp)] at hN;refine sC ?_;simp[e1];repeat first|simp[hw0]|refine sR ?_
    refine sD (i1 _ _) ?_;simp;repeat first|simp[hw0]|refine sR ?_
    refine sD (i2 _ _) ?_;repeat first|simp|refine sR ?_
    refine sC ?_;repeat first|simp|refine sR ?_
    refine sT (sH Hb Ht ?_);simp[<-hN]
   .rw[e2] at i1;rw[e3] at i2;rw[e2,e3,if_neg (by simp)] at hN;refine sC ?_;simp[e1];repeat first|simp[hw0]|refine sR ?_
    refine sD (i1 _ _) ?_;simp;repeat first|simp[hw0]|refine sR ?_
    refine sD (i2 _ _) ?_;repeat first|simp|refine sR ?_
    refine sC ?_;repeat first|simp|refine sR ?_
    refine sT (sH Hb Ht ?_);simp[<-hN]
 .rw[if_neg e1] at hN;have b1:(E != 0)=true:=by simp[e1]
  refine sC ?_;simp[b1];repeat first|simp|refine sR ?_
  refine sT (sH Hb Ht ?_);simp[<-hN]
theorem edgE_in{t:Ty}{i:Nat}(h:edgE t i=0):0<=(t.ed i).fr/\0<=(t.ed i).to:=by
 unfold edgE at h;split at h
 .cases h
 .split at h
  .cases h
  .unfold edR at h;split at h
   .cases h
   .split at h
    .cases h
    .rename_i h1 h2;simp only[insB,decide_eq_false_iff_not] at h1 h2;omega
theorem tyE_edge{t:Ty}(h:tyE t=0):∀j,j<t.edges.length->0<=(t.ed j).fr/\0<=(t.ed j).to:=by
 unfold tyE at h;split at h
 .cases h
 .split at h
  .cases h
  .split at h
   .cases h
   .split at h
    .rename_i h1;exact absurd h h1
    .exact fun j hj=>edgE_in (firstE_allZ _ h j hj)
theorem fits04_c(t:Ty)(ht:t.Fit)(e a b:Int):DC 102 [t.av,I e,I a,I b] (B (fitB t e a b)):=by
 intro tok nt box nb;have hte:=ht.e;have h1:=given04_c t ht a b;have i1:=in04_c e 0 ((t.edges.length:Int)-1);have hw0:IntKind.i64.wrap ((t.edges.length:Int)-1)=(t.edges.length:Int)-1:=by rw[wrap_in (by omega) (by omega)]
 have hin:=@givE_in t [a,b];obtain⟨N,hN⟩:∃N,fitB t e a b=N:=⟨_,rfl⟩
 rw[hN];unfold fitB at hN;generalize givE t [a,b]=E at *;refine sI func102 ntmps102 fun Hb Ht=>?_
 repeat first|simp|refine sR ?_
 refine sD (h1 _ _) ?_;simp;by_cases e1:E=0
 .obtain⟨htE,hin⟩:=hin e1;have ha:=hin a (by simp);have hb:=hin b (by simp);rw[if_pos e1] at hN;by_cases e2:0<=e
  .rw[if_pos e2] at hN;by_cases e3:e<t.edges.length
   .have ei:inZ e 0 ((t.edges.length:Int)-1)=true:=by simp only[inZ,decide_eq_true_eq];omega
    rw[ei] at i1;rw[if_pos e3] at hN;obtain⟨k,rfl⟩:=Int.eq_ofNat_of_zero_le e2;have hk:k<t.edges.length:=by omega
    have hfr:=tyE_edge htE k hk;rw[ed_at hk] at hfr;rw[Int.toNat_natCast,ed_at hk] at hN;have c1:=below1_c t t.edges[k].fr hfr.1 (tyE_par htE) t.nodes.length a ha.2 ha.2;have c2:=below1_c t t.edges[k].to hfr.2 (tyE_par htE) t.nodes.length b hb.2 hb.2;repeat first|simp[e1,hw0]|refine sR ?_
    refine sD (i1 _ _) ?_;repeat first|simp[hk]|refine sR ?_|refine sC ?_
    refine sD (c1 _ _) ?_;simp;cases f1:isB t a t.edges[k].fr
    .rw[f1,if_neg (by simp)] at hN;repeat first|simp|refine sR ?_
     refine sT (sH Hb Ht ?_);simp[<-hN]
    .rw[f1,if_pos rfl] at hN;repeat first|simp[hk]|refine sR ?_
     refine sD (c2 _ _) ?_;repeat first|simp|refine sR ?_
     refine sT (sH Hb Ht ?_);simp[<-hN]
   .have ei:inZ e 0 ((t.edges.length:Int)-1)=false:=by simp only[inZ,decide_eq_false_iff_not];omega
    rw[ei] at i1;rw[if_neg e3] at hN;repeat first|simp[e1,hw0]|refine sR ?_
    refine sD (i1 _ _) ?_;repeat first|simp|refine sR ?_
    refine sC ?_;repeat first|simp|refine sR ?_
    refine sT (sH Hb Ht ?_);simp[<-hN]
  .have ei:inZ e 0 ((t.edges.length:Int)-1)=false:=by simp only[inZ,decide_eq_false_iff_not];omega
   rw[ei] at i1;rw[if_neg e2] at hN;repeat first|simp[e1,hw0]|refine sR ?_
   refine sD (i1 _ _) ?_;repeat first|simp|refine sR ?_
   refine sC ?_;repeat first|simp|refine sR ?_
   refine sT (sH Hb Ht ?_);simp[<-hN]
 .rw[if_neg e1] at hN;have b1:(E != 0)=true:=by simp[e1]
  repeat first|simp[b1]|refine sR ?_|refine sC ?_
  refine sT (sH Hb Ht ?_);simp[<-hN]
def leafB(t:Ty)(k:Int):Bool:=!anyB (fun n=>n.par==k) t.nodes
def allP{α:Type}(p:α->Bool)(l:List α):Bool:=l.all p
theorem all_no{α:Type}{p:α->Bool}{l:List α}{i:Nat}(h:i<l.length)(hp:p l[i]=false):allP p l=false:=by
 unfold allP;rw[<-Bool.not_eq_true,List.all_eq_true];intro h2;have:=h2 _ (List.getElem_mem h)
 rw[hp] at this;cases this
theorem all_more{α:Type}{p:α->Bool}{l:List α}{i:Nat}(h:i<l.length)(h1:allP p (l.take i)=true)(hp:p l[i]=true):allP p (l.take (i+1))=true:=by
 unfold allP at *;rw[List.take_succ_eq_append_getElem h,List.all_append,h1];simp[hp]
def lvN(t:Ty)(n:Int):Bool:=if (t.nodes.length:Int)<=n then false else leafB t n
def lvE(t:Ty)(g:Gr)(e:E):Bool:=fitB t e.ty (g.nodes.getD e.fr.toNat 0) (g.nodes.getD e.to.toNat 0)
def lvsB(t:Ty)(g:Gr):Bool:=if allP (lvN t) g.nodes=true then allP (lvE t g) g.edges else false
theorem strR_valid{r:Ru}(h:strR r=0):vG r.lg=0/\vG r.rg=0:=(strR_zero h).2
def belK(t:Ty)(a:Int)(i:Nat):List Int:=((List.range i).filter fun (b:Nat)=>isB t (b:Int) a).map fun (b:Nat)=>(b:Int)
theorem belK_zero(t:Ty)(a:Int):belK t a 0=[]:=rfl
theorem belK_succ(t:Ty)(a:Int)(i:Nat):belK t a (i+1)=if isB t i a=true then belK t a i++[(i:Int)] else belK t a i:=by
 unfold belK;rw[List.range_succ,List.filter_append,List.map_append];by_cases h:isB t i a=true<;>simp[h]
theorem belK_len(t:Ty)(a:Int)(i:Nat):(belK t a i).length<=i:=by
 unfold belK;rw[List.length_map];exact Nat.le_trans (List.length_filter_le _ _) (by simp)
theorem belK_mem{t:Ty}{a x:Int}{i:Nat}:x∈belK t a i↔∃b:Nat,b<i/\isB t b a=true/\x=b:=by
 simp only[belK,List.mem_map,List.mem_filter,List.mem_range];constructor
 .rintro⟨b,⟨h1,h2⟩,rfl⟩;exact⟨b,h1,h2,rfl⟩
 .rintro⟨b,h1,h2,rfl⟩;exact⟨b,⟨h1,h2⟩,rfl⟩
theorem belK_nodup(t:Ty)(a:Int)(i:Nat):(belK t a i).Nodup:=by
 refine List.Pairwise.map _ (fun x y h=>?_) (List.nodup_range.filter _);omega
theorem upI_child{ps:List Int}{n:Nat}(hp:∀j,j<n->ps.getD j 0<j):∀(m:Nat) (b:Int),b<m->b<n->∀x∈upI ps b,x=b∨∃j:Nat,j<n/\ps.getD j 0=x
 | 0,b,hm,_,x,hx=>by
  rw[upI_neg (by omega)] at hx;simp at hx
 | m+1,b,hm,hb,x,hx=>by
  by_cases h0:0<=b
  .have h1:=hp b.toNat (by omega);have h1':ps.getD b.toNat 0<b:=by omega
   rw[upI_up h0 h1'] at hx;rcases List.mem_cons.1 hx with hx|hx
   .exact .inl hx
   .rcases upI_child hp m _ (by omega) (by omega) x hx with h|h
    .exact .inr ⟨b.toNat,by omega,h.symm⟩
    .exact .inr h
  .rw[upI_neg (by omega)] at hx;simp at hx
theorem isB_self{t:Ty}{a:Int}(h0:0<=a)(ha:a<t.nodes.length)(hp:∀j,j<t.nodes.length->(t.nd j).par<j):isB t a a=true:=by
 have h1:=hp a.toNat (by omega);rw[<-pars_getD t (by omega)] at h1;unfold isB;rw[upI_up h0 (by omega)];simp
theorem below_leaf{t:Ty}{a:Int}(h0:0<=a)(ha:a<t.nodes.length)(hp:∀j,j<t.nodes.length->(t.nd j).par<j):(belK t a t.nodes.length).length<=1↔leafB t a=true:=by
 have hp2:∀j,j<t.nodes.length->t.pars.getD j 0<j:=fun j hj=>by rw[pars_getD t hj];exact hp j hj
 have hself:=isB_self h0 ha hp;have hm1:a∈belK t a t.nodes.length:=belK_mem.2 ⟨a.toNat,by omega,by rw[Int.toNat_of_nonneg h0];exact hself,by omega⟩
 constructor
 .intro hl;cases hb:leafB t a with
  | true=>rfl
  | false =>
   exfalso
   unfold leafB anyB at hb;rw[Bool.not_eq_false'] at hb;obtain⟨n,hn,hpar⟩:=List.any_eq_true.1 hb;obtain⟨j,hj,rfl⟩:=List.getElem_of_mem hn;have hpj:t.pars.getD j 0=a:=by
    rw[pars_getD t hj,nd_at hj];simpa using hpar
   have hlt:=hp2 j hj;have hmj:(j:Int)∈belK t a t.nodes.length:=belK_mem.2 ⟨j,hj,by
    unfold isB;rw[upI_up (by omega) (by rw[Int.toNat_natCast];omega),Int.toNat_natCast,hpj];have:a∈upI t.pars a:=by simpa[isB] using hself
    simp[this],rfl⟩
   have:=nodup_le [a,(j:Int)] _ (by simp;omega) (fun x hx=>by
    simp only[List.mem_cons,List.not_mem_nil,or_false] at hx;rcases hx with rfl|rfl
    .exact hm1
    .exact hmj)
   simp only[List.length_cons,List.length_nil] at this;omega
 .intro hb;have:=nodup_le (belK t a t.nodes.length) [a] (belK_nodup _ _ _) (fun x hx=>by
   obtain⟨b,hbn,hbs,rfl⟩:=belK_mem.1 hx;have hbs:a∈upI t.pars (b:Int):=by simpa[isB] using hbs
   rcases upI_child hp2 (b+1) b (by omega) (by omega) a hbs with h|⟨j,hj,h⟩
   .simp[h]
   .exfalso
    unfold leafB anyB at hb;rw[Bool.not_eq_true',<-Bool.not_eq_true,List.any_eq_true] at hb;refine hb ⟨_,List.getElem_mem hj,?_⟩;rw[pars_getD t hj,nd_at hj] at h;simpa using h)
  simpa using this
structure Xt where
 m:Mo
 g:Gr
structure Co where
 name:ByteArray
 kind:Int
 g:Gr
 exts:List Xt
abbrev Xt.cells(x:Xt):List D:=[ints x.m.nodes,ints x.m.edges,ints x.g.nodes,AM.edges x.g.edges]
abbrev xts(l:List Xt):D:=.sl 4 (l.map Xt.cells)
abbrev Xt.av(x:Xt):AV:=.agg [.d (ints x.m.nodes),.d (ints x.m.edges),.d (ints x.g.nodes),.d (AM.edges x.g.edges)]
abbrev Co.row(c:Co):List AV:=[Sb c.name,I c.kind,.d (ints c.g.nodes),.d (AM.edges c.g.edges),.d (xts c.exts)]
abbrev Co.av(c:Co):AV:=.agg c.row
structure Xt.Fit (x:Xt):Prop where
 m:x.m.Fit
 g:x.g.Fit
structure Co.Fit (c:Co):Prop where
 name:c.name.size<=200000000000000
 g:c.g.Fit
 n:c.exts.length<=1000000
 exts:∀x∈c.exts,x.Fit
def lrgB(g:Gr):Bool:=if 6<g.nodes.length then true else decide (8<g.edges.length)
def xtE(p:Gr)(x:Xt):Int:=if validM p x.g x.m≠0 then validM p x.g x.m else if lrgB x.g=true then 3 else if injM p x.g x.m=true then 0 else 1
def xtAt(c:Co)(i:Nat):Int:=match c.exts[i]? with|some x=>xtE c.g x|none=>0
theorem xtAt_at{c:Co}{i:Nat}(h:i<c.exts.length):xtAt c i=xtE c.g c.exts[i]:=by simp[xtAt,h]
def kdE(c:Co):Int :=
 if c.kind=1 then if c.exts=[] then 0 else 1 else if c.kind=2 then if c.exts=[] then 7 else if 6<c.exts.length then 3 else 0 else 1
def shpE(c:Co):Int :=
 if nameB c.name=false then 2 else if kdE c≠0 then kdE c else if vG c.g≠0 then vG c.g else if lrgB c.g=true then 3 else firstE (xtAt c) c.exts.length
def lvX(t:Ty)(c:Co):Bool:=if lvsB t c.g=true then allP (fun x:Xt=>lvsB t x.g) c.exts else false
def cnE(t:Ty)(c:Co):Int:=if tyE t≠0 then tyE t else if shpE c≠0 then shpE c else if lvX t c=true then 0 else 13
theorem shpE_zero{c:Co}(h:shpE c=0):nameB c.name=true/\kdE c=0/\vG c.g=0/\lrgB c.g=false/\∀x∈c.exts,validM c.g x.g x.m=0/\lrgB x.g=false/\injM c.g x.g x.m=true:=by
 unfold shpE at h;split at h
 .cases h
 rename_i h1;split at h
 .rename_i h2;exact absurd h h2
 rename_i h2;split at h
 .rename_i h3;exact absurd h h3
 rename_i h3;split at h
 .cases h
 rename_i h4;refine⟨by simpa using h1,by simpa using h2,by simpa using h3,by simpa using h4,fun x hx=>?_⟩;obtain⟨i,hi,rfl⟩:=List.getElem_of_mem hx;have h5:=firstE_allZ _ h i hi;rw[xtAt_at hi] at h5;unfold xtE at h5;split at h5
 .rename_i h6;exact absurd h5 h6
 rename_i h6;split at h5
 .cases h5
 rename_i h7;split at h5
 .rename_i h8;exact⟨by simpa using h6,by simpa using h7,h8⟩
 .cases h5
theorem leafK1_c(x:NT)(y:Int)(box:Bxs)(nb k:Nat)(tok:Tks)(nt:Nat)(h1:box k=some [[I y]]):
  ACalls prog 278 [x.av,.ptr k 0 0] ⟨box,nb,tok,nt⟩ fun v m=>v=B (x.par==y)/\m=⟨box,nb,tok,nt⟩:=by
 refine sI func278 ntmps278 fun Hb Ht=>?_
 have k1n:=key_lt Hb h1;repeat first|simp[lO k1n,h1]|refine sR ?_
 refine sT (sH Hb Ht ?_);simp
theorem leafK_c(t:Ty)(ht:t.nodes.length<=1000000)(k:Int):DC 232 [t.av,I k] (B (leafB t k)):=by
 intro tok nt box nb;obtain⟨p,hpp⟩:∃p:NT->Bool,(fun n=>n.par==k)=p:=⟨_,rfl⟩
 have h2:=fun y box nb q hbk=>leafK1_c y k box nb q tok nt hbk
 have hpy:∀y:NT,(y.par==k)=p y:=fun y=>by rw[<-hpp]
 simp only[hpy] at h2;unfold leafB;rw[hpp];refine sI func232 ntmps232 fun Hb Ht=>?_
 repeat first|simp|refine sR ?_
 refine Stop.of_b (containsFuncN_c t.nodes 278 [.ptr (nb+3) 0 0] p ht _ _ _ _ (fun c hc=>by rw[List.mem_singleton.1 hc];simp[lb_at]) (fun y hy box' nb' he=>h2 y box' nb' _ (he _ _ (by simp[lb_at])))) ?_;repeat first|simp|refine sR ?_
 refine sT (sH Hb Ht ?_);simp
theorem leavesK1_c(t:Ty)(ht:t.Fit)(g:Gr)(e:E)(h0:0<=e.fr/\e.fr<g.nodes.length)(h2:0<=e.to/\e.to<g.nodes.length)(box:Bxs)(nb k1 k2:Nat)(tok:Tks)(nt:Nat)(h1:box k1=some [[.d (nts t.nodes),.d (ets t.edges)]])(h3:box k2=some [[.d (ints g.nodes),.d (AM.edges g.edges)]]):
  ACalls prog 233 [.agg [I e.ty,I e.fr,I e.to],.ptr k1 0 0,.ptr k2 0 0] ⟨box,nb,tok,nt⟩ fun v m=>v=B (!lvE t g e)/\m=⟨box,nb,tok,nt⟩:=by
 obtain⟨ty,fr,to'⟩:=e;simp only at h0 h2;obtain⟨a,rfl⟩:=Int.eq_ofNat_of_zero_le h0.1;obtain⟨b,rfl⟩:=Int.eq_ofNat_of_zero_le h2.1;have ha:a<g.nodes.length:=by omega
 have hb:b<g.nodes.length:=by omega
 have hc:=fits_c4 t ht ty g.nodes[a] g.nodes[b];have hL:lvE t g ⟨ty,a,b⟩=fitB t ty g.nodes[a] g.nodes[b]:=by simp[lvE,ha,hb]
 rw[hL];generalize fitB t ty g.nodes[a] g.nodes[b]=R at *;refine sI func233 ntmps233 fun Hb Ht=>?_
 have k1n:=key_lt Hb h1;have k2n:=key_lt Hb h3;repeat first|simp[lO k1n,lO k2n,h1,h3,ha,hb]|refine sR ?_
 refine sD (hc _ _) ?_;repeat first|simp|refine sR ?_
 refine sT (sH Hb Ht ?_);simp
def stKv(t:Ty)(g:Gr)(nb:Nat)(box:Bxs)(tok:Tks)(nt:Nat)(i:Nat):AS :=
 ⟨tl [(10,I i),(9,I g.nodes.length),(8,.d (ints g.nodes)),(3,.ptr (nb+3) 0 0),(2,.ptr (nb+2) 0 0)],lb nb box [(3,[[.d (ints g.nodes),.d (AM.edges g.edges)]]),(2,[[.d (nts t.nodes),.d (ets t.edges)]])],tok,nt⟩
theorem leavesK_c(t:Ty)(ht:t.Fit)(g:Gr)(hg:g.Fit)(hv:∀e∈g.edges,0<=e.fr/\e.fr<g.nodes.length/\0<=e.to/\e.to<g.nodes.length):DC 167 [t.av,g.av] (B (lvsB t g)):=by
 intro tok nt box nb;have hgn:=hg.n;have hge:=hg.e;have htn:=ht.n;obtain⟨N,hN⟩:∃N,lvsB t g=N:=⟨_,rfl⟩
 rw[hN];unfold lvsB at hN;refine sI func167 ntmps167 fun Hb Ht=>?_
 repeat first|simp|refine sR ?_
 refine sN ?_;refine sL (stKv t g nb box tok nt) (fun i=>i<=g.nodes.length/\allP (lvN t) (g.nodes.take i)=true) (fun i=>g.nodes.length-i) 0 ⟨Nat.zero_le _,by simp[allP]⟩ wkA ?_;rintro i S' ⟨hi,hok⟩ hS;simp only[stKv] at hS;subst hS;have hw:=sW (i:=i) (by omega);repeat first|simp|refine sR ?_|refine sC ?_
 refine⟨fun hlt=>?_,fun hge=>?_⟩
 .have hno:=fun h=>all_no (p:=lvN t) hlt h
  have hyes:=fun h=>all_more (p:=lvN t) hlt hok h
  have hl:lvN t g.nodes[i]=if (t.nodes.length:Int)<=g.nodes[i] then false else leafB t g.nodes[i]:=rfl
  have hc:=leafK_c t (by omega) g.nodes[i];by_cases e1:(t.nodes.length:Int)<=g.nodes[i]
  .rw[if_pos e1] at hl;rw[hno hl,if_neg (by simp)] at hN;repeat first|simp[hlt,e1]|refine sR ?_
   refine sC ?_;simp[e1];repeat first|simp|refine sR ?_
   refine sT (sH Hb Ht ?_);simp[<-hN]
  .rw[if_neg e1] at hl;repeat first|simp[hlt,e1]|refine sR ?_
   refine sD (hc _ _) ?_;simp;cases e2:leafB t g.nodes[i]
   .rw[e2] at hl;rw[hno hl,if_neg (by simp)] at hN;repeat first|simp|refine sR ?_
    refine sC ?_;repeat first|simp|refine sR ?_
    refine sT (sH Hb Ht ?_);simp[<-hN]
   .rw[e2] at hl;repeat first|simp[hw]|refine sR ?_|refine sC ?_
    refine sE ?_;exact⟨i+1,⟨hlt,hyes hl⟩,by omega,wkA⟩
 .refine sX ?_;simp only[AU,↓reduceIte];have:i=g.nodes.length:=by omega
  subst this;rw[List.take_length] at hok;rw[if_pos hok] at hN;obtain⟨p,hpp⟩:∃p:E->Bool,(fun e=>!lvE t g e)=p:=⟨_,rfl⟩
  have h2:=fun y (hy:y∈g.edges) box nb k1 k2 hk1 hk2=>leavesK1_c t ht g y ⟨(hv y hy).1,(hv y hy).2.1⟩ ⟨(hv y hy).2.2.1,(hv y hy).2.2.2⟩ box nb k1 k2 tok nt hk1 hk2
  have hpy:∀y:E,(!lvE t g y)=p y:=fun y=>by rw[<-hpp]
  simp only[hpy] at h2;have hN2:(!anyB p g.edges)=N:=by
   rw[<-hN,<-hpp,allP,anyB,List.any_eq_not_all_not,Bool.not_not];simp
  repeat first|simp|refine sR ?_
  have hcap:∀c∈[AV.ptr (nb+2) 0 0,AV.ptr (nb+3) 0 0],OkIn (fun k=>(lb nb box [(3,[[.d (ints g.nodes),.d (AM.edges g.edges)]]),(2,[[.d (nts t.nodes),.d (ets t.edges)]])]) k≠none) (fun _=>True) c:=by
   intro c hc;simp only[List.mem_cons,List.not_mem_nil,or_false] at hc;rcases hc with h|h
   .rw[h];simp[lb_at]
   .rw[h];simp[lb_at]
  refine Stop.of_b (containsFuncE_c g.edges 233 [.ptr (nb+2) 0 0,.ptr (nb+3) 0 0] p hg.e _ _ _ _ hcap (fun y hy box' nb' he=>h2 y hy box' nb' _ _ (he _ _ (by simp[lb_at])) (he _ _ (by simp[lb_at])))) ?_;repeat first|simp|refine sR ?_
  refine sT (sH Hb Ht ?_);simp[<-hN2]
def stKr(t:Ty)(k:Int)(nb:Nat)(box:Bxs)(tok:Tks)(nt:Nat)(i:Nat):AS :=
 ⟨tl [(5,I i),(1,I k),(2,.ptr (nb+2) 0 0)],lb nb box [(2,[[.d (nts t.nodes),.d (ets t.edges)]])],tok,nt⟩
theorem leafS_c(t:Ty)(ht:t.nodes.length<=1000000)(k:Int):DC 101 [t.av,I k] (B (leafB t k)):=by
 intro tok nt box nb;obtain⟨N,hN⟩:∃N,leafB t k=N:=⟨_,rfl⟩
 rw[hN];have hN2:allP (fun n=>!(n.par==k)) t.nodes=N:=by rw[<-hN,allP,leafB,anyB,List.any_eq_not_all_not,Bool.not_not]
 clear hN;refine sI func101 ntmps101 fun Hb Ht=>?_
 repeat first|simp|refine sR ?_
 refine sN ?_;refine sL (stKr t k nb box tok nt) (fun i=>i<=t.nodes.length/\allP (fun n=>!(n.par==k)) (t.nodes.take i)=true) (fun i=>t.nodes.length-i) 0 ⟨Nat.zero_le _,by simp[allP]⟩ wkA ?_;rintro i S' ⟨hi,hok⟩ hS;simp only[stKr] at hS;subst hS;have hw:=sW (i:=i) (by omega);repeat first|simp|refine sR ?_|refine sC ?_
 refine⟨fun hlt=>?_,fun hge=>?_⟩
 .have hno:=fun h=>all_no (p:=fun n:NT=>!(n.par==k)) hlt h
  have hyes:=fun h=>all_more (p:=fun n:NT=>!(n.par==k)) hlt hok h
  cases e1:t.nodes[i].par==k
  .repeat first|simp[hlt,e1]|refine sR ?_
   refine sC ?_;simp[e1];repeat first|simp[hw]|refine sR ?_
   refine sE ?_;exact⟨i+1,⟨hlt,hyes (by simp only[e1];rfl)⟩,by omega,wkA⟩
  .rw[hno (by simp only[e1];rfl)] at hN2;repeat first|simp[hlt,e1]|refine sR ?_
   refine sC ?_;simp[e1];repeat first|simp|refine sR ?_
   refine sT (sH Hb Ht ?_);simp[<-hN2]
 .refine sX ?_;simp only[AU,↓reduceIte];have:i=t.nodes.length:=by omega
  subst this;rw[List.take_length] at hok;rw[hok] at hN2;repeat first|simp|refine sR ?_
  refine sT (sH Hb Ht ?_);simp[<-hN2]
def stIX(xs:List Xt)(f:FuncId)(caps:List AV)(nb:Nat)(box:Bxs)(tok:Tks)(nt:Nat)(i:Nat):AS:=⟨tl [(0,.d (xts xs)),(1,.fn (.func f) caps),(7,I xs.length),(8,I i)],lb nb box [],tok,nt⟩
theorem indexFuncX_c(xs:List Xt)(f:FuncId)(caps:List AV)(p:Xt->Bool)(hx:xs.length<=1000000)(box:Bxs)(nb:Nat)(tok:Tks)(nt:Nat)(hc:∀c∈caps,OkIn (fun k=>box k≠none) (fun _=>True) c)(hf:∀x∈xs,∀box' nb',Ext box box'->ACalls prog f (x.av::caps) ⟨box',nb',tok,nt⟩ fun v m=>v=B (p x)/\m=⟨box',nb',tok,nt⟩):
  ACalls prog 234 [.d (xts xs),.fn (.func f) caps] ⟨box,nb,tok,nt⟩ fun v m=>v=I (if anyB p xs=true then (xs.findIdx p:Nat) else -1)/\m=⟨box,nb,tok,nt⟩:=by
 refine sI func234 ntmps234 fun Hb Ht=>?_
 repeat first|simp|refine sR ?_
 refine sN ?_;refine sL (stIX xs f caps nb box tok nt) (fun i=>i<=xs.length/\∀x∈xs.take i,p x=false) (fun i=>xs.length-i) 0 ⟨Nat.zero_le _,by simp⟩ (wM (nr _) rfl (by simp[ToL];exact .same (okFn hc Hb [] (by simp) rfl _)) trivial) ?_;rintro i S' ⟨hi,htk⟩ hS;simp only[stIX] at hS;subst hS;have hw:=sW (i:=i) (by omega);repeat first|simp|refine sR ?_|refine sC ?_
 refine⟨fun hlt=>?_,fun hge=>?_⟩
 .have hfx:=hf xs[i] (List.getElem_mem _);have hpx:p xs[i]=true->anyB p xs=true/\(xs.findIdx p=i):=fun he=>any_takeG hlt htk he
  have hmore:p xs[i]=false->∀x∈xs.take (i+1),p x=false:=fun he x hx=>by
   rw[List.take_succ_eq_append_getElem hlt] at hx;rcases List.mem_append.1 hx with hx|hx
   .exact htk x hx
   .simp at hx;rw[hx];exact he
  repeat first|simp[hlt]|refine sR ?_
  generalize xs[i]=x at *;refine Stop.of_b (hfx _ _ ((Ext.refl box).lb Hb [])) ?_;simp;cases he:p x
  .refine sC ?_;simp;repeat first|simp[hw]|refine sR ?_
   refine sE ?_;refine⟨i+1,⟨hlt,?_⟩,by omega,wM (nr _) rfl (by simp[ToL];exact .same (okFn hc Hb [] (by simp) rfl _)) trivial⟩;exact hmore he
  .obtain⟨h1,h2⟩:=hpx he;refine sC ?_;repeat first|simp|refine sR ?_
   refine sT (sH Hb Ht ?_);simp[h1,h2]
 .have hn:anyB p xs=false:=by
   rw[List.take_of_length_le hge] at htk;simpa[anyB] using htk
  refine sX ?_;simp only[AU,↓reduceIte];repeat first|simp|refine sR ?_
  refine sT (sH Hb Ht ?_);simp[hn]
theorem containsFuncX_c(xs:List Xt)(f:FuncId)(caps:List AV)(p:Xt->Bool)(hx:xs.length<=1000000)(box:Bxs)(nb:Nat)(tok:Tks)(nt:Nat)(hc:∀c∈caps,OkIn (fun k=>box k≠none) (fun _=>True) c)(hf:∀x∈xs,∀box' nb',Ext box box'->ACalls prog f (x.av::caps) ⟨box',nb',tok,nt⟩ fun v m=>v=B (p x)/\m=⟨box',nb',tok,nt⟩):
  ACalls prog 168 [.d (xts xs),.fn (.func f) caps] ⟨box,nb,tok,nt⟩ fun v m=>v=B (anyB p xs)/\m=⟨box,nb,tok,nt⟩:=by
 obtain⟨A,hany⟩:∃A,anyB p xs=A:=⟨_,rfl⟩
 have hi:=fun b nb' h1 h2=>indexFuncX_c xs f caps p hx b nb' tok nt h1 h2
 rw[hany];simp only[hany] at hi;refine sI func168 ntmps168 fun Hb Ht=>?_
 repeat first|simp|refine sR ?_
 refine Stop.of_b (hi (lb nb box []) _ (fun c h=>(hc c h).mono (fun k hk=>by rw[Hb];exact hk) fun _ h=>h) (fun x hx' box' nb' he=>hf x hx' box' nb' (by rw[Hb] at he;exact he))) ?_;simp;cases A
 .repeat first|simp|refine sR ?_
  refine sT (sH Hb Ht ?_);simp
 .have h0:(0:Int)<=(xs.findIdx p:Nat):=by omega
  repeat first|simp|refine sR ?_
  refine sT (sH Hb Ht ?_);simp[h0]
theorem lrgK_c(g:Gr)(hg:g.Fit):DC 195 [g.av] (B (lrgB g)):=by
 intro tok nt box nb;have hn:=hg.n;have he:=hg.e;obtain⟨N,hN⟩:∃N,lrgB g=N:=⟨_,rfl⟩
 rw[hN];unfold lrgB at hN;by_cases e1:6<g.nodes.length
 .have e1':(6:Int)<g.nodes.length:=by omega
  rw[if_pos e1] at hN;refine sI func195 ntmps195 fun Hb Ht=>?_
  try (simp[e1,e1'])
  repeat (first|(refine sR ?_;simp[e1,e1'])|(refine sC ?_;simp[e1,e1'])|(refine sX ?_;simp only[AU,↓reduceIte]))
  refine sT (sH Hb Ht ?_);simp[<-hN]
 .have e1':¬(6:Int)<g.nodes.length:=by omega
  rw[if_neg e1] at hN;by_cases e2:8<g.edges.length
  .have e2':(8:Int)<g.edges.length:=by omega
   rw[decide_eq_true e2] at hN;refine sI func195 ntmps195 fun Hb Ht=>?_
   try (simp[e1,e1',e2,e2'])
   repeat (first|(refine sR ?_;simp[e1,e1',e2,e2'])|(refine sC ?_;simp[e1,e1',e2,e2'])|(refine sX ?_;simp only[AU,↓reduceIte]))
   refine sT (sH Hb Ht ?_);simp[<-hN,e2']
  .have e2':¬(8:Int)<g.edges.length:=by omega
   rw[decide_eq_false e2] at hN;refine sI func195 ntmps195 fun Hb Ht=>?_
   try (simp[e1,e1',e2,e2'])
   repeat (first|(refine sR ?_;simp[e1,e1',e2,e2'])|(refine sC ?_;simp[e1,e1',e2,e2'])|(refine sX ?_;simp only[AU,↓reduceIte]))
   refine sT (sH Hb Ht ?_);simp[<-hN,e2']
theorem kd_cases(c:Co):(c.kind=1/\c.exts=[]/\kdE c=0)∨(c.kind=1/\c.exts≠[]/\kdE c=1)∨(c.kind=2/\c.exts=[]/\kdE c=7)∨(c.kind=2/\c.exts≠[]/\6<c.exts.length/\kdE c=3)∨(c.kind=2/\c.exts≠[]/\¬6<c.exts.length/\kdE c=0)∨(c.kind≠1/\c.kind≠2/\kdE c=1):=by
 unfold kdE;by_cases h1:c.kind=1
 .by_cases h2:c.exts=[]<;>simp[h1,h2]
 .by_cases h2:c.kind=2
  .by_cases h3:c.exts=[]
   .simp[h2,h3]
   .by_cases h4:6<c.exts.length<;>simp[h2,h3,h4]
  .simp[h1,h2]
def stSx(c:Co)(nb:Nat)(box:Bxs)(tok:Tks)(nt:Nat)(i:Nat):AS :=
 ⟨tl [(59,I i),(58,I c.exts.length),(57,.d (xts c.exts)),(1,.ptr (nb+1) 0 0)],lb nb box [(1,[c.row])],tok,nt⟩
theorem shpK_c(c:Co)(hc:c.Fit):DC 124 [c.av] (I (shpE c)):=by
 intro tok nt box nb;have h1:=isName_c c.name hc.name;have h2:=graphValid_c c.g hc.g;have h3:=lrgK_c c.g hc.g;have hxn:=hc.n;obtain⟨N,hN⟩:∃N,shpE c=N:=⟨_,rfl⟩
 rw[hN];unfold shpE at hN;generalize nameB c.name=B1 at *;generalize vG c.g=E2 at *;generalize lrgB c.g=B3 at *;cases B1
 .rw[if_pos rfl] at hN;refine sI func124 ntmps124 fun Hb Ht=>?_
  repeat first|simp|refine sR ?_
  refine sD (h1 _ _) ?_;simp;try (simp)
  repeat (first|(refine sR ?_;simp)|(refine sC ?_;simp)|(refine sX ?_;simp only[AU,↓reduceIte]))
  refine sT (sH Hb Ht ?_);simp[<-hN]
 .rw[if_neg (by simp)] at hN;have xp:=fun (h:c.exts≠[])=>List.length_pos_iff.2 h
  rcases kd_cases c with ⟨k1,x1,kd⟩|⟨k1,x1,kd⟩|⟨k1,x1,kd⟩|⟨k1,x1,x2,kd⟩|⟨k1,x1,x2,kd⟩|⟨k1,k2,kd⟩
  .rw[if_neg (by rw[kd];decide)] at hN;refine sI func124 ntmps124 fun Hb Ht=>?_
   repeat first|simp|refine sR ?_
   refine sD (h1 _ _) ?_;simp;try (simp[k1,x1])
   repeat (first|(refine sR ?_;simp[k1,x1])|(refine sC ?_;simp[k1,x1])|(refine sX ?_;simp only[AU,↓reduceIte]))
   refine sD (h2 _ _) ?_;repeat first|simp|refine sR ?_
   by_cases v0:E2=0
   .rw[if_neg (by simp[v0])] at hN;refine sC ?_;simp[v0];repeat first|simp|refine sR ?_
    refine sD (h3 _ _) ?_;simp;cases B3
    .rw[if_neg (by simp)] at hN;repeat first|simp|refine sR ?_
     refine sC ?_;repeat first|simp|refine sR ?_
     refine sN ?_;refine sL (stSx c nb box tok nt) (fun i=>i<=c.exts.length/\firstE (xtAt c) i=0) (fun i=>c.exts.length-i) 0 ⟨Nat.zero_le _,rfl⟩ wkA ?_;rintro i S' ⟨hi,hok⟩ hS;simp only[stSx] at hS;subst hS;have hw:=sW (i:=i) (by omega);repeat first|simp|refine sR ?_|refine sC ?_
     refine⟨fun hlt=>?_,fun hge=>?_⟩
     .have hx:=hc.exts _ (List.getElem_mem hlt);have hR:xtAt c i≠0->firstE (xtAt c) c.exts.length=xtAt c i:=fun h0=>firstE_stop hok h0 _ hlt
      have hnx:xtAt c i=0->firstE (xtAt c) (i+1)=0:=fun h0=>by simp only[firstE,hok,h0,↓reduceIte]
      have hd:xtAt c i=xtE c.g c.exts[i]:=xtAt_at hlt
      unfold xtE at hd;have c1:=valid51_c c.g c.exts[i].g c.exts[i].m hc.g hx.g;have c2:=lrgK_c c.exts[i].g hx.g;have c3:=injective56_c c.g c.exts[i].g c.exts[i].m hc.g hx.g hx.m;generalize xtAt c i=E at *;repeat first|simp[hlt]|refine sR ?_
      refine sD (c1 _ _) ?_;repeat first|simp|refine sR ?_
      by_cases f1:validM c.g c.exts[i].g c.exts[i].m=0
      .rw[if_neg (by simp[f1])] at hd;simp only[f1];refine sC ?_;repeat first|simp|refine sR ?_
       refine sD (c2 _ _) ?_;simp;cases f2:lrgB c.exts[i].g
       .rw[f2,if_neg (by simp)] at hd;repeat first|simp|refine sR ?_
        refine sC ?_;repeat first|simp|refine sR ?_
        refine sD (c3 _ _) ?_;simp;cases f3:injM c.g c.exts[i].g c.exts[i].m
        .rw[f3,if_neg (by simp)] at hd;rw[hR (by rw[hd];decide),hd] at hN;repeat first|simp|refine sR ?_
         refine sC ?_;repeat first|simp|refine sR ?_
         refine sT (sH Hb Ht ?_);simp[<-hN]
        .rw[f3,if_pos rfl] at hd;repeat first|simp[hw]|refine sR ?_|refine sC ?_
         refine sE ?_;exact⟨i+1,⟨hlt,hnx hd⟩,by omega,wkA⟩
       .rw[f2,if_pos rfl] at hd;rw[hR (by rw[hd];decide),hd] at hN;repeat first|simp|refine sR ?_
        refine sC ?_;repeat first|simp|refine sR ?_
        refine sT (sH Hb Ht ?_);simp[<-hN]
      .rw[if_pos f1] at hd;have b1:(validM c.g c.exts[i].g c.exts[i].m != 0)=true:=by simp[f1]
       rw[hR (by rw[hd];exact f1),hd] at hN;simp only[b1];refine sC ?_;repeat first|simp|refine sR ?_
       refine sT (sH Hb Ht ?_);simp[<-hN]
     .refine sX ?_;simp only[AU,↓reduceIte];have:i=c.exts.length:=by omega
      subst this;rw[hok] at hN;repeat first|simp|refine sR ?_
      refine sT (sH Hb Ht ?_);simp[<-hN]
    .rw[if_pos rfl] at hN;repeat first|simp|refine sR ?_
     refine sC ?_;repeat first|simp|refine sR ?_
     refine sT (sH Hb Ht ?_);simp[<-hN]
   .have b0:(E2 != 0)=true:=by simp[v0]
    rw[if_pos v0] at hN;refine sC ?_;simp[v0,b0];repeat first|simp|refine sR ?_
    refine sT (sH Hb Ht ?_);simp[<-hN]
  .rw[if_pos (by rw[kd];decide),kd] at hN;have x1':=xp x1
   refine sI func124 ntmps124 fun Hb Ht=>?_
   repeat first|simp|refine sR ?_
   refine sD (h1 _ _) ?_;simp;try (simp[k1,x1,x1'])
   repeat (first|(refine sR ?_;simp[k1,x1,x1'])|(refine sC ?_;simp[k1,x1,x1'])|(refine sX ?_;simp only[AU,↓reduceIte]))
   refine sT (sH Hb Ht ?_);simp[<-hN]
  .rw[if_pos (by rw[kd];decide),kd] at hN;refine sI func124 ntmps124 fun Hb Ht=>?_
   repeat first|simp|refine sR ?_
   refine sD (h1 _ _) ?_;simp;try (simp[k1,x1])
   repeat (first|(refine sR ?_;simp[k1,x1])|(refine sC ?_;simp[k1,x1])|(refine sX ?_;simp only[AU,↓reduceIte]))
   refine sT (sH Hb Ht ?_);simp[<-hN]
  .rw[if_pos (by rw[kd];decide),kd] at hN;have x2':(6:Int)<c.exts.length:=by omega
   refine sI func124 ntmps124 fun Hb Ht=>?_
   repeat first|simp|refine sR ?_
   refine sD (h1 _ _) ?_;simp;try (simp[k1,x1,x2,x2'])
   repeat (first|(refine sR ?_;simp[k1,x1,x2,x2'])|(refine sC ?_;simp[k1,x1,x2,x2'])|(refine sX ?_;simp only[AU,↓reduceIte]))
   refine sT (sH Hb Ht ?_);simp[<-hN]
  .rw[if_neg (by rw[kd];decide)] at hN;have x2':¬(6:Int)<c.exts.length:=by omega
   refine sI func124 ntmps124 fun Hb Ht=>?_
   repeat first|simp|refine sR ?_
   refine sD (h1 _ _) ?_;simp;try (simp[k1,x1,x2,x2'])
   repeat (first|(refine sR ?_;simp[k1,x1,x2,x2'])|(refine sC ?_;simp[k1,x1,x2,x2'])|(refine sX ?_;simp only[AU,↓reduceIte]))
   refine sD (h2 _ _) ?_;repeat first|simp|refine sR ?_
   by_cases v0:E2=0
   .rw[if_neg (by simp[v0])] at hN;refine sC ?_;simp[v0];repeat first|simp|refine sR ?_
    refine sD (h3 _ _) ?_;simp;cases B3
    .rw[if_neg (by simp)] at hN;repeat first|simp|refine sR ?_
     refine sC ?_;repeat first|simp|refine sR ?_
     refine sN ?_;refine sL (stSx c nb box tok nt) (fun i=>i<=c.exts.length/\firstE (xtAt c) i=0) (fun i=>c.exts.length-i) 0 ⟨Nat.zero_le _,rfl⟩ wkA ?_;rintro i S' ⟨hi,hok⟩ hS;simp only[stSx] at hS;subst hS;have hw:=sW (i:=i) (by omega);repeat first|simp|refine sR ?_|refine sC ?_
     refine⟨fun hlt=>?_,fun hge=>?_⟩
     .have hx:=hc.exts _ (List.getElem_mem hlt);have hR:xtAt c i≠0->firstE (xtAt c) c.exts.length=xtAt c i:=fun h0=>firstE_stop hok h0 _ hlt
      have hnx:xtAt c i=0->firstE (xtAt c) (i+1)=0:=fun h0=>by simp only[firstE,hok,h0,↓reduceIte]
      have hd:xtAt c i=xtE c.g c.exts[i]:=xtAt_at hlt
      unfold xtE at hd;have c1:=valid51_c c.g c.exts[i].g c.exts[i].m hc.g hx.g;have c2:=lrgK_c c.exts[i].g hx.g;have c3:=injective56_c c.g c.exts[i].g c.exts[i].m hc.g hx.g hx.m;generalize xtAt c i=E at *;repeat first|simp[hlt]|refine sR ?_
      refine sD (c1 _ _) ?_;repeat first|simp|refine sR ?_
      by_cases f1:validM c.g c.exts[i].g c.exts[i].m=0
      .rw[if_neg (by simp[f1])] at hd;simp only[f1];refine sC ?_;repeat first|simp|refine sR ?_
       refine sD (c2 _ _) ?_;simp;cases f2:lrgB c.exts[i].g
       .rw[f2,if_neg (by simp)] at hd;repeat first|simp|refine sR ?_
        refine sC ?_;repeat first|simp|refine sR ?_
        refine sD (c3 _ _) ?_;simp;cases f3:injM c.g c.exts[i].g c.exts[i].m
        .rw[f3,if_neg (by simp)] at hd;rw[hR (by rw[hd];decide),hd] at hN;repeat first|simp|refine sR ?_
         refine sC ?_;repeat first|simp|refine sR ?_
         refine sT (sH Hb Ht ?_);simp[<-hN]
        .rw[f3,if_pos rfl] at hd;repeat first|simp[hw]|refine sR ?_|refine sC ?_
         refine sE ?_;exact⟨i+1,⟨hlt,hnx hd⟩,by omega,wkA⟩
       .rw[f2,if_pos rfl] at hd;rw[hR (by rw[hd];decide),hd] at hN;repeat first|simp|refine sR ?_
        refine sC ?_;repeat first|simp|refine sR ?_
        refine sT (sH Hb Ht ?_);simp[<-hN]
      .rw[if_pos f1] at hd;have b1:(validM c.g c.exts[i].g c.exts[i].m != 0)=true:=by simp[f1]
       rw[hR (by rw[hd];exact f1),hd] at hN;simp only[b1];refine sC ?_;repeat first|simp|refine sR ?_
       refine sT (sH Hb Ht ?_);simp[<-hN]
     .refine sX ?_;simp only[AU,↓reduceIte];have:i=c.exts.length:=by omega
      subst this;rw[hok] at hN;repeat first|simp|refine sR ?_
      refine sT (sH Hb Ht ?_);simp[<-hN]
    .rw[if_pos rfl] at hN;repeat first|simp|refine sR ?_
     refine sC ?_;repeat first|simp|refine sR ?_
     refine sT (sH Hb Ht ?_);simp[<-hN]
   .have b0:(E2 != 0)=true:=by simp[v0]
    rw[if_pos v0] at hN;refine sC ?_;simp[v0,b0];repeat first|simp|refine sR ?_
    refine sT (sH Hb Ht ?_);simp[<-hN]
  .rw[if_pos (by rw[kd];decide),kd] at hN;have b1:(c.kind==1)=false:=by simp[k1]
   have b2:(c.kind==2)=false:=by simp[k2]
   have b3:(c.kind != 1)=true:=by simp[k1]
   have b4:(c.kind != 2)=true:=by simp[k2]
   refine sI func124 ntmps124 fun Hb Ht=>?_
   repeat first|simp|refine sR ?_
   refine sD (h1 _ _) ?_;simp;try (simp[k1,k2,b1,b2,b3,b4])
   repeat (first|(refine sR ?_;simp[k1,k2,b1,b2,b3,b4])|(refine sC ?_;simp[k1,k2,b1,b2,b3,b4])|(refine sX ?_;simp only[AU,↓reduceIte]))
   refine sT (sH Hb Ht ?_);simp[<-hN]
theorem validK1_c(t:Ty)(ht:t.Fit)(x:Xt)(hx:x.g.Fit)(hv:∀e∈x.g.edges,0<=e.fr/\e.fr<x.g.nodes.length/\0<=e.to/\e.to<x.g.nodes.length)(box:Bxs)(nb k1:Nat)(tok:Tks)(nt:Nat)(h1:box k1=some [[.d (nts t.nodes),.d (ets t.edges)]]):
  ACalls prog 169 [x.av,.ptr k1 0 0] ⟨box,nb,tok,nt⟩ fun v m=>v=B (!lvsB t x.g)/\m=⟨box,nb,tok,nt⟩:=by
 have hc:=leavesK_c t ht x.g hx hv;generalize lvsB t x.g=R at *;refine sI func169 ntmps169 fun Hb Ht=>?_
 have k1n:=key_lt Hb h1;repeat first|simp[lO k1n,h1]|refine sR ?_
 refine sD (hc _ _) ?_;repeat first|simp|refine sR ?_
 refine sT (sH Hb Ht ?_);simp
theorem validK_c(t:Ty)(ht:t.Fit)(c:Co)(hc:c.Fit):DC 90 [t.av,c.av] (I (cnE t c)):=by
 intro tok nt box nb;have h1:=valid_c4 t ht ht.hM;have h2:=shpK_c c hc;have hv:=@shpE_zero c;obtain⟨N,hN⟩:∃N,cnE t c=N:=⟨_,rfl⟩
 rw[hN];unfold cnE at hN;generalize tyE t=E at *;generalize tyN t=Z at *;generalize shpE c=S at *;refine sI func90 ntmps90 fun Hb Ht=>?_
 repeat first|simp|refine sR ?_
 refine sD (h1 _ _) ?_;repeat first|simp|refine sR ?_
 by_cases e1:E=0
 .rw[if_neg (by simp[e1])] at hN;refine sC ?_;simp[e1];repeat first|simp|refine sR ?_
  refine sD (h2 _ _) ?_;repeat first|simp|refine sR ?_
  by_cases e2:S=0
  .rw[if_neg (by simp[e2])] at hN;obtain⟨_,_,v1,_,v2⟩:=hv e2;have l1:=leavesK_c t ht c.g hc.g (validG_edges v1);have l2:=fun x (hx:x∈c.exts)=>validK1_c t ht x (hc.exts x hx).g (validG_edges (validM_VM (v2 x hx).1).vb)
   unfold lvX at hN;refine sC ?_;simp[e2];repeat first|simp|refine sR ?_
   refine sD (l1 _ _) ?_;simp;cases e3:lvsB t c.g
   .rw[e3,if_neg (by simp)] at hN;repeat first|simp|refine sR ?_
    refine sC ?_;repeat first|simp|refine sR ?_
    refine sT (sH Hb Ht ?_);simp[<-hN]
   .rw[e3,if_pos rfl] at hN;obtain⟨p,hpp⟩:∃p:Xt->Bool,(fun x:Xt=>!lvsB t x.g)=p:=⟨_,rfl⟩
    have hpy:∀y:Xt,(!lvsB t y.g)=p y:=fun y=>by rw[<-hpp]
    simp only[hpy] at l2;have hN2:(!anyB p c.exts)=allP (fun x:Xt=>lvsB t x.g) c.exts:=by
     rw[<-hpp,allP,anyB,List.any_eq_not_all_not,Bool.not_not];simp
    rw[<-hN2] at hN;repeat first|simp|refine sR ?_
    refine Stop.of_b (containsFuncX_c c.exts 169 [.ptr (nb+2) 0 0] p hc.n _ _ _ _ (fun c hc=>by rw[List.mem_singleton.1 hc];simp[lb_at]) (fun y hy box' nb' he=>l2 y hy box' nb' _ _ _ (he _ _ (by simp[lb_at])))) ?_;simp;cases e4:anyB p c.exts
    .rw[e4,Bool.not_false,if_pos rfl] at hN;repeat first|simp|refine sR ?_
     refine sC ?_;repeat first|simp|refine sR ?_
     refine sT (sH Hb Ht ?_);simp[<-hN]
    .rw[e4,Bool.not_true,if_neg (by simp)] at hN;repeat first|simp|refine sR ?_
     refine sC ?_;repeat first|simp|refine sR ?_
     refine sT (sH Hb Ht ?_);simp[<-hN]
  .rw[if_pos e2] at hN;have b2:(S != 0)=true:=by simp[e2]
   refine sC ?_;simp[b2];repeat first|simp|refine sR ?_
   refine sT (sH Hb Ht ?_);simp[<-hN]
 .rw[if_pos e1] at hN;have b1:(E != 0)=true:=by simp[e1]
  refine sC ?_;simp[b1];repeat first|simp|refine sR ?_
  refine sT (sH Hb Ht ?_);simp[<-hN]
theorem lrgS_c(g:Gr)(hg:g.Fit):DC 152 [g.av] (B (lrgB g)):=by
 intro tok nt box nb;have hn:=hg.n;have he:=hg.e;obtain⟨N,hN⟩:∃N,lrgB g=N:=⟨_,rfl⟩
 rw[hN];unfold lrgB at hN;by_cases e1:6<g.nodes.length
 .have e1':(6:Int)<g.nodes.length:=by omega
  rw[if_pos e1] at hN;refine sI func152 ntmps152 fun Hb Ht=>?_
  try (simp[e1,e1'])
  repeat (first|(refine sR ?_;simp[e1,e1'])|(refine sC ?_;simp[e1,e1'])|(refine sX ?_;simp only[AU,↓reduceIte]))
  refine sT (sH Hb Ht ?_);simp[<-hN]
 .have e1':¬(6:Int)<g.nodes.length:=by omega
  rw[if_neg e1] at hN;by_cases e2:8<g.edges.length
  .have e2':(8:Int)<g.edges.length:=by omega
   rw[decide_eq_true e2] at hN;refine sI func152 ntmps152 fun Hb Ht=>?_
   try (simp[e1,e1',e2,e2'])
   repeat (first|(refine sR ?_;simp[e1,e1',e2,e2'])|(refine sC ?_;simp[e1,e1',e2,e2'])|(refine sX ?_;simp only[AU,↓reduceIte]))
   refine sT (sH Hb Ht ?_);simp[<-hN,e2']
  .have e2':¬(8:Int)<g.edges.length:=by omega
   rw[decide_eq_false e2] at hN;refine sI func152 ntmps152 fun Hb Ht=>?_
   try (simp[e1,e1',e2,e2'])
   repeat (first|(refine sR ?_;simp[e1,e1',e2,e2'])|(refine sC ?_;simp[e1,e1',e2,e2'])|(refine sX ?_;simp only[AU,↓reduceIte]))
   refine sT (sH Hb Ht ?_);simp[<-hN,e2']
def stSy(c:Co)(nb:Nat)(box:Bxs)(tok:Tks)(nt:Nat)(i:Nat):AS :=
 ⟨tl [(4,I i),(1,.ptr (nb+1) 0 0)],lb nb box [(1,[c.row])],tok,nt⟩
theorem shpS_c(c:Co)(hc:c.Fit):DC 82 [c.av] (I (shpE c)):=by
 intro tok nt box nb;have h1:=isName01_c c.name hc.name;have h2:=valid05_c c.g hc.g;have h3:=lrgS_c c.g hc.g;have hxn:=hc.n;obtain⟨N,hN⟩:∃N,shpE c=N:=⟨_,rfl⟩
 rw[hN];unfold shpE at hN;generalize nameB c.name=B1 at *;generalize vG c.g=E2 at *;generalize lrgB c.g=B3 at *;cases B1
 .rw[if_pos rfl] at hN;refine sI func82 ntmps82 fun Hb Ht=>?_
  repeat first|simp|refine sR ?_
  refine sD (h1 _ _) ?_;simp;try (simp)
  repeat (first|(refine sR ?_;simp)|(refine sC ?_;simp)|(refine sX ?_;simp only[AU,↓reduceIte]))
  refine sT (sH Hb Ht ?_);simp[<-hN]
 .rw[if_neg (by simp)] at hN;have xp:=fun (h:c.exts≠[])=>List.length_pos_iff.2 h
  rcases kd_cases c with ⟨k1,x1,kd⟩|⟨k1,x1,kd⟩|⟨k1,x1,kd⟩|⟨k1,x1,x2,kd⟩|⟨k1,x1,x2,kd⟩|⟨k1,k2,kd⟩
  .rw[if_neg (by rw[kd];decide)] at hN;refine sI func82 ntmps82 fun Hb Ht=>?_
   repeat first|simp|refine sR ?_
   refine sD (h1 _ _) ?_;simp;try (simp[k1,x1])
   repeat (first|(refine sR ?_;simp[k1,x1])|(refine sC ?_;simp[k1,x1])|(refine sX ?_;simp only[AU,↓reduceIte]))
   refine sD (h2 _ _) ?_;repeat first|simp|refine sR ?_
   by_cases v0:E2=0
   .rw[if_neg (by simp[v0])] at hN;refine sC ?_;simp[v0];repeat first|simp|refine sR ?_
    refine sD (h3 _ _) ?_;simp;cases B3
    .rw[if_neg (by simp)] at hN;repeat first|simp|refine sR ?_
     refine sC ?_;repeat first|simp|refine sR ?_
     refine sN ?_;refine sL (stSy c nb box tok nt) (fun i=>i<=c.exts.length/\firstE (xtAt c) i=0) (fun i=>c.exts.length-i) 0 ⟨Nat.zero_le _,rfl⟩ wkA ?_;rintro i S' ⟨hi,hok⟩ hS;simp only[stSy] at hS;subst hS;have hw:=sW (i:=i) (by omega);repeat first|simp|refine sR ?_|refine sC ?_
     refine⟨fun hlt=>?_,fun hge=>?_⟩
     .have hx:=hc.exts _ (List.getElem_mem hlt);have hR:xtAt c i≠0->firstE (xtAt c) c.exts.length=xtAt c i:=fun h0=>firstE_stop hok h0 _ hlt
      have hnx:xtAt c i=0->firstE (xtAt c) (i+1)=0:=fun h0=>by simp only[firstE,hok,h0,↓reduceIte]
      have hd:xtAt c i=xtE c.g c.exts[i]:=xtAt_at hlt
      unfold xtE at hd;have c1:=valid53_c c.g c.exts[i].g c.exts[i].m hc.g hx.g;have c2:=lrgS_c c.exts[i].g hx.g;have c3:=injective26_c c.g c.exts[i].g c.exts[i].m hc.g hx.g hx.m;generalize xtAt c i=E at *;repeat first|simp[hlt]|refine sR ?_
      refine sD (c1 _ _) ?_;repeat first|simp|refine sR ?_
      by_cases f1:validM c.g c.exts[i].g c.exts[i].m=0
      .rw[if_neg (by simp[f1])] at hd;simp only[f1];refine sC ?_;repeat first|simp|refine sR ?_
       refine sD (c2 _ _) ?_;simp;cases f2:lrgB c.exts[i].g
       .rw[f2,if_neg (by simp)] at hd;repeat first|simp|refine sR ?_
        refine sC ?_;repeat first|simp|refine sR ?_
        refine sD (c3 _ _) ?_;simp;cases f3:injM c.g c.exts[i].g c.exts[i].m
        .rw[f3,if_neg (by simp)] at hd;rw[hR (by rw[hd];decide),hd] at hN;repeat first|simp|refine sR ?_
         refine sC ?_;repeat first|simp|refine sR ?_
         refine sT (sH Hb Ht ?_);simp[<-hN]
        .rw[f3,if_pos rfl] at hd;repeat first|simp[hw]|refine sR ?_|refine sC ?_
         refine sE ?_;exact⟨i+1,⟨hlt,hnx hd⟩,by omega,wkA⟩
       .rw[f2,if_pos rfl] at hd;rw[hR (by rw[hd];decide),hd] at hN;repeat first|simp|refine sR ?_
        refine sC ?_;repeat first|simp|refine sR ?_
        refine sT (sH Hb Ht ?_);simp[<-hN]
      .rw[if_pos f1] at hd;have b1:(validM c.g c.exts[i].g c.exts[i].m != 0)=true:=by simp[f1]
       rw[hR (by rw[hd];exact f1),hd] at hN;simp only[b1];refine sC ?_;repeat first|simp|refine sR ?_
       refine sT (sH Hb Ht ?_);simp[<-hN]
     .refine sX ?_;simp only[AU,↓reduceIte];have:i=c.exts.length:=by omega
      subst this;rw[hok] at hN;repeat first|simp|refine sR ?_
      refine sT (sH Hb Ht ?_);simp[<-hN]
    .rw[if_pos rfl] at hN;repeat first|simp|refine sR ?_
     refine sC ?_;repeat first|simp|refine sR ?_
     refine sT (sH Hb Ht ?_);simp[<-hN]
   .have b0:(E2 != 0)=true:=by simp[v0]
    rw[if_pos v0] at hN;refine sC ?_;simp[v0,b0];repeat first|simp|refine sR ?_
    refine sT (sH Hb Ht ?_);simp[<-hN]
  .rw[if_pos (by rw[kd];decide),kd] at hN;have x1':=xp x1
   refine sI func82 ntmps82 fun Hb Ht=>?_
   repeat first|simp|refine sR ?_
   refine sD (h1 _ _) ?_;simp;try (simp[k1,x1,x1'])
   repeat (first|(refine sR ?_;simp[k1,x1,x1'])|(refine sC ?_;simp[k1,x1,x1'])|(refine sX ?_;simp only[AU,↓reduceIte]))
   refine sT (sH Hb Ht ?_);simp[<-hN]
  .rw[if_pos (by rw[kd];decide),kd] at hN;refine sI func82 ntmps82 fun Hb Ht=>?_
   repeat first|simp|refine sR ?_
   refine sD (h1 _ _) ?_;simp;try (simp[k1,x1])
   repeat (first|(refine sR ?_;simp[k1,x1])|(refine sC ?_;simp[k1,x1])|(refine sX ?_;simp only[AU,↓reduceIte]))
   refine sT (sH Hb Ht ?_);simp[<-hN]
  .rw[if_pos (by rw[kd];decide),kd] at hN;have x2':(6:Int)<c.exts.length:=by omega
   refine sI func82 ntmps82 fun Hb Ht=>?_
   repeat first|simp|refine sR ?_
   refine sD (h1 _ _) ?_;simp;try (simp[k1,x1,x2,x2'])
   repeat (first|(refine sR ?_;simp[k1,x1,x2,x2'])|(refine sC ?_;simp[k1,x1,x2,x2'])|(refine sX ?_;simp only[AU,↓reduceIte]))
   refine sT (sH Hb Ht ?_);simp[<-hN]
  .rw[if_neg (by rw[kd];decide)] at hN;have x2':¬(6:Int)<c.exts.length:=by omega
   refine sI func82 ntmps82 fun Hb Ht=>?_
   repeat first|simp|refine sR ?_
   refine sD (h1 _ _) ?_;simp;try (simp[k1,x1,x2,x2'])
   repeat (first|(refine sR ?_;simp[k1,x1,x2,x2'])|(refine sC ?_;simp[k1,x1,x2,x2'])|(refine sX ?_;simp only[AU,↓reduceIte]))
   refine sD (h2 _ _) ?_;repeat first|simp|refine sR ?_
   by_cases v0:E2=0
   .rw[if_neg (by simp[v0])] at hN;refine sC ?_;simp[v0];repeat first|simp|refine sR ?_
    refine sD (h3 _ _) ?_;simp;cases B3
    .rw[if_neg (by simp)] at hN;repeat first|simp|refine sR ?_
     refine sC ?_;repeat first|simp|refine sR ?_
     refine sN ?_;refine sL (stSy c nb box tok nt) (fun i=>i<=c.exts.length/\firstE (xtAt c) i=0) (fun i=>c.exts.length-i) 0 ⟨Nat.zero_le _,rfl⟩ wkA ?_;rintro i S' ⟨hi,hok⟩ hS;simp only[stSy] at hS;subst hS;have hw:=sW (i:=i) (by omega);repeat first|simp|refine sR ?_|refine sC ?_
     refine⟨fun hlt=>?_,fun hge=>?_⟩
     .have hx:=hc.exts _ (List.getElem_mem hlt);have hR:xtAt c i≠0->firstE (xtAt c) c.exts.length=xtAt c i:=fun h0=>firstE_stop hok h0 _ hlt
      have hnx:xtAt c i=0->firstE (xtAt c) (i+1)=0:=fun h0=>by simp only[firstE,hok,h0,↓reduceIte]
      have hd:xtAt c i=xtE c.g c.exts[i]:=xtAt_at hlt
      unfold xtE at hd;have c1:=valid53_c c.g c.exts[i].g c.exts[i].m hc.g hx.g;have c2:=lrgS_c c.exts[i].g hx.g;have c3:=injective26_c c.g c.exts[i].g c.exts[i].m hc.g hx.g hx.m;generalize xtAt c i=E at *;repeat first|simp[hlt]|refine sR ?_
      refine sD (c1 _ _) ?_;repeat first|simp|refine sR ?_
      by_cases f1:validM c.g c.exts[i].g c.exts[i].m=0
      .rw[if_neg (by simp[f1])] at hd;simp only[f1];refine sC ?_;repeat first|simp|refine sR ?_
       refine sD (c2 _ _) ?_;simp;cases f2:lrgB c.exts[i].g
       .rw[f2,if_neg (by simp)] at hd;repeat first|simp|refine sR ?_
        refine sC ?_;repeat first|simp|refine sR ?_
        refine sD (c3 _ _) ?_;simp;cases f3:injM c.g c.exts[i].g c.exts[i].m
        .rw[f3,if_neg (by simp)] at hd;rw[hR (by rw[hd];decide),hd] at hN;repeat first|simp|refine sR ?_
         refine sC ?_;repeat first|simp|refine sR ?_
         refine sT (sH Hb Ht ?_);simp[<-hN]
        .rw[f3,if_pos rfl] at hd;repeat first|simp[hw]|refine sR ?_|refine sC ?_
         refine sE ?_;exact⟨i+1,⟨hlt,hnx hd⟩,by omega,wkA⟩
       .rw[f2,if_pos rfl] at hd;rw[hR (by rw[hd];decide),hd] at hN;repeat first|simp|refine sR ?_
        refine sC ?_;repeat first|simp|refine sR ?_
        refine sT (sH Hb Ht ?_);simp[<-hN]
      .rw[if_pos f1] at hd;have b1:(validM c.g c.exts[i].g c.exts[i].m != 0)=true:=by simp[f1]
       rw[hR (by rw[hd];exact f1),hd] at hN;simp only[b1];refine sC ?_;repeat first|simp|refine sR ?_
       refine sT (sH Hb Ht ?_);simp[<-hN]
     .refine sX ?_;simp only[AU,↓reduceIte];have:i=c.exts.length:=by omega
      subst this;rw[hok] at hN;repeat first|simp|refine sR ?_
      refine sT (sH Hb Ht ?_);simp[<-hN]
    .rw[if_pos rfl] at hN;repeat first|simp|refine sR ?_
     refine sC ?_;repeat first|simp|refine sR ?_
     refine sT (sH Hb Ht ?_);simp[<-hN]
   .have b0:(E2 != 0)=true:=by simp[v0]
    rw[if_pos v0] at hN;refine sC ?_;simp[v0,b0];repeat first|simp|refine sR ?_
    refine sT (sH Hb Ht ?_);simp[<-hN]
  .rw[if_pos (by rw[kd];decide),kd] at hN;have b1:(c.kind==1)=false:=by simp[k1]
   have b2:(c.kind==2)=false:=by simp[k2]
   have b3:(c.kind != 1)=true:=by simp[k1]
   have b4:(c.kind != 2)=true:=by simp[k2]
   refine sI func82 ntmps82 fun Hb Ht=>?_
   repeat first|simp|refine sR ?_
   refine sD (h1 _ _) ?_;simp;try (simp[k1,k2,b1,b2,b3,b4])
   repeat (first|(refine sR ?_;simp[k1,k2,b1,b2,b3,b4])|(refine sC ?_;simp[k1,k2,b1,b2,b3,b4])|(refine sX ?_;simp only[AU,↓reduceIte]))
   refine sT (sH Hb Ht ?_);simp[<-hN]
def hitB(l r into:List Int)(i:Nat):Bool:=if decide ((i:Int)∈into)=true then false else decide (l.getD i 0∈r)
def meetsB(l r into:List Int):Bool:=anyB (hitB l r into) (List.range l.length)
theorem meets_no{l r into:List Int}(h:∀j,j<l.length->hitB l r into j=false):meetsB l r into=false:=by
 unfold meetsB anyB;rw[List.any_eq_false];intro x hx;rw[h x (List.mem_range.1 hx)];simp
theorem meets_yes{l r into:List Int}{i:Nat}(hi:i<l.length)(h:hitB l r into i=true):meetsB l r into=true:=by
 unfold meetsB anyB;rw[List.any_eq_true];exact⟨i,List.mem_range.2 hi,h⟩
def keepO(r:Ru)(o:Ov):Bool:=if meetsB o.l.nodes o.r.nodes r.i.nodes=true then true else meetsB o.l.edges o.r.edges r.i.edges
def givP(t:Ty)(r:Ru)(c:Co):Int:=if tyE t≠0 then tyE t else if strR r≠0 then strR r else if lvsB t r.lg=true then (if lvsB t r.rg=true then cnE t c else 13) else 13
def waysR(t:Ty)(r:Ru)(c:Co):List Ov × Int :=
 if givP t r c≠0 then ([],givP t r c) else if c.kind=1 then (if (oR r.rg c.g).2≠0 then ([],(oR r.rg c.g).2) else ((oR r.rg c.g).1.filter (keepO r),0)) else ([],8)
def exP(o:Ov):Cd:=.mk 5 [cdOf 1 []] o.l o.g [] 0 []
def presC(l:List Ov):Cd:=if l=[] then cdOf 1 [] else cdOf 3 (l.map fun o=>cdOf 2 [exP o])
def presR(t:Ty)(r:Ru)(c:Co):Cd × Int:=if (waysR t r c).2≠0 then (cdOf 0 [],(waysR t r c).2) else leftR r (presC (waysR t r c).1)
variable {P:Program}
section
variable (R:AV->AV->Prop)
def CvR(r r':List AV):Prop:=r.length=r'.length/\∀i (h1:i<r.length) (h2:i<r'.length),R r[i] r'[i]
def CvRs(r r':List (List AV)):Prop:=r.length=r'.length/\∀i (h1:i<r.length) (h2:i<r'.length),CvR R r[i] r'[i]
def CvL:List (Nat × AV)->List (Nat × AV)->Prop
 | [],[]=>True
 | (i,x)::a,(j,y)::b=>i=j/\R x y/\CvL a b
 | _,_=>False
def CvB:List (Nat × List (List AV))->List (Nat × List (List AV))->Prop
 | [],[]=>True
 | (i,x)::a,(j,y)::b=>i=j/\CvRs R x y/\CvB a b
 | _,_=>False
end
section
variable {R:AV->AV->Prop}
theorem CvL.at(h0:R .bot .bot):∀{l l':List (Nat × AV)},CvL R l l'->∀i,R (tl l i) (tl l' i)
 | [],[],_,i=>h0
 | (i,x)::a,(j,y)::b,h,q=>by
  obtain⟨rfl,h1,h2⟩:=h;rw[tl_cons,tl_cons];split
  .exact h1
  .exact CvL.at h0 h2 q
 | [],_::_,h,_=>h.elim
 | _::_,[],h,_=>h.elim
theorem CvB.at:∀{l l':List (Nat × List (List AV))},CvB R l l'->∀i,(lk l i=none/\lk l' i=none)∨∃r r',lk l i=some r/\lk l' i=some r'/\CvRs R r r'
 | [],[],_,i=>.inl ⟨rfl,rfl⟩
 | (i,x)::a,(j,y)::b,h,q=>by
  obtain⟨rfl,h1,h2⟩:=h;rw[lk_cons,lk_cons];split
  .exact .inr ⟨x,y,rfl,rfl,h1⟩
  .exact CvB.at h2 q
 | [],_::_,h,_=>h.elim
 | _::_,[],h,_=>h.elim
theorem CvRs.flat:∀{r r':List (List AV)},CvRs R r r'->CvR R r.flatten r'.flatten
 | [],[],_=>⟨rfl,fun i h=>by simp at h⟩
 | x::a,y::b,h=>by
  have h0:=h.2 0 (by simp) (by simp);have ih:CvR R a.flatten b.flatten:=CvRs.flat ⟨by simpa using h.1,fun i h1 h2=>h.2 (i+1) (by simpa using h1) (by simpa using h2)⟩
  simp only[List.getElem_cons_zero] at h0;refine⟨by simp[h0.1,ih.1],fun i h1 h2=>?_⟩;have hl:=h0.1;have hi2:=ih.1;simp only[List.flatten_cons] at h1 h2 ⊢;rw[List.length_append] at h1 h2;by_cases hi:i<x.length
  .have e1:(x++a.flatten)[i]'(by rw[List.length_append];omega)=x[i]:=List.getElem_append_left hi
   have e2:(y++b.flatten)[i]'(by rw[List.length_append];omega)=y[i]'(by omega):=List.getElem_append_left (by omega)
   rw[e1,e2];exact h0.2 i hi _
  .have e1:(x++a.flatten)[i]'(by rw[List.length_append];omega)=a.flatten[i-x.length]'(by omega):=List.getElem_append_right (by omega)
   have e2:(y++b.flatten)[i]'(by rw[List.length_append];omega)=b.flatten[i-y.length]'(by omega):=List.getElem_append_right (by omega)
   rw[e1,e2];have:=ih.2 (i-x.length) (by omega) (by omega)
   simp only[hl] at this ⊢;exact this
 | [],_::_,h=>by have:=h.1;simp at this
 | _::_,[],h=>by have:=h.1;simp at this
theorem CvR.vs{G:Gh}{w:World}(hto:∀x y v,R x y->RV G w x v->RV G w y v){xs ys:List AV}{vs:List Value}(h:CvR R xs ys)(hr:RVs G w xs vs):RVs G w ys vs :=
 ⟨h.1.symm.trans hr.1,fun i h1 h2=>hto _ _ _ (h.2 i (by rw[h.1];exact h1) h1) (hr.2 i _ h2)⟩
theorem RelM.rows{G:Gh}{w:World}{base nb nt:Nat}{out:Bxs}{loc loc':List (Nat × List (List AV))}{tok:Nat->Bool}(hto:∀x y v,R x y->RV G w x v->RV G w y v)(hb:CvB R loc loc')(hm:RelM G ⟨lb base out loc,nb,tok,nt⟩ w):RelM G ⟨lb base out loc',nb,tok,nt⟩ w:=by
 constructor
 case box =>
  intro k rows b z hk hbx;simp only at hk;by_cases hkb:k<base
  .rw[lO hkb] at hk;exact hm.box k rows b z (by simp only;rw[lO hkb];exact hk) hbx
  .have hkk:k=base+(k-base):=by omega
   rw[hkk,lb_at] at hk;rcases hb.at (k-base) with ⟨_,h2⟩|⟨r0,r',h1,h2,h3⟩
   .rw[h2] at hk;cases hk
   .rw[h2] at hk;cases hk;obtain⟨g1,cs,e,g2,g3,g4,g5⟩:=hm.box k r0 b z (by simp only;rw[hkk,lb_at];exact h1) hbx;refine⟨g1,cs,e,g2,fun q hq=>?_,h3.flat.vs hto g4,g5⟩;obtain⟨i,hi,rfl⟩:=List.getElem_of_mem hq;have hi0:i<r0.length:=by rw[h3.1];exact hi
    rw[<-(h3.2 i hi0 hi).1];exact g3 _ (List.getElem_mem _)
 case nobox =>
  intro k hk;refine hm.nobox k ?_;simp only at hk ⊢;by_cases hkb:k<base
  .rw[lO hkb] at hk ⊢;exact hk
  .have hkk:k=base+(k-base):=by omega
   rw[hkk,lb_at] at hk ⊢;rcases hb.at (k-base) with ⟨h1,_⟩|⟨r0,r',_,h2,_⟩
   .exact h1
   .rw[h2] at hk;cases hk
 case inj=>exact hm.inj
 case nb =>
  intro k hk;have h0:=hm.nb k hk;simp only at h0 ⊢;by_cases hkb:k<base
  .rw[lO hkb] at h0 ⊢;exact h0
  .have hkk:k=base+(k-base):=by omega
   rw[hkk,lb_at] at h0 ⊢;rcases hb.at (k-base) with ⟨_,h2⟩|⟨r0,r',h1,_,_⟩
   .exact h2
   .rw[h1] at h0;cases h0
 case nt=>exact hm.nt
 case toks=>exact hm.toks
 case tokb=>exact hm.tokb
 case tinj=>exact hm.tinj
 case tnt=>exact hm.tnt
 case glob=>exact hm.glob
 case fresh=>exact hm.fresh
end
inductive OpTo (t sz:Nat):AV->AV->Prop
 | bot {x}:OpTo t sz x .bot
 | same {x}:OpTo t sz x x
 | nil {n}:OpTo t sz (.osl n [] .full) (.stk t sz [])
theorem OpTo.rv{G:Gh}{w:World}{t sz:Nat}(ht:t<G.nt)(hk:G.tk t=some none){x y:AV}{v:Value}(h:OpTo t sz x y)(hr:RV G w x v):RV G w y v:=by
 cases h with
 | bot=>exact .bot
 | same=>exact hr
 | nil =>
  cases hr with
  | osl _ ho =>
   obtain⟨A,rfl,_⟩:=ho;refine .stk ⟨ht,A,0,rfl,nr _,Nat.zero_le _,fun x hx=>?_⟩;rw[hk] at hx;cases hx;rfl
theorem Trans.opn{cx:Cx}{nt0 nt:Nat}{l l':List (Nat × AV)}{out:Bxs}{loc loc':List (Nat × List (List AV))}{tok:Nat->Bool}(sz:Nat)(hl:CvL (OpTo nt sz) l l')(hb:CvB (OpTo nt sz) loc loc'):
  Trans cx nt0 ⟨tl l,lb cx.base out loc,tok,nt⟩ ⟨tl l',lb cx.base out loc',upd tok nt true,nt+1⟩:=by
 intro G0 w0 G a w he hn0 hS hL;have hm:=hS.mem;have hgnt:G.nt=nt:=hm.nt
 have hle:=Le.newtok (G:=G) (w:=w) none;have hm':=hm.newtok none (fun g h=>by cases h)
 have h1:nt<(G.newtok none).nt:=by simp only[Gh.newtok];omega
 have h2:(G.newtok none).tk nt=some none:=by simp only[Gh.newtok];rw[<-hgnt,uS]
 refine⟨G.newtok none,⟨hS.defers,hS.size,fun i=>(hl.at .bot i).rv h1 h2 ((hS.tmps i).mono hle),hm'.rows (fun x y v h hr=>h.rv h1 h2 hr) hb⟩,?_⟩;refine hL.step ⟨hle,fun k hkb hg=>⟨hg,?_⟩⟩;simp only;rw[lO hkb,lO hkb]
section
variable {t sz:Nat}
@[simp] theorem opTo_bot(x:AV):OpTo t sz x .bot:=.bot
@[simp] theorem opTo_same(x:AV):OpTo t sz x x:=.same
@[simp] theorem opTo_nil(n:Nat):OpTo t sz (.osl n [] .full) (.stk t sz []):=.nil
end
@[simp] theorem to_stk{p:Nat->Prop}{fz:Option (Nat × Nat × List (List D))}(t sz:Nat)(es:List (List D)):To p (fun _=>True) fz (.stk t sz es) (.stk t sz es):=.same (.stk trivial)
@[simp] theorem to_que{p:Nat->Prop}{fz:Option (Nat × Nat × List (List D))}(t sz:Nat)(es:List (List D)):To p (fun _=>True) fz (.que t sz es) (.que t sz es):=.same (.que trivial)
@[simp] theorem okIn_que{p q:Nat->Prop}{t sz:Nat}{es:List (List D)}:OkIn p q (.que t sz es)↔q t:=⟨fun h=>by cases h;assumption,.que⟩
@[simp] theorem okIn_stk{p q:Nat->Prop}{t sz:Nat}{es:List (List D)}:OkIn p q (.stk t sz es)↔q t:=⟨fun h=>by cases h;assumption,.stk⟩
theorem cvR_nil{R:AV->AV->Prop}:CvR R [] []:=⟨rfl,fun i h=>by simp at h⟩
theorem cvR_cons{R:AV->AV->Prop}{x y:AV}{a b:List AV}(h:R x y)(r:CvR R a b):CvR R (x::a) (y::b):=⟨by simp[r.1],fun i h1 h2=>by
 cases i with
 | zero=>exact h
 | succ i=>exact r.2 i (by simpa using h1) (by simpa using h2)⟩
theorem cvRs_one{R:AV->AV->Prop}{r r':List AV}(h:CvR R r r'):CvRs R [r] [r']:=⟨rfl,fun i h1 h2=>by
 have:i=0:=by simp at h1;omega
 subst this;exact h⟩
end Go.AM
