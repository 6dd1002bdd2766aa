/-
 Parts of the proof, as merged from many texts: a machine over data, what the functions compute, plain laws.
-/
import Derived.Test.YtebmobphgaiaiaaGreatPCG13
import Derived.WalkKit
import Derived.ProofKit
import Derived.OpenShut
import Derived.ChangeStays
import Derived.SizedLaws
set_option linter.unusedSimpArgs false
set_option linter.unusedVariables false
namespace Go.AM
open Go Go.Proofs
open Go.Proofs.Tryz
theorem xC_fit{m:Mo}{g:Gr}{k:Cd}(hm:m.Fit)(hg:g.Fit)(hk:k.Fit):(xC m g k).Fit :=
 .mk (by rw[kidN_eq];simp[xC,Cd.kids]) hm hg (by rw[bigN_eq];simp[xC,Cd.sl]) (by rw[bigN_eq];simp[xC,Cd.te]) fun z hz=>by
  rw[show z=k by simpa[xC,Cd.kids] using hz];exact hk
theorem condR_fit{c:Co}(hc:c.Fit):(condR c).1.Fit:=by
 have e0:∀k,(cdOf k []).Fit:=fun k=>cdOf_fit (by rw[kidN_eq];simp) (by simp)
 have hn:=hc.n;unfold condR;split
 .exact e0 _
 .unfold cndC;refine cdOf_fit (by rw[kidN_eq];simp) fun y hy=>?_
  rw[List.mem_singleton.1 hy];refine xC_fit fit_nilM hc.g ?_;split
  .exact e0 _
  .refine cdOf_fit (by rw[kidN_eq];simp) fun y hy=>?_
   rw[List.mem_singleton.1 hy];refine cdOf_fit (by rw[kidN_eq,List.length_map];omega) fun y hy=>?_
   obtain⟨x,hx,rfl⟩:=List.mem_map.1 hy;exact xC_fit (hc.exts x hx).m (hc.exts x hx).g (e0 _)
set_option maxRecDepth 100000 in
theorem guaP_c(t:Ty)(ht:t.Fit)(r:Ru)(hr:r.Fit)(c:Co)(hc:c.Fit):DC 24 [t.av,r.av,c.av] (.tup [(guaR t r c).1.av,I (guaR t r c).2]):=by
 intro tok nt box nb;have h1:=givenP_c t ht r hr c hc;have h2:=condK_c c hc;have h3:=cdLocal_c r.rg (condR c).1 hr.rg (condR_fit hc);have h4:=fun hf=>leftP_c r (localR r.rg (condR c).1).1 hr hf
 have hlf:=(localR_fb (b:=r.rg) (condR_fit hc) hr.rg).1;obtain⟨N,hN⟩:∃N,guaR t r c=N:=⟨_,rfl⟩
 rw[hN];unfold guaR at hN;generalize condR c=C at *;generalize localR r.rg C.1=L at *;generalize givP t r c=E at *;refine sI func24 ntmps24 fun Hb Ht=>?_
 repeat first|simp|refine sR ?_
 refine sD (h1 _ _) ?_;repeat first|simp|refine sR ?_
 by_cases e1:E=0
 .rw[if_neg (by simp[e1])] at hN;refine sC ?_;simp[e1];repeat first|simp|refine sR ?_
  refine sD (h2 _ _) ?_;repeat first|simp|refine sR ?_
  by_cases e2:C.2=0
  .rw[if_neg (by simp[e2])] at hN;refine sC ?_;simp[e2];repeat first|simp|refine sR ?_
   refine sD (h3 _ _) ?_;repeat first|simp|refine sR ?_
   by_cases e3:L.2=0
   .rw[if_neg (by simp[e3])] at hN;have h4:=h4 hlf;rw[hN] at h4;refine sC ?_;simp[e3];repeat first|simp|refine sR ?_
    refine sD (h4 _ _) ?_;repeat first|simp|refine sR ?_
    refine sT (sH Hb Ht ?_);simp
   .rw[if_pos e3] at hN;have b3:(L.2 !=0)=true:=by simp[e3]
    refine sC ?_;simp[b3];repeat first|simp|refine sR ?_
    refine sT (sH Hb Ht ?_);simp[<-hN,cdOf,conds,ints,AM.edges,slots,tests,Cd.kind,Cd.kids,Cd.m,Cd.g,Cd.sl,Cd.vars,Cd.te]
  .rw[if_pos e2] at hN;have b2:(C.2 !=0)=true:=by simp[e2]
   refine sC ?_;simp[b2];repeat first|simp|refine sR ?_
   refine sT (sH Hb Ht ?_);simp[<-hN,cdOf,conds,ints,AM.edges,slots,tests,Cd.kind,Cd.kids,Cd.m,Cd.g,Cd.sl,Cd.vars,Cd.te]
 .rw[if_pos e1] at hN;have b1:(E !=0)=true:=by simp[e1]
  refine sC ?_;simp[b1];repeat first|simp|refine sR ?_
  refine sT (sH Hb Ht ?_);simp[<-hN,cdOf,conds,ints,AM.edges,slots,tests,Cd.kind,Cd.kids,Cd.m,Cd.g,Cd.sl,Cd.vars,Cd.te]
set_option maxRecDepth 100000 in
theorem guaS_c(t:Ty)(ht:t.Fit)(r:Ru)(hr:r.Fit)(c:Co)(hc:c.Fit):DC 25 [t.av,r.av,c.av] (.tup [(guaR t r c).1.av,I (guaR t r c).2]):=by
 intro tok nt box nb;have h1:=given43_c t ht r hr c hc;have h2:=condS_c c hc;have h3:=refLocal_c r.rg (condR c).1 hr.rg (condR_fit hc);have h4:=fun hf=>left15_c backOK r (localR r.rg (condR c).1).1 hr hf
 have hlf:=(localR_fb (b:=r.rg) (condR_fit hc) hr.rg).1;obtain⟨N,hN⟩:∃N,guaR t r c=N:=⟨_,rfl⟩
 rw[hN];unfold guaR at hN;generalize condR c=C at *;generalize localR r.rg C.1=L at *;generalize givP t r c=E at *;refine sI func25 ntmps25 fun Hb Ht=>?_
 repeat first|simp|refine sR ?_
 refine sD (h1 _ _) ?_;repeat first|simp|refine sR ?_
 by_cases e1:E=0
 .rw[if_neg (by simp[e1])] at hN;refine sC ?_;simp[e1];repeat first|simp|refine sR ?_
  refine sD (h2 _ _) ?_;repeat first|simp|refine sR ?_
  by_cases e2:C.2=0
  .rw[if_neg (by simp[e2])] at hN;refine sC ?_;simp[e2];repeat first|simp|refine sR ?_
   refine sD (h3 _ _) ?_;repeat first|simp|refine sR ?_
   by_cases e3:L.2=0
   .rw[if_neg (by simp[e3])] at hN;have h4:=h4 hlf;rw[hN] at h4;refine sC ?_;simp[e3];repeat first|simp|refine sR ?_
    refine sD (h4 _ _) ?_;repeat first|simp|refine sR ?_
    refine sT (sH Hb Ht ?_);simp
   .rw[if_pos e3] at hN;have b3:(L.2 !=0)=true:=by simp[e3]
    refine sC ?_;simp[b3];repeat first|simp|refine sR ?_
    refine sT (sH Hb Ht ?_);simp[<-hN,cdOf,conds,ints,AM.edges,slots,tests,Cd.kind,Cd.kids,Cd.m,Cd.g,Cd.sl,Cd.vars,Cd.te]
  .rw[if_pos e2] at hN;have b2:(C.2 !=0)=true:=by simp[e2]
   refine sC ?_;simp[b2];repeat first|simp|refine sR ?_
   refine sT (sH Hb Ht ?_);simp[<-hN,cdOf,conds,ints,AM.edges,slots,tests,Cd.kind,Cd.kids,Cd.m,Cd.g,Cd.sl,Cd.vars,Cd.te]
 .rw[if_pos e1] at hN;have b1:(E !=0)=true:=by simp[e1]
  refine sC ?_;simp[b1];repeat first|simp|refine sR ?_
  refine sT (sH Hb Ht ?_);simp[<-hN,cdOf,conds,ints,AM.edges,slots,tests,Cd.kind,Cd.kids,Cd.m,Cd.g,Cd.sl,Cd.vars,Cd.te]
inductive Cd.Pl:Cd->Prop
 | mk {c:Cd} (hs:c.sl=[]) (hv:c.vars=0) (ht:c.te=[]) (h:∀x∈c.kids,Cd.Pl x):Cd.Pl c
theorem Cd.Pl.sl{c:Cd}(h:c.Pl):c.sl=[]:=by cases h;assumption
theorem Cd.Pl.te{c:Cd}(h:c.Pl):c.te=[]:=by cases h;assumption
theorem Cd.Pl.vars{c:Cd}(h:c.Pl):c.vars=0:=by cases h;assumption
theorem Cd.Pl.kid{c:Cd}(h:c.Pl):∀x∈c.kids,Cd.Pl x:=by cases h;assumption
variable {P:Program}
theorem getD_some{l:Array Bool}{i:Nat}{d v:Bool}(h:l[i]?=some v):l.getD i d=v:=by simp[Array.getD_eq_getD_getElem?,h]
structure Ac3 where
 own:Own
 tok:Nat->Bool
 nt:Nat
def Ac3.add(x:Ac3)(b:Bool):Ac3:=if b=true then ⟨.tok (x.nt+2),upd (x.own.kill (upd (upd (upd x.tok x.nt true) x.nt false) (x.nt+1) true)) (x.nt+2) true,x.nt+3⟩ else x
structure Ac3.Ok (x:Ac3) (tok:Tks) (nt:Nat):Prop where
 adv:Adv tok nt .full x.tok x.nt x.own
 lt:∀t,tok t=true->t<nt
theorem Ac3.Ok.add{x:Ac3}{tok:Nat->Bool}{nt:Nat}(h:x.Ok tok nt)(b:Bool):(x.add b).Ok tok nt:=by
 unfold Ac3.add;split
 .have had:=Adv.fresh h.adv.live h.adv.lt;exact⟨h.adv.trans h.lt (had.trans h.adv.lt (Adv.app had.live had.lt)),h.lt⟩
 .exact h
theorem Ac3.Ok.tk{x:Ac3}{tok:Nat->Bool}{nt:Nat}(h:x.Ok tok nt):TK tok nt x.tok x.nt [x.own] :=
 ⟨fun t ht=>h.adv.keep t ht (by simp),h.lt,h.adv.le,fun o ho t e=>by
  rw[List.mem_singleton] at ho;subst ho;have hl:=h.adv.live;rw[e] at hl;refine⟨hl,?_,h.adv.lt t hl⟩;rcases h.adv.new with e2|⟨s,e2,hs⟩
  .rw[e] at e2;cases e2
  .rw[e] at e2;cases e2;exact hs,List.pairwise_singleton _ _⟩
abbrev Gr.cells(g:Gr):List D:=[ints g.nodes,AM.edges g.edges]
theorem Ac3.Ok.start{tok:Nat->Bool}{nt:Nat}(h:∀t,tok t=true->t<nt):(Ac3.mk .full tok nt).Ok tok nt:=⟨Adv.refl trivial h,h⟩
theorem TK.adv{mtok:Nat->Bool}{nt0:Nat}{tok tok':Nat->Bool}{nt nt':Nat}{os:List Own}{own':Own}(h:TK mtok nt0 tok nt os)(ha:Adv tok nt .full tok' nt' own'):TK mtok nt0 tok' nt' (own'::os):=by
 have hnew:∀s,own'=.tok s->nt<=s/\tok' s=true:=fun s e=>by
  have hl:=ha.live;rw[e] at hl;rcases ha.new with e2|⟨s2,e2,hs⟩
  .rw[e] at e2;cases e2
  .rw[e] at e2;cases e2;exact⟨hs,hl⟩
 refine⟨fun t ht=>ha.keep t (h.old t ht) (by simp),h.lt,Nat.le_trans h.le ha.le,fun o ho t e=>?_,?_⟩
 .rcases List.mem_cons.1 ho with rfl|ho
  .obtain⟨h1,h2⟩:=hnew t e;exact⟨h2,Nat.le_trans h.le h1,ha.lt t h2⟩
  .obtain⟨h1,h2,h3⟩:=h.own o ho t e;exact⟨ha.keep t h1 (by simp),h2,Nat.lt_of_lt_of_le h3 ha.le⟩
 .refine List.pairwise_cons.2 ⟨fun b hb t e e2=>?_,h.ne⟩;obtain⟨h1,h2⟩:=hnew t e;obtain⟨_,_,h3⟩:=h.own b hb t e2;omega
def Ac3.ed(x:Ac3)(s:Nat):Ac3:=⟨.tok (x.nt+1),upd (x.own.kill (upd (upd x.tok s false) x.nt true)) (x.nt+1) true,x.nt+2⟩
def Ac3.nd(x:Ac3)(s:Nat):Ac3:=⟨x.own,upd (upd x.tok s false) x.nt true,x.nt+1⟩
def exT:Ty:=⟨[⟨⟨#[65,99,99,111,117,110,116]⟩, -1,true,[⟨⟨#[98,97,108,97,110,99,101]⟩, -1000,1000,[]⟩]⟩,⟨⟨#[67,97,115,104]⟩,0,false,[]⟩,⟨⟨#[76,111,97,110]⟩,0,false,[⟨⟨#[115,116,97,116,101]⟩,0,1,[⟨#[111,112,101,110]⟩,⟨#[99,108,111,115,101,100]⟩]⟩]⟩,⟨⟨#[80,101,114,115,111,110]⟩, -1,false,[]⟩],
 [⟨⟨#[111,119,110,115]⟩,3,0,0, -1,1,1⟩,⟨⟨#[112,97,121,115]⟩,1,1,0, -1,0, -1⟩]⟩
def payR:Ru:=⟨⟨#[112,97,121]⟩,⟨[1,1],[]⟩,[],0,[],⟨[1,1],[⟨1,0,1⟩]⟩,[],0,[],⟨[0,1],[]⟩,⟨[0,1],[]⟩,true,cdOf 1 []⟩
def dblC:Co:=⟨⟨#[100,111,117,98,108,101]⟩,1,⟨[1,1],[⟨1,0,1⟩,⟨1,0,1⟩]⟩,[]⟩
def slfC:Co:=⟨⟨#[115,101,108,102]⟩,1,⟨[1],[⟨1,0,0⟩]⟩,[]⟩
theorem aw43a:(waysR exT payR dblC).2=0/\(waysR exT payR dblC).1.length=2:=by decide +kernel
theorem aw43b:(waysR exT payR slfC).2=0/\(waysR exT payR slfC).1=[]:=by decide +kernel
theorem aw43c:(presR exT payR dblC).2=0/\(presR exT payR dblC).1.kind=3/\(presR exT payR dblC).1.kids.length=2:=by decide +kernel
theorem exT_fit:exT.Fit:=⟨by decide,by decide,by decide,by decide,by simp[exT];exact⟨⟨by decide,by decide,by decide⟩,⟨by decide,by decide,by decide⟩⟩⟩
theorem dss_nil:DSs [] []:=⟨rfl,fun i h=>by simp at h⟩
theorem dss_cons{x y:List D}{xs ys:List (List D)}:DSs (x::xs) (y::ys)↔DS1 x y/\DSs xs ys:=by
 constructor
 .rintro⟨h1,h2⟩;exact⟨h2 0 (by simp) (by simp),by simpa using h1,fun j g1 g2=>h2 (j+1) (by simpa using g1) (by simpa using g2)⟩
 .rintro⟨h1,h2,h3⟩;refine⟨by simp[h2],fun j g1 g2=>?_⟩
  match j with
  | 0=>exact h1
  | j+1=>exact h3 j (by simpa using g1) (by simpa using g2)
theorem dsub_all{sz:Nat}{es es':List (List D)}(h:DSs es es'):DSub (.sl sz es) (.sl sz es'):=h.sub sz
theorem to_dss{p q:Nat->Prop}{fz:Option (Nat × Nat × List (List D))}{sz:Nat}{es es':List (List D)}{o:Own}(h:DSs es es'):To p q fz (.osl sz es o) (.d (.sl sz es')):=.odsub (h.sub sz)
set_option maxRecDepth 100000 in
theorem example04_c:DC 31 [] exT.av:=by
 intro tok nt box nb;refine sI func31 ntmps31 fun Hb Ht=>?_
 repeat first|simp|refine sR ?_
 try refine⟨rfl,?_⟩
 repeat first|simp|refine sR ?_
 try refine⟨rfl,?_⟩
 repeat first|simp|refine sR ?_
 try refine⟨rfl,?_⟩
 repeat first|simp|refine sR ?_
 try refine⟨rfl,?_⟩
 repeat first|simp|refine sR ?_
 refine sT (sH Hb Ht ?_);simp[exT,nts,ets,atts,strs];exact to_dss (by simp[dss_cons,dss_nil,dsub_all,atts,strs])
set_option maxRecDepth 100000 in
theorem pay43_c:DC 32 [] payR.av:=by
 intro tok nt box nb;refine sI func32 ntmps32 fun Hb Ht=>?_
 repeat first|simp|refine sR ?_
 try refine⟨rfl,?_⟩
 repeat first|simp|refine sR ?_
 try refine⟨rfl,?_⟩
 repeat first|simp|refine sR ?_
 try refine⟨rfl,?_⟩
 repeat first|simp|refine sR ?_
 try refine⟨rfl,?_⟩
 repeat first|simp|refine sR ?_
 refine sT (sH Hb Ht ?_);simp[payR,cdOf,conds,ints,AM.edges,slots,tests,Cd.kind,Cd.kids,Cd.m,Cd.g,Cd.sl,Cd.vars,Cd.te,rI,rE]
set_option maxRecDepth 100000 in
theorem double43_c:DC 33 [] dblC.av:=by
 intro tok nt box nb;refine sI func33 ntmps33 fun Hb Ht=>?_
 repeat first|simp|refine sR ?_
 try refine⟨rfl,?_⟩
 repeat first|simp|refine sR ?_
 try refine⟨rfl,?_⟩
 repeat first|simp|refine sR ?_
 try refine⟨rfl,?_⟩
 repeat first|simp|refine sR ?_
 try refine⟨rfl,?_⟩
 repeat first|simp|refine sR ?_
 refine sT (sH Hb Ht ?_);simp[dblC,xts,cdOf,conds,ints,AM.edges,slots,tests,Cd.kind,Cd.kids,Cd.m,Cd.g,Cd.sl,Cd.vars,Cd.te]
theorem payR_fit:payR.Fit:=⟨⟨by decide,by decide⟩,⟨by decide,by decide⟩,⟨by decide,by decide⟩,⟨by decide,by decide⟩,by rw[bigN_eq];simp[payR],by rw[bigN_eq];simp[payR],by rw[bigN_eq];simp[payR],by rw[bigN_eq];simp[payR]⟩
theorem dblC_fit:dblC.Fit:=⟨by decide,⟨by decide,by decide⟩,by decide,by simp[dblC]⟩
theorem slfC_fit:slfC.Fit:=⟨by decide,⟨by decide,by decide⟩,by decide,by simp[slfC]⟩
set_option maxRecDepth 100000 in
theorem awake43_c:DC 10 [] (B true):=by
 intro tok nt box nb;have h1:=waysP_c exT exT_fit payR payR_fit dblC dblC_fit;have h2:=preserveP_c exT exT_fit payR payR_fit dblC dblC_fit;have h3:=waysP_c exT exT_fit payR payR_fit slfC slfC_fit;have hE:=example04_c;have hP:=pay43_c;have hD:=double43_c;obtain⟨a1,a2⟩:=aw43a;obtain⟨b1,b2⟩:=aw43b;obtain⟨c1,c2,c3⟩:=aw43c;generalize waysR exT payR dblC=L at *;generalize waysR exT payR slfC=M at *;generalize presR exT payR dblC=R at *;refine sI func10 ntmps10 fun Hb Ht=>?_
 repeat first|simp|refine sR ?_
 refine sD (hE _ _) ?_;repeat first|simp|refine sR ?_
 refine sD (hP _ _) ?_;repeat first|simp|refine sR ?_
 refine sD (hD _ _) ?_;repeat first|simp|refine sR ?_
 refine sD (h1 _ _) ?_;repeat first|simp|refine sR ?_
 refine sD (hD _ _) ?_;repeat first|simp|refine sR ?_
 refine sD (h2 _ _) ?_;repeat first|simp|refine sR ?_
 refine Stop.sub (args':=[exT.av,payR.av,slfC.av]) ⟨Sub.refl _,Sub.refl _,Sub.agg ⟨Sub.refl _,Sub.refl _,Sub.data _ _ _,Sub.data _ _ _,Sub.nil _ _ _,trivial⟩,trivial⟩ ?_;refine sD (h3 _ _) ?_;simp;try (simp[a1,a2,b1,b2,c1,c2,c3])
 repeat (first|(refine sR ?_;simp[a1,a2,b1,b2,c1,c2,c3])|(refine sC ?_;simp[a1,a2,b1,b2,c1,c2,c3])|(refine sX ?_;simp only[AU,↓reduceIte]))
 refine sT (sH Hb Ht ?_);simp[a1,a2,b1,b2,c1,c2,c3]
theorem fewM_fit2{m:Mo}(h:fewM m 140=true):m.Fit:=by
 simp[fewM] at h;exact⟨by omega,by omega⟩
theorem fewR_fit{r:Ru}(hb:r.Big)(h:fewR r=true):r.Fit:=by
 simp only[fewR,Bool.and_eq_true] at h;exact⟨fewG_fit h.1.1.1,fewG_fit h.1.1.2,fewM_fit2 h.1.2,fewM_fit2 h.2,hb.ls,hb.lt,hb.rs,hb.rt⟩
theorem movR_fb{s:Sp}{c:Cd}(hs:SpOk s)(hf:c.Fit):(movR s c).1.Fit/\(movR s c).1.Bare:=by
 unfold movR;split
 .exact nil_fb 0
 .rename_i h1;split
  .exact nil_fb 0
  .rename_i h2;split
   .exact nil_fb 0
   .have hk:=lft_ok _ c (Nat.lt_succ_self _) hf s hs (validC_zero (Decidable.not_not.1 h1)).2 (Decidable.not_not.1 h2);exact⟨hk.fit,hk.bare⟩
theorem leftR_fb{r:Ru}{c:Cd}(hf:c.Fit):(leftR r c).1.Fit/\(leftR r c).1.Bare:=by
 unfold leftR;split
 .exact nil_fb 0
 .rename_i h;exact movR_fb (strR_zero (Decidable.not_not.1 h)).1 hf
open Go Go.ChangeShapes
open Go.Proofs.Tryz
variable {P:Program}
def Rd(w:World)(cs:List Value)(ds:List D):Prop:=cs.length=ds.length/\∀i (h1:i<cs.length) (h2:i<ds.length),RVd w.cell? (fun _=>True) ds[i] cs[i]
theorem Rd.append{w:World}{cs cs':List Value}{ds ds':List D}(h:Rd w cs ds)(k:Rd w cs' ds'):Rd w (cs++cs') (ds++ds'):=by
 refine⟨by simp[h.1,k.1],fun i h1 h2=>?_⟩;by_cases hi:i<cs.length
 .rw[List.getElem_append_left hi,List.getElem_append_left (by rw[<-h.1];exact hi)];exact h.2 i hi _
 .have hl:=h.1;rw[List.getElem_append_right (by omega),List.getElem_append_right (by omega)];have:=k.2 (i-cs.length) (by simp at h1;omega) (by have:=k.1;simp at h1;omega)
  simpa[hl] using this
theorem Rd.one{w:World}{c:Value}{d:D}(h:RVd w.cell? (fun _=>True) d c):Rd w [c] [d]:=⟨rfl,fun i h1 h2=>by
 have:i=0:=by simpa using h1
 subst this;exact h⟩
def Light{H:Type}(P:Program)(T:TypeId)(d:DataW H):Prop:=(d.weights P T).all (· <= reachBytes)=true
structure Rdr (P:Program) (T:TypeId) (α:Type) where
 enc:α->List D
 ok:α->Prop
 len:∀x,(enc x).length=P.cellsOf T
 sound:∀{H:Type} (e:TypeId × Value->H) (w:World) (base:Nat) (spare:Nat->Bool) (held:Bool) (fuel:Nat) (cs:List Value) (x:DataW H × List MemPlace),
  DataW.trod e P w base spare held fuel T cs=some x->∃y,Rd w cs (enc y)/\(Light P T x.1->ok y)
def Rdr.int{T:TypeId}{k:IntKind}(h:P.underlying T=some (.int k))(hc:P.cellsOf T=1):Rdr P T Int where
 enc n:=[.raw (.int k n)]
 ok n:=(Lit.int k n).wf=true
 len _:=by simp[hc]
 sound e w base spare held fuel cs x hx:=by
  cases fuel with
  | zero=>simp[DataW.trod] at hx
  | succ n =>
   unfold DataW.trod at hx;rw[h] at hx;split at hx<;>simp_all
   rename_i k' n' _;exact⟨n',Rd.one (.raw rfl),fun _=>hx.1.2⟩
theorem cells_spec{w:World}{base:Nat}{a:Addr}{n:Nat}{l:List Value}(h:w.cells? base a n=some l):l.length=n/\∀i (hi:i<l.length),w.cell? (a.add i)=some l[i]:=by
 unfold World.cells? at h;split at h
 .have h1:l.length=n:=by have:=mapM_some_length h;simpa using this
  refine⟨h1,fun i hi=>?_⟩;have hin:i<n:=by omega
  have:=mapM_some_get h i i (by simp[hin])
  rw[this];exact List.getElem?_eq_getElem hi
 .cases h
theorem light_slice{H:Type}{T E:TypeId}(h:P.underlying T=some (.slice E)){elems rest:List (DataW H)}(hl:Light P T (.slice elems rest)):elems.length*P.bytesOf E<=reachBytes/\∀d∈elems,Light P E d:=by
 unfold Light at hl ⊢;simp only[DataW.weights,h,List.all_cons,List.all_append,Bool.and_eq_true,decide_eq_true_eq] at hl;refine⟨Nat.le_trans (Nat.mul_le_mul_right _ (Nat.le_add_right _ _)) hl.1,?_⟩;have key:∀l:List (DataW H),(DataW.weightsAll P E l).all (· <= reachBytes)=true->∀d∈l,(d.weights P E).all (· <= reachBytes)=true:=by
  intro l;induction l with
  | nil=>intro _ d hd;simp at hd
  | cons x l ih =>
   intro hx d hd;simp only[DataW.weightsAll,List.all_append,Bool.and_eq_true] at hx;rcases List.mem_cons.1 hd with rfl|hd
   .exact hx.1
   .exact ih hx.2 d hd
 exact key elems hl.2.1
def Rdr.slice{T E:TypeId}{α:Type}(r:Rdr P E α)(h:P.underlying T=some (.slice E))(hc:P.cellsOf T=1):Rdr P T (List α) where
 enc l:=[.sl (P.cellsOf E) (l.map r.enc)]
 ok l:=(∀x∈l,r.ok x)/\l.length*P.bytesOf E<=reachBytes
 len _:=by simp[hc]
 sound e w base spare held fuel cs x hx:=by
  rcases DataW.trod_slice h hx with ⟨rfl,rfl⟩|⟨a,len,cap,elems,rest,n,rfl,rfl,rfl,hb,hl,hm,hel,hat,_⟩
  .exact⟨[],Rd.one (.sl (es:=[]) (fun _ _=>default) (nr _) (by decide) (by simp) (by simp) (by simp) (by simp)),fun _=>⟨by simp,by simp⟩⟩
  .have key:∀i (hi:i<elems.length),∃cs y,cs.length=P.cellsOf E/\(∀j (hj:j<cs.length),w.cell? (a.add (i*P.cellsOf E+j))=some cs[j])/\Rd w cs (r.enc y)/\(Light P E elems[i].1->r.ok y):=by
    intro i hi;have h1:=hat i (by omega);have h2:elems[i]?=some elems[i]:=List.getElem?_eq_getElem hi
    rw[h2,Option.bind_eq_some_iff] at h1;obtain⟨cs,hcs,htr⟩:=h1;obtain⟨hcl,hcc⟩:=cells_spec hcs;obtain⟨y,hy,hok⟩:=r.sound e w base spare held n cs _ htr;refine⟨cs,y,hcl,fun j hj=>?_,hy,hok⟩;rw[<-Addr.add_add];exact hcc j hj
   have pick:∀m,m<=elems.length->∃ys:List α,ys.length=m/\(∀i (hi:i<ys.length) (hi2:i<elems.length),∃cs,cs.length=P.cellsOf E/\(∀j (hj:j<cs.length),w.cell? (a.add (i*P.cellsOf E+j))=some cs[j])/\Rd w cs (r.enc ys[i])/\(Light P E elems[i].1->r.ok ys[i])):=by
    intro m;induction m with
    | zero=>intro _;exact⟨[],rfl,fun i hi=>by simp at hi⟩
    | succ m ih =>
     intro hm';obtain⟨ys,hys,hall⟩:=ih (by omega);obtain⟨cs,y,g1,g2,g3,g4⟩:=key m (by omega);refine⟨ys++[y],by simp[hys],fun i hi hi2=>?_⟩;by_cases him:i<ys.length
     .rw[List.getElem_append_left him];exact hall i him hi2
     .have:i=m:=by simp at hi;omega
      subst this;have e1:(ys++[y])[i]=y:=by
       rw[List.getElem_append_right (by omega)];simp
      rw[e1];exact⟨cs,g1,g2,g3,g4⟩
   obtain⟨ys,hys,hall⟩:=pick elems.length (nr _);refine⟨ys,Rd.one ?_,fun hli=>?_⟩
   .have hlen:len=ys.length:=by omega
    subst hlen;have hml:ys.length=(ys.map r.enc).length:=by simp
    rw[hml];refine .sl (fun i j=>(w.cell? (a.add (i*P.cellsOf E+j))).getD default) (by simpa using hl) hm (fun e he=>?_) (fun _=>⟨a,rfl⟩) (fun a' ha' i j hi hj=>?_) (fun i j hi hj=>?_)
    .obtain⟨y,_,rfl⟩:=List.mem_map.1 he;exact r.len y
    .cases ha'
     obtain⟨cs,g1,g2,_⟩:=hall i (by simpa using hi) (by simp at hi;omega);rw[g2 j (by omega)];exact⟨trivial,rfl⟩
    .obtain⟨cs,g1,g2,g3,_⟩:=hall i (by simpa using hi) (by simp at hi;omega);simp only[List.getElem_map] at hj ⊢;have hjc:j<cs.length:=by rw[g3.1];exact hj
     rw[g2 j hjc];exact g3.2 j hjc hj
   .obtain⟨w1,w2⟩:=light_slice h hli;refine⟨fun y hy=>?_,by simpa[hys] using w1⟩;obtain⟨i,hi,rfl⟩:=List.getElem_of_mem hy;obtain⟨_,_,_,_,h4⟩:=hall i hi (by omega);exact h4 (w2 _ (List.mem_map.2 ⟨_,List.getElem_mem _,rfl⟩))
def Rdr.map{T:TypeId}{α β:Type}(r:Rdr P T α)(f:α->β)(enc:β->List D)(ok:β->Prop)(he:∀x,enc (f x)=r.enc x)(hok:∀x,r.ok x->ok (f x))(hl:∀y,(enc y).length=P.cellsOf T):Rdr P T β where
 enc:=enc
 ok:=ok
 len:=hl
 sound e w base spare held fuel cs x hx:=by
  obtain⟨y,h1,h2⟩:=r.sound e w base spare held fuel cs x hx;exact⟨f y,by rw[he];exact h1,fun hl=>hok y (h2 hl)⟩
def Rdr.sliceN{T E:TypeId}{α:Type}(r:Rdr P E α)(n:Nat)(h:P.underlying T=some (.slice E))(hc:P.cellsOf T=1)(hn:P.cellsOf E=n):Rdr P T (List α) where
 enc l:=[.sl n (l.map r.enc)]
 ok l:=(∀x∈l,r.ok x)/\l.length*P.bytesOf E<=reachBytes
 len _:=by simp[hc]
 sound:=by
  subst hn;exact(Rdr.slice r h hc).sound
theorem list2{α:Type}{l:List α}(h:l.length=2):l=[l[0]'(by omega),l[1]'(by omega)]:=by
 match l,h with
 | [p,q],_=>rfl
theorem list3{α:Type}{l:List α}(h:l.length=3):l=[l[0]'(by omega),l[1]'(by omega),l[2]'(by omega)]:=by
 match l,h with
 | [p,q,r],_=>rfl
def Rdr.struct2{T A B:TypeId}{α β:Type}(r:Rdr P A α)(s:Rdr P B β){f0 f1:Field}(h:P.underlying T=some (.struct #[f0,f1]))(hA:f0.type=A)(hB:f1.type=B)(h0:f0.offset=0)(h1:f1.offset=P.cellsOf A)(hc:P.cellsOf T=P.cellsOf A+P.cellsOf B):Rdr P T (α × β) where
 enc x:=r.enc x.1++s.enc x.2
 ok x:=r.ok x.1/\s.ok x.2
 len x:=by simp[r.len,s.len,hc]
 sound e w base spare held fuel cs x hx:=by
  obtain⟨xs,n,rfl,rfl,hl,hxs,hat⟩:=DataW.trod_struct h hx;have hxs':xs.length=2:=hxs
  have g0:=hat 0 f0 rfl;have g1:=hat 1 f1 rfl;have e0:xs[0]?=some (xs[0]'(by omega)):=List.getElem?_eq_getElem (by omega)
  have e1:xs[1]?=some (xs[1]'(by omega)):=List.getElem?_eq_getElem (by omega)
  rw[e0,h0,hA] at g0;rw[e1,h1,hB] at g1;obtain⟨y,k1,k2⟩:=r.sound e w base spare held n _ _ g0;obtain⟨z,m1,m2⟩:=s.sound e w base spare held n _ _ g1;refine⟨(y,z),?_,fun hli=>?_⟩
  rotate_left
  .unfold Light at hli k2 m2;have e2:xs=[xs[0]'(by omega),xs[1]'(by omega)]:=list2 hxs'
   rw[e2] at hli;simp only[List.map_cons,List.map_nil,DataW.weights,h,DataW.weightsEach,hA,hB,List.all_append,Bool.and_eq_true] at hli;exact⟨k2 hli.1,m2 hli.2.1⟩
  have hcs:cs=(cs.drop 0).take (P.cellsOf A)++(cs.drop (P.cellsOf A)).take (P.cellsOf B):=by
   have:(cs.drop (P.cellsOf A)).take (P.cellsOf B)=cs.drop (P.cellsOf A):=List.take_of_length_le (by simp;omega)
   rw[this,List.drop_zero,List.take_append_drop]
  rw[hcs];exact k1.append m1
def Rdr.struct3{T A B C:TypeId}{α β γ:Type}(r:Rdr P A α)(s:Rdr P B β)(t:Rdr P C γ){f0 f1 f2:Field}(h:P.underlying T=some (.struct #[f0,f1,f2]))(hA:f0.type=A)(hB:f1.type=B)(hC:f2.type=C)(h0:f0.offset=0)(h1:f1.offset=P.cellsOf A)(h2:f2.offset=P.cellsOf A+P.cellsOf B)(hc:P.cellsOf T=P.cellsOf A+P.cellsOf B+P.cellsOf C):Rdr P T (α × β × γ) where
 enc x:=r.enc x.1++(s.enc x.2.1++t.enc x.2.2)
 ok x:=r.ok x.1/\s.ok x.2.1/\t.ok x.2.2
 len x:=by simp[r.len,s.len,t.len,hc];omega
 sound e w base spare held fuel cs x hx:=by
  obtain⟨xs,n,rfl,rfl,hl,hxs,hat⟩:=DataW.trod_struct h hx;have hxs':xs.length=3:=hxs
  have g0:=hat 0 f0 rfl;have g1:=hat 1 f1 rfl;have g2:=hat 2 f2 rfl;have e0:xs[0]?=some (xs[0]'(by omega)):=List.getElem?_eq_getElem (by omega)
  have e1:xs[1]?=some (xs[1]'(by omega)):=List.getElem?_eq_getElem (by omega)
  have e2:xs[2]?=some (xs[2]'(by omega)):=List.getElem?_eq_getElem (by omega)
  rw[e0,h0,hA] at g0;rw[e1,h1,hB] at g1;rw[e2,h2,hC] at g2;obtain⟨y,k1,k2⟩:=r.sound e w base spare held n _ _ g0;obtain⟨z,m1,m2⟩:=s.sound e w base spare held n _ _ g1;obtain⟨q,p1,p2⟩:=t.sound e w base spare held n _ _ g2;refine⟨(y,z,q),?_,fun hli=>?_⟩
  rotate_left
  .unfold Light at hli k2 m2 p2;have e2:xs=[xs[0]'(by omega),xs[1]'(by omega),xs[2]'(by omega)]:=list3 hxs'
   rw[e2] at hli;simp only[List.map_cons,List.map_nil,DataW.weights,h,DataW.weightsEach,hA,hB,hC,List.all_append,Bool.and_eq_true] at hli;exact⟨k2 hli.1,m2 hli.2.1,p2 hli.2.2.1⟩
  have hcs:cs=(cs.drop 0).take (P.cellsOf A)++((cs.drop (P.cellsOf A)).take (P.cellsOf B)++(cs.drop (P.cellsOf A+P.cellsOf B)).take (P.cellsOf C)):=by
   have:(cs.drop (P.cellsOf A+P.cellsOf B)).take (P.cellsOf C)=cs.drop (P.cellsOf A+P.cellsOf B):=List.take_of_length_le (by simp;omega)
   rw[this,<-List.drop_drop,List.take_append_drop,List.drop_zero,List.take_append_drop]
  rw[hcs];exact k1.append (m1.append p1)
def G0:Gh:=⟨fun _=>none,fun _=>none,fun _=>.whole,0⟩
def m0:AMem:=⟨fun _=>none,0,fun _=>false,0⟩
theorem G0_ps(a:Addr):G0.ps a:=trivial
theorem relM_start(W:World):RelM G0 m0 W:=by
 constructor
 case box=>intro k rows b sz h;cases h
 case nobox=>intro k _;rfl
 case inj=>intro k k' b sz sz' h;cases h
 case nb=>intro k _;rfl
 case nt=>rfl
 case toks=>intro t h;cases h
 case tokb=>intro t g h;cases h
 case tinj=>intro t t' g h;cases h
 case tnt=>intro t x h;cases h
 case fresh=>intro b _;rfl
theorem RVd.start{W:World}{d:D}{v:Value}(h:RVd W.cell? (fun _=>True) d v):RVd W.cell? G0.ps d v:=h.mono fun a u _ hc=>⟨G0_ps a,hc⟩
theorem Rdr.agg{T:TypeId}{α:Type}(r:Rdr P T α){W:World}{base base':Nat}{sp:Nat->Bool}{held:Bool}{H:Type}{enc:TypeId × Value->H}{v:Value}{d:DataW H}{p:List MemPlace}(hs:aggT P T=some true)(hv:Value.okWide P W .any base T v)(h:DataW.Trod enc P W base' sp held T v d p)(hli:Light P T d):∃y,r.ok y/\RV G0 W (.agg ((r.enc y).map .d)) v:=by
 have hcs:∃cs,v=.agg cs:=by
  unfold aggT at hs;unfold Value.okWide at hv;cases hu:P.underlying T with
  | none=>rw[hu] at hs;simp at hs
  | some u =>
   rw[hu] at hs hv;cases u<;>simp at hs hv<;>exact⟨_,hv.choose_spec.1⟩
 obtain⟨cs,rfl⟩:=hcs;obtain⟨fuel,h⟩:=h;obtain⟨y,⟨h1,h2⟩,hok⟩:=r.sound enc W base' sp held fuel _ _ h;refine⟨y,hok hli,?_⟩;simp only[Value.cells] at h1 h2;have:=RV.agg (G:=G0) (w:=W) (cs:=(r.enc y).map .d) (vs:=cs.toList) (by simp[h1]) (fun i g1 g2=>by
  simp only[List.getElem_map];exact .d (h2 i g2 (by simpa using g1)).start) (fun v hv=>by
  obtain⟨i,hi,rfl⟩:=List.getElem_of_mem hv;exact(h2 i hi (by omega)).one)
 simpa using this
theorem Rdr.cell{T:TypeId}{α:Type}(r:Rdr P T α){W:World}{base base':Nat}{sp:Nat->Bool}{held:Bool}{H:Type}{enc:TypeId × Value->H}{v:Value}{d:DataW H}{p:List MemPlace}(f:α->D)(hs:aggT P T=some false)(hf:∀y,r.enc y=[f y])(hv:Value.okWide P W .any base T v)(h:DataW.Trod enc P W base' sp held T v d p)(hli:Light P T d):∃y,r.ok y/\RV G0 W (.d (f y)) v:=by
 obtain⟨fuel,h⟩:=h;obtain⟨y,⟨h1,h2⟩,hok⟩:=r.sound enc W base' sp held fuel _ _ h;refine⟨y,hok hli,?_⟩;rw[hf] at h1;have hcs:v.cells.toList=[v]:=by
  cases v with
  | agg cs =>
   exfalso
   unfold aggT at hs;unfold Value.okWide Cell.okWide Cell.ok at hv;cases hu:P.underlying T with
   | none=>rw[hu] at hs;simp at hs
   | some u =>
    rw[hu] at hs hv;cases u<;>simp_all
  | _=>rfl
 have:=h2 0 (by rw[h1];simp) (by rw[hf];simp)
 simp only[hf,List.getElem_cons_zero] at this;have e:v.cells.toList[0]'(by rw[h1];simp)=v:=by simp[hcs]
 rw[e] at this;exact .d this.start
theorem light_arg{H:Type}{ts:List TypeId}{ds:List (DataW H)}(hz:(DataW.weightsEach P ts ds).all (· <= reachBytes)=true){j:Nat}{T:TypeId}{d:DataW H}(ht:ts[j]?=some T)(hd:ds[j]?=some d):Light P T d :=
 List.all_eq_true.2 fun x hx=>List.all_eq_true.1 hz x (DataW.weights_mem_each ht hd x hx)
theorem arg_agg{ps:Array TypeId}{args:Array Value}{W:World}{base base':Nat}{sp:Nat->Bool}{held:Bool}{H:Type}{enc:TypeId × Value->H}(hval:∀(j:Nat) t v,ps[j]?=some t->args[j]?=some v->Value.okWide P W .any base t v)(j:Nat)(T:TypeId)(v:Value)(hp:ps[j]?=some T)(ha:args[j]?=some v){α:Type}(r:Rdr P T α){d:DataW H}{p:List MemPlace}(hs:aggT P T=some true)(h:DataW.Trod enc P W base' sp held T v d p)(hli:Light P T d):
  ∃y,r.ok y/\RV G0 W (.agg ((r.enc y).map .d)) v:=r.agg hs (hval j T v hp ha) h hli
theorem le_old{W W':World}{G':Gh}(h:Le G0 W G' W')(b:Nat)(hb:b<W.heap.size):W'.heap[b]?=W.heap[b]?:=(h.whole b hb rfl).2
theorem le_kept{W W':World}{G':Gh}(h:Le G0 W G' W')(may:MemPlace->Prop):W.keptBut W' may:=by
 refine⟨h.os,h.output,fun i hi=>?_⟩;rw[le_old h i hi];split
 .rename_i c t fr c' t' fr' e1 e2;rw[e1] at e2;cases e2;exact⟨rfl,rfl,rfl,fun _ _=>rfl⟩
 .rename_i e1 e2;rw[e1] at e2;cases e2;exact .inr ⟨rfl,rfl⟩
 .rfl
theorem le_same{W W':World}{G':Gh}(h:Le G0 W G' W'){p:MemPlace}(hp:p.block<W.heap.size):W.sameAt W' p:=by
 cases p with
 | cell b off=>exact World.cell?_of_block (w:=W) (a:=⟨b,off,none⟩) (le_old h b hp)
 | map b=>exact le_old h b hp
theorem trodAll_stays{H:Type}{enc:TypeId × Value->H}{W W':World}{T:TypeId->Prop}{sp':Nat->Bool}(K:Kids P T)(hsz:∀{t e:TypeId},T t->P.underlying t=some (.slice e)->0<P.cellsOf e):
  ∀{ts:List TypeId} {vs:List Value} {ds:List (DataW H)} {ps:List MemPlace},(∀t∈ts,T t)->DataW.TrodAll enc P W 0 (fun _=>true) true ts vs ds ps->(∀p∈ps,W.sameAt W' p)->(∀p∈ps,sp' p.block=true) ->
  DataW.TrodAll enc P W' 0 sp' true ts vs ds ps
 | [],[],[],_,_,h,_,_=>h
 | t::ts,v::vs,d::ds,_,hT,⟨p,q,⟨n,hn⟩,h2,e⟩,h3,h4=>by
  subst e;exact⟨p,q,⟨n,DataW.trod_stays K hsz (fun h=>by cases h) (hT t (by simp)) hn (fun x hx=>h3 x (by simp[hx])) (fun x hx=>h4 x (by simp[hx]))⟩,
   trodAll_stays K hsz (fun t ht=>hT t (by simp[ht])) h2 (fun x hx=>h3 x (by simp[hx])) (fun x hx=>h4 x (by simp[hx])),rfl⟩
theorem law_of{f:FuncId}{fn:Func}{s:ChangeSpec}{H:Type}{enc:TypeId × Value->H}{W:World}{args:Array Value}{ds:List (DataW H)}{before:List MemPlace}{avs:List AV}{tok':Nat->Bool}{nt':Nat}(hl:laidOutB P=true)(hm:mapsRowed P=true)(hz:((List.range P.types.size).all fun t=>match P.underlying t with|some (.slice e)=>decide (0<P.cellsOf e)|_=>true)=true)(hpar:fn.params.all (· < P.types.size)=true){tb:TypeId}(hres:fn.resultTypes = #[tb])(hb:P.underlying tb=some .bool)(hvars:s.vars=[])(hfn:s.fn H ds={ results:=[.lit (.bool true)],args:=ds })(hW:DataW.Whole enc P fn.params.toList s.vars false W args.toList ds [] before)(hr:RVs G0 W avs args.toList)(hc:DCall P f avs (fun _=>false) 0 (B true) tok' nt'):
  Calls P f args W fun e W'=>∃v,e=.returned v/\s.post enc P fn false true false false W args v W':=by
 have hcall:=(hc (fun _=>none) 0).2 G0 W args.toList (relM_start W) hr;simp only[Array.toArray_toList] at hcall;refine hcall.mono ?_;rintro e W' ⟨v,av,m',G',rfl,⟨rfl,rfl⟩,_,_,hv,hle,_⟩;cases hv with
 | d hv =>
  cases hv with
  | raw =>
   refine⟨_,rfl,?_⟩;have hlt:=hW.lt;have hWW:=hW;obtain⟨p,q,hA,hV,rfl,hfz,hnd⟩:=hW;rw[hvars] at hV;obtain⟨_,rfl⟩:=trodVars_none hV;simp only[List.append_nil] at hlt hfz hWW ⊢;have hT:∀t∈fn.params.toList,t<P.types.size:=fun t ht=>by
    have:=Array.all_eq_true_iff_forall_mem.1 hpar t (by simpa using ht)
    simpa using this
   have hsz:∀{t e:TypeId},t<P.types.size->P.underlying t=some (.slice e)->0<P.cellsOf e:=by
    intro t e ht hu;have:=List.all_eq_true.1 hz t (List.mem_range.2 ht)
    rw[hu] at this;simpa using this
   have hargs:∀sp:Nat->Bool,(∀x∈p,sp x.block=true)->DataW.TrodAll enc P W' 0 sp true fn.params.toList args.toList ds p:=fun sp hsp =>
    trodAll_stays (kids_rows hl hm) hsz hT hA (fun x hx=>le_same hle (hlt x hx)) hsp
   have hnat:(Value.bool true).resultList fn.resultTypes.size=[.bool true]:=by rw[hres];rfl
   have hresb:∀(b:Nat) (sp:Nat->Bool) (hd:Bool),DataW.TrodAll enc P W' b sp hd fn.resultTypes.toList ((Value.bool true).resultList fn.resultTypes.size) [.lit (.bool true)] []:=fun b sp hd=>by
    rw[hnat,hres];exact trodAll_mk1 ⟨1,by simp[DataW.trod,hb,Value.cells]⟩
   have hfn':s.fn H (ds++[])={ results:=[.lit (.bool true)],args:=ds }:=by rw[List.append_nil];exact hfn
   refine⟨ds,[],p,[],p,[],hWW,?_,?_,?_,World.keptBut_mono (fun _ f=>f.elim) (le_kept hle fun _=>False),fun h=>by cases h⟩
   .rw[hfn'];exact hresb _ _ _
   .rw[hfn'];exact hargs _ fun x hx=>by simpa using hlt x hx
   .rw[hfn',hvars];exact rfl
theorem own0:ownKnob prog.godebug=none:=by kernel_rfl
theorem laidOut0:laidOutB prog=true:=by kernel_rfl
theorem mapsRowed0:mapsRowed prog=true:=by kernel_rfl
theorem slices0:((List.range prog.types.size).all fun t=>match prog.underlying t with|some (.slice e)=>decide (0<prog.cellsOf e)|_=>true)=true:=by kernel_rfl
def rdInt:Rdr prog 3 Int:=Rdr.int (k:=.i64) underlying3 (by kernel_rfl)
def rdInts:Rdr prog 26 (List Int):=rdInt.sliceN 1 underlying26 (by kernel_rfl) (by kernel_rfl)
def rdEdge0:Rdr prog 88 (Int × Int × Int):=Rdr.struct3 rdInt rdInt rdInt underlying88 rfl rfl rfl rfl (by kernel_rfl) (by kernel_rfl) (by kernel_rfl)
def rdEdge:Rdr prog 88 E:=rdEdge0.map (fun x=>⟨x.1,x.2.1,x.2.2⟩) E.cells (fun _=>True) (fun _=>rfl) (fun _ _=>trivial) (fun _=>by kernel_rfl)
def rdEdges:Rdr prog 27 (List E):=rdEdge.sliceN 3 underlying27 (by kernel_rfl) (by kernel_rfl)
def rdGraph0:Rdr prog 29 (List Int × List E):=Rdr.struct2 rdInts rdEdges underlying29 rfl rfl rfl (by kernel_rfl) (by kernel_rfl)
structure RdF (P:Program) (T:TypeId) {α:Type} (en:α->List D) (ok:α->Prop) (n:Nat):Prop where
 sound:∀{H:Type} (e:TypeId × Value->H) (w:World) (base:Nat) (spare:Nat->Bool) (held:Bool) (cs:List Value) (x:DataW H × List MemPlace),
  DataW.trod e P w base spare held n T cs=some x->∃y,Rd w cs (en y)/\(Light P T x.1->ok y)
theorem Rdr.f{P:Program}{T:TypeId}{α:Type}(r:Rdr P T α)(n:Nat):RdF P T r.enc r.ok n:=⟨fun e w base spare held cs x hx=>r.sound e w base spare held n cs x hx⟩
theorem RdF.zero{P:Program}{T:TypeId}{α:Type}{en:α->List D}{ok:α->Prop}:RdF P T en ok 0:=⟨fun e w base spare held cs x hx=>by simp[DataW.trod] at hx⟩
def Rdr.ofF{P:Program}{T:TypeId}{α:Type}(en:α->List D)(ok:α->Prop)(len:∀x,(en x).length=P.cellsOf T)(h:∀n,RdF P T en ok n):Rdr P T α:=⟨en,ok,len,fun e w base spare held n cs x hx=>(h n).sound e w base spare held cs x hx⟩
theorem RdF.slice{P:Program}{T E:TypeId}{α:Type}{en:α->List D}{ok:α->Prop}{n:Nat}(r:RdF P E en ok n)(k:Nat)(hk:P.cellsOf E=k)(hlen:∀x,(en x).length=k)(h:P.underlying T=some (.slice E)):
  RdF P T (fun l:List α=>[.sl k (l.map en)]) (fun l=>(∀x∈l,ok x)/\l.length*P.bytesOf E<=reachBytes) (n+1):=by
 subst hk;constructor
 intro H e w base spare held cs x hx;rcases DataW.trod_slice h hx with ⟨rfl,rfl⟩|⟨a,len,cap,elems,rest,n',hn',rfl,rfl,hb,hl,hm,hel,hat,_⟩
 .exact⟨[],Rd.one (.sl (es:=[]) (fun _ _=>default) (nr _) (by decide) (by simp) (by simp) (by simp) (by simp)),fun _=>⟨by simp,by simp⟩⟩
 .obtain rfl:n'=n:=by omega
  have key:∀i (hi:i<elems.length),∃cs y,cs.length=P.cellsOf E/\(∀j (hj:j<cs.length),w.cell? (a.add (i*P.cellsOf E+j))=some cs[j])/\Rd w cs (en y)/\(Light P E elems[i].1->ok y):=by
   intro i hi;have h1:=hat i (by omega);have h2:elems[i]?=some elems[i]:=List.getElem?_eq_getElem hi
   rw[h2,Option.bind_eq_some_iff] at h1;obtain⟨cs,hcs,htr⟩:=h1;obtain⟨hcl,hcc⟩:=cells_spec hcs;obtain⟨y,hy,hok⟩:=r.sound e w base spare held cs _ htr;refine⟨cs,y,hcl,fun j hj=>?_,hy,hok⟩;rw[<-Addr.add_add];exact hcc j hj
  have pick:∀m,m<=elems.length->∃ys:List α,ys.length=m/\(∀i (hi:i<ys.length) (hi2:i<elems.length),∃cs,cs.length=P.cellsOf E/\(∀j (hj:j<cs.length),w.cell? (a.add (i*P.cellsOf E+j))=some cs[j])/\Rd w cs (en ys[i])/\(Light P E elems[i].1->ok ys[i])):=by
   intro m;induction m with
   | zero=>intro _;exact⟨[],rfl,fun i hi=>by simp at hi⟩
   | succ m ih =>
    intro hm';obtain⟨ys,hys,hall⟩:=ih (by omega);obtain⟨cs,y,g1,g2,g3,g4⟩:=key m (by omega);refine⟨ys++[y],by simp[hys],fun i hi hi2=>?_⟩;by_cases him:i<ys.length
    .rw[List.getElem_append_left him];exact hall i him hi2
    .have:i=m:=by simp at hi;omega
     subst this;have e1:(ys++[y])[i]=y:=by
      rw[List.getElem_append_right (by omega)];simp
     rw[e1];exact⟨cs,g1,g2,g3,g4⟩
  obtain⟨ys,hys,hall⟩:=pick elems.length (nr _);refine⟨ys,Rd.one ?_,fun hli=>?_⟩
  .have hlen':len=ys.length:=by omega
   subst hlen';have hml:ys.length=(ys.map en).length:=by simp
   rw[hml];refine .sl (fun i j=>(w.cell? (a.add (i*P.cellsOf E+j))).getD default) (by simpa using hl) hm (fun e he=>?_) (fun _=>⟨a,rfl⟩) (fun a' ha' i j hi hj=>?_) (fun i j hi hj=>?_)
   .obtain⟨y,_,rfl⟩:=List.mem_map.1 he;exact hlen y
   .cases ha'
    obtain⟨cs,g1,g2,_⟩:=hall i (by simpa using hi) (by simp at hi;omega);rw[g2 j (by omega)];exact⟨trivial,rfl⟩
   .obtain⟨cs,g1,g2,g3,_⟩:=hall i (by simpa using hi) (by simp at hi;omega);simp only[List.getElem_map] at hj ⊢;have hjc:j<cs.length:=by rw[g3.1];exact hj
    rw[g2 j hjc];exact g3.2 j hjc hj
  .obtain⟨w1,w2⟩:=light_slice h hli;refine⟨fun y hy=>?_,by simpa[hys] using w1⟩;obtain⟨i,hi,rfl⟩:=List.getElem_of_mem hy;obtain⟨_,_,_,_,h4⟩:=hall i hi (by omega);exact h4 (w2 _ (List.mem_map.2 ⟨_,List.getElem_mem _,rfl⟩))
theorem list4{α:Type}{l:List α}(h:l.length=4):l=[l[0]'(by omega),l[1]'(by omega),l[2]'(by omega),l[3]'(by omega)]:=by
 match l,h with
 | [p,q,r,s],_=>rfl
theorem RdF.struct4{P:Program}{T A B C E:TypeId}{α β γ δ:Type}{ea:α->List D}{eb:β->List D}{ec:γ->List D}{ed:δ->List D}{oa:α->Prop}{ob:β->Prop}{oc:γ->Prop}{od:δ->Prop}{n:Nat}(r:RdF P A ea oa n)(s:RdF P B eb ob n)(t:RdF P C ec oc n)(u:RdF P E ed od n){f0 f1 f2 f3:Field}(h:P.underlying T=some (.struct #[f0,f1,f2,f3]))(hA:f0.type=A)(hB:f1.type=B)(hC:f2.type=C)(hE:f3.type=E)(h0:f0.offset=0)(h1:f1.offset=P.cellsOf A)(h2:f2.offset=P.cellsOf A+P.cellsOf B)(h3:f3.offset=P.cellsOf A+P.cellsOf B+P.cellsOf C)(hc:P.cellsOf T=P.cellsOf A+P.cellsOf B+P.cellsOf C+P.cellsOf E):
  RdF P T (fun x:α × β × γ × δ=>ea x.1++(eb x.2.1++(ec x.2.2.1++ed x.2.2.2))) (fun x=>oa x.1/\ob x.2.1/\oc x.2.2.1/\od x.2.2.2) (n+1):=by
 constructor
 intro H e w base spare held cs x hx;obtain⟨xs,n',hn',rfl,hl,hxs,hat⟩:=DataW.trod_struct h hx;obtain rfl:n'=n:=by omega
 have hxs':xs.length=4:=hxs
 have g0:=hat 0 f0 rfl;have g1:=hat 1 f1 rfl;have g2:=hat 2 f2 rfl;have g3:=hat 3 f3 rfl;have e0:xs[0]?=some (xs[0]'(by omega)):=List.getElem?_eq_getElem (by omega)
 have e1:xs[1]?=some (xs[1]'(by omega)):=List.getElem?_eq_getElem (by omega)
 have e2:xs[2]?=some (xs[2]'(by omega)):=List.getElem?_eq_getElem (by omega)
 have e3:xs[3]?=some (xs[3]'(by omega)):=List.getElem?_eq_getElem (by omega)
 rw[e0,h0,hA] at g0;rw[e1,h1,hB] at g1;rw[e2,h2,hC] at g2;rw[e3,h3,hE] at g3;obtain⟨y,k1,k2⟩:=r.sound e w base spare held _ _ g0;obtain⟨z,m1,m2⟩:=s.sound e w base spare held _ _ g1;obtain⟨q,p1,p2⟩:=t.sound e w base spare held _ _ g2;obtain⟨v,q1,q2⟩:=u.sound e w base spare held _ _ g3;refine⟨(y,z,q,v),?_,fun hli=>?_⟩
 rotate_left
 .unfold Light at hli k2 m2 p2 q2;have e2:xs=[xs[0]'(by omega),xs[1]'(by omega),xs[2]'(by omega),xs[3]'(by omega)]:=list4 hxs'
  rw[e2] at hli;simp only[List.map_cons,List.map_nil,DataW.weights,h,DataW.weightsEach,hA,hB,hC,hE,List.all_append,Bool.and_eq_true] at hli;exact⟨k2 hli.1,m2 hli.2.1,p2 hli.2.2.1,q2 hli.2.2.2.1⟩
 have hcs:cs=(cs.drop 0).take (P.cellsOf A)++((cs.drop (P.cellsOf A)).take (P.cellsOf B)++((cs.drop (P.cellsOf A+P.cellsOf B)).take (P.cellsOf C)++(cs.drop (P.cellsOf A+P.cellsOf B+P.cellsOf C)).take (P.cellsOf E))):=by
  have:(cs.drop (P.cellsOf A+P.cellsOf B+P.cellsOf C)).take (P.cellsOf E)=cs.drop (P.cellsOf A+P.cellsOf B+P.cellsOf C):=List.take_of_length_le (by simp;omega)
  rw[this];have e3:=List.take_append_drop (P.cellsOf C) (cs.drop (P.cellsOf A+P.cellsOf B));have e2:=List.take_append_drop (P.cellsOf B) (cs.drop (P.cellsOf A));rw[List.drop_drop] at e3 e2;rw[e3,e2,List.drop_zero,List.take_append_drop]
 rw[hcs];exact k1.append (m1.append (p1.append q1))
theorem by_int:prog.bytesOf 3=8:=by kernel_rfl
theorem by_edge:prog.bytesOf 88=24:=by kernel_rfl
theorem by_slot:prog.bytesOf 105=32:=by kernel_rfl
theorem by_test:prog.bytesOf 107=40:=by kernel_rfl
theorem by_cond:prog.bytesOf 39=184:=by kernel_rfl
theorem rdInts_ok{l:List Int}(h:rdInts.ok l):l.length<=bigN:=by
 have h2:l.length*prog.bytesOf 3<=reachBytes:=h.2
 rw[by_int] at h2;unfold reachBytes at h2;rw[bigN_eq];omega
theorem rdEdges_ok{l:List E}(h:rdEdges.ok l):l.length<=bigN:=by
 have h2:l.length*prog.bytesOf 88<=reachBytes:=h.2
 rw[by_edge] at h2;unfold reachBytes at h2;rw[bigN_eq];omega
structure Gr.Big (g:Gr):Prop where
 n:g.nodes.length<=bigN
 e:g.edges.length<=bigN
def rdGraphB:Rdr prog 29 Gr:=rdGraph0.map (fun x=>⟨x.1,x.2⟩) (fun g=>[ints g.nodes,AM.edges g.edges]) Gr.Big (fun _=>rfl) (fun _ h=>⟨rdInts_ok h.1,rdEdges_ok h.2⟩) (fun _=>by kernel_rfl)
def rdMorph0:Rdr prog 36 (List Int × List Int):=Rdr.struct2 rdInts rdInts underlying36 rfl rfl rfl (by kernel_rfl) (by kernel_rfl)
def rdTerm:Rdr prog 103 (Int × Int):=Rdr.struct2 rdInt rdInt underlying103 rfl rfl rfl (by kernel_rfl) (by kernel_rfl)
def rdSlot0:Rdr prog 105 (Int × Int × Int × Int):=Rdr.struct3 rdInt rdInt rdTerm underlying105 rfl rfl rfl rfl (by kernel_rfl) (by kernel_rfl) (by kernel_rfl)
def rdSlot:Rdr prog 105 Sl:=rdSlot0.map (fun x=>⟨x.1,x.2.1,x.2.2.1,x.2.2.2⟩) Sl.cells (fun _=>True) (fun _=>rfl) (fun _ _=>trivial) (fun _=>by kernel_rfl)
def rdSlots:Rdr prog 30 (List Sl):=rdSlot.sliceN 4 underlying30 (by kernel_rfl) (by kernel_rfl)
def rdTest0:Rdr prog 107 (Int × (Int × Int) × (Int × Int)):=Rdr.struct3 rdInt rdTerm rdTerm underlying107 rfl rfl rfl rfl (by kernel_rfl) (by kernel_rfl) (by kernel_rfl)
def rdTest:Rdr prog 107 Te:=rdTest0.map (fun x=>⟨x.1,x.2.1.1,x.2.1.2,x.2.2.1,x.2.2.2⟩) Te.cells (fun _=>True) (fun _=>rfl) (fun _ _=>trivial) (fun _=>by kernel_rfl)
def rdTests:Rdr prog 31 (List Te):=rdTest.sliceN 5 underlying31 (by kernel_rfl) (by kernel_rfl)
theorem rdPat_n(n:Nat):RdF prog 33 (fun x:Gr × List Sl × Int × List Te=>rdGraphB.enc x.1++(rdSlots.enc x.2.1++(rdInt.enc x.2.2.1++rdTests.enc x.2.2.2))) (fun x=>rdGraphB.ok x.1/\rdSlots.ok x.2.1/\rdInt.ok x.2.2.1/\rdTests.ok x.2.2.2) n:=by
 cases n with
 | zero=>exact .zero
 | succ n=>exact RdF.struct4 (rdGraphB.f n) (rdSlots.f n) (rdInt.f n) (rdTests.f n) underlying33 rfl rfl rfl rfl rfl (by kernel_rfl) (by kernel_rfl) (by kernel_rfl) (by kernel_rfl)
def rdPat:Rdr prog 33 (Gr × List Sl × Int × List Te):=Rdr.ofF _ _ (fun x=>by simp[rdGraphB.len,rdSlots.len,rdInt.len,rdTests.len];kernel_rfl) rdPat_n
def Cd.rowD(c:Cd):List D:=[.raw (.int .i64 c.kind),conds c.kids,ints c.m.nodes,ints c.m.edges,ints c.g.nodes,AM.edges c.g.edges,slots c.sl,.raw (.int .i64 c.vars),tests c.te]
theorem rdCd_n:∀n,RdF prog 39 Cd.cells Cd.Big n
 | 0=>.zero
 | 1=>by
  constructor
  intro H e w base spare held cs x hx;obtain⟨xs,n',hn',rfl,hl,hxs,hat⟩:=DataW.trod_struct underlying39 hx;obtain rfl:n'=0:=by omega
  have g0:=hat 0 _ rfl;simp[DataW.trod] at g0;subst g0;simp at hxs
 | n+2=>by
  have ih:=rdCd_n n;have hk:=ih.slice 9 (by kernel_rfl) (fun c=>by rw[c.cells_eq];rfl) (T:=37) underlying37;have hs:=RdF.struct4 (rdInt.f (n+1)) hk (rdMorph0.f (n+1)) (rdPat.f (n+1)) underlying39 rfl rfl rfl rfl rfl (by kernel_rfl) (by kernel_rfl) (by kernel_rfl) (by kernel_rfl);constructor
  intro H e w base spare held cs x hx;obtain⟨y,h1,h2⟩:=hs.sound e w base spare held cs x hx;refine⟨.mk y.1 y.2.1 ⟨y.2.2.1.1,y.2.2.1.2⟩ y.2.2.2.1 y.2.2.2.2.1 y.2.2.2.2.2.1 y.2.2.2.2.2.2,?_,fun hli=>?_⟩
  .rw[Cd.cells_eq];exact h1
  .obtain⟨_,⟨k1,k2⟩,⟨m1,m2⟩,g1,s1,_,t1⟩:=h2 hli;have g2:y.2.2.2.1.Big:=g1
   have s2:y.2.2.2.2.1.length*prog.bytesOf 105<=reachBytes:=s1.2
   have t2:y.2.2.2.2.2.2.length*prog.bytesOf 107<=reachBytes:=t1.2
   rw[by_slot] at s2;rw[by_test] at t2;rw[by_cond] at k2;unfold reachBytes at s2 t2 k2;exact .mk (by rw[kidN_eq];simp only[Cd.kids];omega) (rdInts_ok m1) (rdInts_ok m2) g2.n g2.e (by rw[bigN_eq];simp only[Cd.sl];omega) (by rw[bigN_eq];simp only[Cd.te];omega) k1
theorem rdCd_len(c:Cd):c.cells.length=prog.cellsOf 39:=by rw[c.cells_eq];kernel_rfl
def rdCd:Rdr prog 39 Cd:=Rdr.ofF Cd.cells Cd.Big rdCd_len rdCd_n
def Rdr.str{P:Program}{T:TypeId}(h:P.underlying T=some .string)(hc:P.cellsOf T=1):Rdr P T ByteArray where
 enc n:=[.raw (.string n)]
 ok n:=n.size<=maxLen
 len _:=by simp[hc]
 sound e w base spare held fuel cs x hx:=by
  cases fuel with
  | zero=>simp[DataW.trod] at hx
  | succ n =>
   unfold DataW.trod at hx;rw[h] at hx;split at hx<;>simp_all
   exact⟨_,Rd.one (.raw rfl),fun _=>hx.1⟩
def Rdr.bool{P:Program}{T:TypeId}(h:P.underlying T=some .bool)(hc:P.cellsOf T=1):Rdr P T Bool where
 enc n:=[.raw (.bool n)]
 ok n:=True
 len _:=by simp[hc]
 sound e w base spare held fuel cs x hx:=by
  cases fuel with
  | zero=>simp[DataW.trod] at hx
  | succ n =>
   unfold DataW.trod at hx;rw[h] at hx;split at hx<;>first|(simp_all;done)|skip
   exact⟨_,Rd.one (.raw rfl),fun _=>trivial⟩
theorem list7{α:Type}{l:List α}(h:l.length=7):l=[l[0]'(by omega),l[1]'(by omega),l[2]'(by omega),l[3]'(by omega),l[4]'(by omega),l[5]'(by omega),l[6]'(by omega)]:=by
 match l,h with
 | [p0,p1,p2,p3,p4,p5,p6],_=>rfl
theorem RdF.struct7{P:Program}{T T0 T1 T2 T3 T4 T5 T6:TypeId}{a0 a1 a2 a3 a4 a5 a6:Type}{e0:a0->List D}{e1:a1->List D}{e2:a2->List D}{e3:a3->List D}{e4:a4->List D}{e5:a5->List D}{e6:a6->List D}{o0:a0->Prop}{o1:a1->Prop}{o2:a2->Prop}{o3:a3->Prop}{o4:a4->Prop}{o5:a5->Prop}{o6:a6->Prop}{n:Nat}(r0:RdF P T0 e0 o0 n)(r1:RdF P T1 e1 o1 n)(r2:RdF P T2 e2 o2 n)(r3:RdF P T3 e3 o3 n)(r4:RdF P T4 e4 o4 n)(r5:RdF P T5 e5 o5 n)(r6:RdF P T6 e6 o6 n){f0 f1 f2 f3 f4 f5 f6:Field}(h:P.underlying T=some (.struct #[f0,f1,f2,f3,f4,f5,f6]))(t0:f0.type=T0)(t1:f1.type=T1)(t2:f2.type=T2)(t3:f3.type=T3)(t4:f4.type=T4)(t5:f5.type=T5)(t6:f6.type=T6)(h0:f0.offset=0)(h1:f1.offset=P.cellsOf T0)(h2:f2.offset=P.cellsOf T0+P.cellsOf T1)(h3:f3.offset=P.cellsOf T0+P.cellsOf T1+P.cellsOf T2)(h4:f4.offset=P.cellsOf T0+P.cellsOf T1+P.cellsOf T2+P.cellsOf T3)(h5:f5.offset=P.cellsOf T0+P.cellsOf T1+P.cellsOf T2+P.cellsOf T3+P.cellsOf T4)(h6:f6.offset=P.cellsOf T0+P.cellsOf T1+P.cellsOf T2+P.cellsOf T3+P.cellsOf T4+P.cellsOf T5)(hc:P.cellsOf T=P.cellsOf T0+P.cellsOf T1+P.cellsOf T2+P.cellsOf T3+P.cellsOf T4+P.cellsOf T5+P.cellsOf T6):
  RdF P T (fun x:a0 × a1 × a2 × a3 × a4 × a5 × a6=>e0 x.1++(e1 x.2.1++(e2 x.2.2.1++(e3 x.2.2.2.1++(e4 x.2.2.2.2.1++(e5 x.2.2.2.2.2.1++e6 x.2.2.2.2.2.2)))))) (fun x=>o0 x.1/\o1 x.2.1/\o2 x.2.2.1/\o3 x.2.2.2.1/\o4 x.2.2.2.2.1/\o5 x.2.2.2.2.2.1/\o6 x.2.2.2.2.2.2) (n+1):=by
 constructor
 intro H e w base spare held cs x hx;obtain⟨xs,n',hn',rfl,hl,hxs,hat⟩:=DataW.trod_struct h hx;obtain rfl:n'=n:=by omega
 have hxs':xs.length=7:=hxs
 have g0:=hat 0 f0 rfl;have g1:=hat 1 f1 rfl;have g2:=hat 2 f2 rfl;have g3:=hat 3 f3 rfl;have g4:=hat 4 f4 rfl;have g5:=hat 5 f5 rfl;have g6:=hat 6 f6 rfl;have e0:xs[0]?=some (xs[0]'(by omega)):=List.getElem?_eq_getElem (by omega)
 have e1:xs[1]?=some (xs[1]'(by omega)):=List.getElem?_eq_getElem (by omega)
 have e2:xs[2]?=some (xs[2]'(by omega)):=List.getElem?_eq_getElem (by omega)
 have e3:xs[3]?=some (xs[3]'(by omega)):=List.getElem?_eq_getElem (by omega)
 have e4:xs[4]?=some (xs[4]'(by omega)):=List.getElem?_eq_getElem (by omega)
 have e5:xs[5]?=some (xs[5]'(by omega)):=List.getElem?_eq_getElem (by omega)
 have e6:xs[6]?=some (xs[6]'(by omega)):=List.getElem?_eq_getElem (by omega)
 rw[e0,h0,t0] at g0;rw[e1,h1,t1] at g1;rw[e2,h2,t2] at g2;rw[e3,h3,t3] at g3;rw[e4,h4,t4] at g4;rw[e5,h5,t5] at g5;rw[e6,h6,t6] at g6;obtain⟨y0,k0,m0⟩:=r0.sound e w base spare held _ _ g0;obtain⟨y1,k1,m1⟩:=r1.sound e w base spare held _ _ g1;obtain⟨y2,k2,m2⟩:=r2.sound e w base spare held _ _ g2;obtain⟨y3,k3,m3⟩:=r3.sound e w base spare held _ _ g3;obtain⟨y4,k4,m4⟩:=r4.sound e w base spare held _ _ g4;obtain⟨y5,k5,m5⟩:=r5.sound e w base spare held _ _ g5;obtain⟨y6,k6,m6⟩:=r6.sound e w base spare held _ _ g6;refine⟨(y0,y1,y2,y3,y4,y5,y6),?_,fun hli=>?_⟩
 rotate_left
 .unfold Light at hli m0 m1 m2 m3 m4 m5 m6;rw[list7 hxs'] at hli;simp only[List.map_cons,List.map_nil,DataW.weights,h,DataW.weightsEach,t0,t1,t2,t3,t4,t5,t6,List.all_append,Bool.and_eq_true] at hli;exact⟨m0 hli.1,m1 hli.2.1,m2 hli.2.2.1,m3 hli.2.2.2.1,m4 hli.2.2.2.2.1,m5 hli.2.2.2.2.2.1,m6 hli.2.2.2.2.2.2.1⟩
 have hcs:cs=(cs.drop (0)).take (P.cellsOf T0)++((cs.drop (P.cellsOf T0)).take (P.cellsOf T1)++((cs.drop (P.cellsOf T0+P.cellsOf T1)).take (P.cellsOf T2)++((cs.drop (P.cellsOf T0+P.cellsOf T1+P.cellsOf T2)).take (P.cellsOf T3)++((cs.drop (P.cellsOf T0+P.cellsOf T1+P.cellsOf T2+P.cellsOf T3)).take (P.cellsOf T4)++((cs.drop (P.cellsOf T0+P.cellsOf T1+P.cellsOf T2+P.cellsOf T3+P.cellsOf T4)).take (P.cellsOf T5)++((cs.drop (P.cellsOf T0+P.cellsOf T1+P.cellsOf T2+P.cellsOf T3+P.cellsOf T4+P.cellsOf T5)).take (P.cellsOf T6))))))):=by
  have:(cs.drop (P.cellsOf T0+P.cellsOf T1+P.cellsOf T2+P.cellsOf T3+P.cellsOf T4+P.cellsOf T5)).take (P.cellsOf T6)=cs.drop (P.cellsOf T0+P.cellsOf T1+P.cellsOf T2+P.cellsOf T3+P.cellsOf T4+P.cellsOf T5):=List.take_of_length_le (by simp;omega)
  rw[this];have e5:=List.take_append_drop (P.cellsOf T5) (cs.drop (P.cellsOf T0+P.cellsOf T1+P.cellsOf T2+P.cellsOf T3+P.cellsOf T4));have e4:=List.take_append_drop (P.cellsOf T4) (cs.drop (P.cellsOf T0+P.cellsOf T1+P.cellsOf T2+P.cellsOf T3));have e3:=List.take_append_drop (P.cellsOf T3) (cs.drop (P.cellsOf T0+P.cellsOf T1+P.cellsOf T2));have e2:=List.take_append_drop (P.cellsOf T2) (cs.drop (P.cellsOf T0+P.cellsOf T1));have e1:=List.take_append_drop (P.cellsOf T1) (cs.drop (P.cellsOf T0));rw[List.drop_drop] at e5 e4 e3 e2 e1;rw[e5,e4,e3,e2,e1,List.drop_zero,List.take_append_drop]
 rw[hcs];exact k0.append (k1.append (k2.append (k3.append (k4.append (k5.append (k6))))))
def rdStr:Rdr prog 9 ByteArray:=Rdr.str underlying9 (by kernel_rfl)
def rdBool:Rdr prog 4 Bool:=Rdr.bool underlying4 (by kernel_rfl)
def rdPart0:Rdr prog 35 (List Int × List Int):=Rdr.struct2 rdInts rdInts underlying35 rfl rfl rfl (by kernel_rfl) (by kernel_rfl)
theorem rdSlots_ok{l:List Sl}(h:rdSlots.ok l):l.length<=bigN:=by
 have h2:l.length*prog.bytesOf 105<=reachBytes:=h.2
 rw[by_slot] at h2;have:reachBytes=140737488351232:=rfl
 rw[bigN_eq];omega
theorem rdTests_ok{l:List Te}(h:rdTests.ok l):l.length<=bigN:=by
 have h2:l.length*prog.bytesOf 107<=reachBytes:=h.2
 rw[by_test] at h2;have:reachBytes=140737488351232:=rfl
 rw[bigN_eq];omega
abbrev RuT:=ByteArray × (Gr × List Sl × Int × List Te) × (Gr × List Sl × Int × List Te) × (List Int × List Int) × (List Int × List Int) × Bool × Cd
theorem rdRu_n(n:Nat):RdF prog 41 (fun x:RuT=>rdStr.enc x.1++(rdPat.enc x.2.1++(rdPat.enc x.2.2.1++(rdPart0.enc x.2.2.2.1++(rdMorph0.enc x.2.2.2.2.1++(rdBool.enc x.2.2.2.2.2.1++rdCd.enc x.2.2.2.2.2.2)))))) (fun x=>rdStr.ok x.1/\rdPat.ok x.2.1/\rdPat.ok x.2.2.1/\rdPart0.ok x.2.2.2.1/\rdMorph0.ok x.2.2.2.2.1/\rdBool.ok x.2.2.2.2.2.1/\rdCd.ok x.2.2.2.2.2.2) n:=by
 cases n with
 | zero=>exact .zero
 | succ n=>exact RdF.struct7 (rdStr.f n) (rdPat.f n) (rdPat.f n) (rdPart0.f n) (rdMorph0.f n) (rdBool.f n) (rdCd.f n) underlying41 rfl rfl rfl rfl rfl rfl rfl rfl (by kernel_rfl) (by kernel_rfl) (by kernel_rfl) (by kernel_rfl) (by kernel_rfl) (by kernel_rfl) (by kernel_rfl)
def rdRu0:Rdr prog 41 RuT:=Rdr.ofF _ _ (fun x=>by simp[rdStr.len,rdPat.len,rdPart0.len,rdMorph0.len,rdBool.len,rdCd.len];kernel_rfl) rdRu_n
def Ru.rowD(r:Ru):List D:=[.raw (.string r.name),ints r.lg.nodes,AM.edges r.lg.edges,slots r.lsl,.raw (.int .i64 r.lv),tests r.lte,ints r.rg.nodes,AM.edges r.rg.edges,slots r.rsl,.raw (.int .i64 r.rv),tests r.rte,
 ints r.k.nodes,ints r.k.edges,ints r.i.nodes,ints r.i.edges,.raw (.bool r.inj)]++r.c.cells
theorem rdRu_len(r:Ru):r.rowD.length=prog.cellsOf 41:=by rw[Ru.rowD,r.c.cells_eq];kernel_rfl
def rdRu:Rdr prog 41 Ru:=rdRu0.map (fun x=>⟨x.1,x.2.1.1,x.2.1.2.1,x.2.1.2.2.1,x.2.1.2.2.2,x.2.2.1.1,x.2.2.1.2.1,x.2.2.1.2.2.1,x.2.2.1.2.2.2,⟨x.2.2.2.1.1,x.2.2.2.1.2⟩,⟨x.2.2.2.2.1.1,x.2.2.2.2.1.2⟩,x.2.2.2.2.2.1,x.2.2.2.2.2.2⟩) Ru.rowD Ru.Big (fun _=>rfl) (fun x h=>⟨⟨rdInts_ok h.2.2.2.1.1,rdInts_ok h.2.2.2.1.2⟩,⟨rdInts_ok h.2.2.2.2.1.1,rdInts_ok h.2.2.2.2.1.2⟩,rdSlots_ok h.2.1.2.1,rdTests_ok h.2.1.2.2.2,rdSlots_ok h.2.2.1.2.1,rdTests_ok h.2.2.1.2.2.2,h.2.2.2.2.2.2⟩) rdRu_len
set_option maxRecDepth 100000 in
theorem arg_rule{ps:Array TypeId}{args:Array Value}{W:World}{base base':Nat}{sp:Nat->Bool}{held:Bool}{H:Type}{enc:TypeId × Value->H}(hval:∀(j:Nat) t v,ps[j]?=some t->args[j]?=some v->Value.okWide prog W .any base t v)(j:Nat)(v:Value)(hp:ps[j]?=some 41)(ha:args[j]?=some v){d:DataW H}{p:List MemPlace}(h:DataW.Trod enc prog W base' sp held 41 v d p)(hli:Light prog 41 d):∃r:Ru,r.Big/\RV G0 W r.av v:=by
 refine Exists.elim (arg_agg hval j 41 v hp ha rdRu aggT_41 h hli) fun r hr=>⟨r,hr.1,?_⟩
 have h2:RV G0 W (.agg (r.rowD.map .d)) v:=hr.2
 rw[Ru.rowD,r.c.cells_eq] at h2;exact h2
def fewNm(s:ByteArray):Bool:=decide (s.size<=40)
def fewAt(a:At):Bool:=if 40<a.name.size then false else if 25<a.names.length then false else allP fewNm a.names
def sumOwn(t:Ty):Nat->Nat
 | 0=>0
 | i+1=>sumOwn t i+(t.nd i).own.length
def fewNd(t:Ty)(i:Nat):Int:=if 30<sumOwn t (i+1) then 1 else if 40<(t.nd i).name.size then 1 else if allP fewAt (t.nd i).own=true then 0 else 1
def fewEd(e:ET):Bool:=decide (e.name.size<=40)
def fewT(t:Ty):Bool:=if 20<t.nodes.length then false else if 30<t.edges.length then false else if firstE (fewNd t) t.nodes.length≠0 then false else allP fewEd t.edges
structure At.Big (a:At):Prop where
 n:a.name.size<=maxLen
 l:a.names.length<=bigN
 s:∀x∈a.names,x.size<=maxLen
structure NT.Big (x:NT):Prop where
 n:x.name.size<=maxLen
 l:x.own.length<=bigN
 a:∀y∈x.own,y.Big
structure Ty.Big (t:Ty):Prop where
 n:t.nodes.length<=bigN
 e:t.edges.length<=bigN
 nn:∀x∈t.nodes,x.Big
 en:∀x∈t.edges,x.name.size<=maxLen
theorem allP_iff{α:Type}{p:α->Bool}{l:List α}:allP p l=true↔∀x∈l,p x=true:=by simp[allP]
theorem fewAt_fit{a:At}(h:fewAt a=true):a.Fit:=by
 unfold fewAt at h;split at h
 .cases h
 .split at h
  .cases h
  .rw[allP_iff] at h;exact⟨by omega,⟨by omega,fun x hx=>by have:=h x hx;simp only[fewNm,decide_eq_true_eq] at this;omega⟩⟩
theorem fewNd_zero{t:Ty}{i:Nat}(h:fewNd t i=0):sumOwn t (i+1)<=30/\(t.nd i).name.size<=40/\∀x∈(t.nd i).own,x.Fit:=by
 unfold fewNd at h;split at h
 .cases h
 .split at h
  .cases h
  .split at h
   .rename_i h1 h2 h3;rw[allP_iff] at h3;exact⟨by omega,by omega,fun x hx=>fewAt_fit (h3 x hx)⟩
   .cases h
theorem fewT_fit{t:Ty}(h:fewT t=true):t.Fit:=by
 unfold fewT at h;split at h
 .cases h
 .split at h
  .cases h
  .split at h
   .cases h
   .rename_i h1 h2 h3;have hz:=firstE_allZ _ (Decidable.not_not.1 h3);rw[allP_iff] at h;have key:∀x∈t.nodes,∃i,i<t.nodes.length/\t.nd i=x:=fun x hx=>by
     obtain⟨i,hi,he⟩:=List.mem_iff_getElem.1 hx;exact⟨i,hi,by rw[nd_at hi,he]⟩
    refine⟨by omega,by omega,fun x hx=>?_,fun x hx=>?_,fun x hx=>?_⟩
    .obtain⟨i,hi,he⟩:=key x hx;have:=(fewNd_zero (hz i hi)).2.1
     rw[he] at this;omega
    .have:=h x hx
     simp only[fewEd,decide_eq_true_eq] at this;omega
    .obtain⟨i,hi,he⟩:=key x hx;have h4:=fewNd_zero (hz i hi);rw[he] at h4;refine⟨?_,h4.2.2⟩;have:=h4.1
     simp only[sumOwn,he] at this;omega
theorem fewNd_eq{t:Ty}{i:Nat}(h:i<t.nodes.length):fewNd t i=if 30<sumOwn t i+t.nodes[i].own.length then 1 else if 40<t.nodes[i].name.size then 1 else if allP fewAt t.nodes[i].own=true then 0 else 1:=by rw[fewNd,sumOwn,nd_at h]
abbrev fwB(t:Ty):Nat × List (List AV):=(1,[[.d (nts t.nodes),.d (ets t.edges)]])
def stFw1(t:Ty)(nb:Nat)(box:Bxs)(tok:Tks)(nt:Nat)(i:Nat):AS:=⟨tl [(4,I i),(3,I (sumOwn t i)),(1,.ptr (nb+1) 0 0)],lb nb box [fwB t],tok,nt⟩
def stFw2(t:Ty)(i n:Nat)(nb:Nat)(box:Bxs)(tok:Tks)(nt:Nat)(k:Nat):AS:=⟨tl [(5,I k),(4,I i),(3,I n),(1,.ptr (nb+1) 0 0)],lb nb box [fwB t],tok,nt⟩
def stFw3(t:Ty)(i n k:Nat)(a:At)(nb:Nat)(box:Bxs)(tok:Tks)(nt:Nat)(j:Nat):AS:=⟨tl [(7,I j),(6,.ptr (nb+6) 0 0),(5,I k),(4,I i),(3,I n),(1,.ptr (nb+1) 0 0)],lb nb box [(6,[a.row]),fwB t],tok,nt⟩
def stFw4(t:Ty)(nb:Nat)(box:Bxs)(tok:Tks)(nt:Nat)(i:Nat):AS:=⟨tl [(8,I i),(1,.ptr (nb+1) 0 0)],lb nb box [fwB t],tok,nt⟩
theorem tyFew_c(t:Ty)(hb:t.Big):DC 34 [t.av] (B (fewT t)):=by
 intro tok nt box nb;have hbn:=hb.n;have hbe:=hb.e;rw[bigN_eq] at hbn hbe;obtain⟨N,hN⟩:∃N,fewT t=N:=⟨_,rfl⟩
 rw[hN];unfold fewT at hN;by_cases e1:20<t.nodes.length
 .have e1':(20:Int)<t.nodes.length:=by omega
  rw[if_pos e1] at hN;refine sI func34 ntmps34 fun Hb Ht=>?_
  repeat first|simp[e1,e1']|refine sR ?_|refine sC ?_
  refine sT (sH Hb Ht ?_);simp[<-hN]
 .have e1':¬(20:Int)<t.nodes.length:=by omega
  rw[if_neg e1] at hN;by_cases e2:30<t.edges.length
  .have e2':(30:Int)<t.edges.length:=by omega
   rw[if_pos e2] at hN;refine sI func34 ntmps34 fun Hb Ht=>?_
   repeat first|simp[e1,e1',e2,e2']|refine sR ?_|refine sC ?_
   refine sT (sH Hb Ht ?_);simp[<-hN]
  .have e2':¬(30:Int)<t.edges.length:=by omega
   rw[if_neg e2] at hN;refine sI func34 ntmps34 fun Hb Ht=>?_
   repeat first|simp[e1,e1',e2,e2']|refine sR ?_|refine sC ?_
   refine sN ?_;refine sL (stFw1 t nb box tok nt) (fun i=>i<=t.nodes.length/\sumOwn t i<=30/\firstE (fewNd t) i=0) (fun i=>t.nodes.length-i) 0 ⟨Nat.zero_le _,Nat.zero_le _,rfl⟩ (wM (nr _) rfl (by simp[ToL,lk,lb_at,sumOwn]) (by simp[BoxL,lk])) ?_;rintro i S' ⟨hi,hsum,hok⟩ hS;simp only[stFw1] at hS;subst hS;have hw:=sW (i:=i) (by omega);repeat first|simp|refine sR ?_|refine sC ?_
   refine⟨fun hlt=>?_,fun hge=>?_⟩
   .have hR:fewNd t i≠0->firstE (fewNd t) t.nodes.length=fewNd t i:=fun h0=>firstE_stop hok h0 _ hlt
    have hnx:fewNd t i=0->firstE (fewNd t) (i+1)=0:=fun h0=>by simp only[firstE,hok,h0,↓reduceIte]
    have hd:=fewNd_eq hlt;have hsn:sumOwn t (i+1)=sumOwn t i+t.nodes[i].own.length:=by rw[sumOwn,nd_at hlt]
    have hnb:=hb.nn _ (List.getElem_mem hlt);have hol:=hnb.l;rw[bigN_eq] at hol;have hws:IntKind.i64.wrap ((sumOwn t i:Nat)+(t.nodes[i].own.length:Nat):Int)=((sumOwn t i+t.nodes[i].own.length:Nat):Int):=by rw[wrap_in (by omega) (by omega)];rfl
    by_cases c1:30<sumOwn t i+t.nodes[i].own.length
    .have c1':(30:Int)<(sumOwn t i:Int)+(t.nodes[i].own.length:Int):=by omega
     rw[if_pos c1] at hd;rw[if_pos (by rw[hR (by rw[hd];decide),hd];decide)] at hN;repeat first|simp[hlt,hws,c1,c1']|refine sR ?_
     refine sC ?_;simp[c1,c1'];repeat first|simp|refine sR ?_
     refine sT (sH Hb Ht ?_);simp[<-hN]
    .have c1':¬(30:Int)<((sumOwn t i+t.nodes[i].own.length:Nat):Int):=by omega
     rw[if_neg c1] at hd;by_cases c2:40<t.nodes[i].name.size
     .have c2':(40:Int)<t.nodes[i].name.size:=by omega
      rw[if_pos c2] at hd;rw[if_pos (by rw[hR (by rw[hd];decide),hd];decide)] at hN;have c1':¬(30:Int)<(sumOwn t i:Int)+(t.nodes[i].own.length:Int):=by omega
      repeat first|simp[hlt,hws,c1,c1',c2,c2']|refine sR ?_
      refine sC ?_;simp[c1,c1',c2,c2'];repeat first|simp|refine sR ?_
      refine sT (sH Hb Ht ?_);simp[<-hN]
     .have c2':¬(40:Int)<t.nodes[i].name.size:=by omega
      rw[if_neg c2] at hd;obtain⟨n,hn⟩:∃n:Nat,sumOwn t i+t.nodes[i].own.length=n:=⟨_,rfl⟩
      rw[hn] at hws c1' c1 hsn;repeat first|simp[hlt,hws,c1,c1',c2,c2']|refine sR ?_
      refine sC ?_;simp[c1,c1',c2,c2'];repeat first|simp|refine sR ?_
      refine sN ?_;refine sL (stFw2 t i n nb box tok nt) (fun k=>k<=t.nodes[i].own.length/\allP fewAt (t.nodes[i].own.take k)=true) (fun k=>t.nodes[i].own.length-k) 0 ⟨Nat.zero_le _,rfl⟩ wkA ?_;rintro k S' ⟨hk,hall⟩ hS;simp only[stFw2] at hS;subst hS;have hwk:=sW (i:=k) (by omega);repeat first|simp[hlt]|refine sR ?_|refine sC ?_
      refine⟨fun hlk=>?_,fun hgek=>?_⟩
      .have hno:=fun h=>all_no (p:=fewAt) hlk h
       have hyes:=fun h=>all_more (p:=fewAt) hlk hall h
       have hba:=hnb.a _ (List.getElem_mem hlk);have hbl:=hba.l;rw[bigN_eq] at hbl;have hda:fewAt t.nodes[i].own[k]=if 40<t.nodes[i].own[k].name.size then false else if 25<t.nodes[i].own[k].names.length then false else allP fewNm t.nodes[i].own[k].names:=rfl
       have hbad:fewAt t.nodes[i].own[k]=false->N=false:=fun h=>by
        rw[hno h,if_neg (by simp)] at hd;rw[if_pos (by rw[hR (by rw[hd];decide),hd];decide)] at hN;exact hN.symm
       by_cases c3:40<t.nodes[i].own[k].name.size
       .have c3':(40:Int)<t.nodes[i].own[k].name.size:=by omega
        rw[if_pos c3] at hda;repeat first|simp[hlt,hlk,c3,c3']|refine sR ?_
        refine sC ?_;simp[c3,c3'];repeat first|simp|refine sR ?_
        refine sT (sH Hb Ht ?_);simp[hbad hda]
       .have c3':¬(40:Int)<t.nodes[i].own[k].name.size:=by omega
        rw[if_neg c3] at hda;by_cases c4:25<t.nodes[i].own[k].names.length
        .have c4':(25:Int)<t.nodes[i].own[k].names.length:=by omega
         rw[if_pos c4] at hda;repeat first|simp[hlt,hlk,c3,c3',c4,c4']|refine sR ?_
         refine sC ?_;simp[c3,c3',c4,c4'];repeat first|simp|refine sR ?_
         refine sT (sH Hb Ht ?_);simp[hbad hda]
        .have c4':¬(25:Int)<t.nodes[i].own[k].names.length:=by omega
         rw[if_neg c4] at hda;repeat first|simp[hlt,hlk,c3,c3',c4,c4']|refine sR ?_
         refine sC ?_;simp[c3,c3',c4,c4'];repeat first|simp|refine sR ?_
         refine sN ?_;refine sL (stFw3 t i n k t.nodes[i].own[k] nb box tok nt) (fun j=>j<=t.nodes[i].own[k].names.length/\allP fewNm (t.nodes[i].own[k].names.take j)=true) (fun j=>t.nodes[i].own[k].names.length-j) 0 ⟨Nat.zero_le _,rfl⟩ wkA ?_;rintro j S' ⟨hj,hnall⟩ hS;simp only[stFw3] at hS;subst hS;have hwj:=sW (i:=j) (by omega);repeat first|simp|refine sR ?_|refine sC ?_
         refine⟨fun hlj=>?_,fun hgej=>?_⟩
         .have hnon:=fun h=>all_no (p:=fewNm) hlj h
          have hyesn:=fun h=>all_more (p:=fewNm) hlj hnall h
          by_cases c5:40<t.nodes[i].own[k].names[j].size
          .have c5':(40:Int)<t.nodes[i].own[k].names[j].size:=by omega
           rw[hnon (by simp only[fewNm,decide_eq_false_iff_not];omega)] at hda;repeat first|simp[hlj,c5,c5']|refine sR ?_
           refine sC ?_;simp[c5,c5'];repeat first|simp|refine sR ?_
           refine sT (sH Hb Ht ?_);simp[hbad hda]
          .have c5':¬(40:Int)<t.nodes[i].own[k].names[j].size:=by omega
           repeat first|simp[hlj,c5,c5']|refine sR ?_
           refine sC ?_;simp[c5,c5'];repeat first|simp[hwj]|refine sR ?_
           refine sE ?_;exact⟨j+1,⟨hlj,hyesn (by simp only[fewNm,decide_eq_true_eq];omega)⟩,by omega,wkA⟩
         .refine sX ?_;simp only[AU,↓reduceIte];have:j=t.nodes[i].own[k].names.length:=by omega
          subst this;rw[List.take_length] at hnall;rw[hnall] at hda;repeat first|simp[hwk]|refine sR ?_
          refine sE ?_;exact⟨k+1,⟨hlk,hyes hda⟩,by omega,wkA⟩
      .refine sX ?_;simp only[AU,↓reduceIte];have:k=t.nodes[i].own.length:=by omega
       subst this;rw[List.take_length] at hall;rw[if_pos hall] at hd;repeat first|simp[hw]|refine sR ?_
       refine sE ?_;exact⟨i+1,⟨hlt,by omega,hnx hd⟩,by omega,wM (nr _) rfl (by simp[ToL,lk,lb_at,hsn]) (by simp[BoxL,lk])⟩
   .refine sX ?_;simp only[AU,↓reduceIte];have:i=t.nodes.length:=by omega
    subst this;rw[if_neg (by simp[hok])] at hN;repeat first|simp|refine sR ?_
    refine sN ?_;refine sL (stFw4 t nb box tok nt) (fun i=>i<=t.edges.length/\allP fewEd (t.edges.take i)=true) (fun i=>t.edges.length-i) 0 ⟨Nat.zero_le _,rfl⟩ wkA ?_;rintro i S' ⟨hi,hall⟩ hS;simp only[stFw4] at hS;subst hS;have hw:=sW (i:=i) (by omega);repeat first|simp|refine sR ?_|refine sC ?_
    refine⟨fun hlt=>?_,fun hge=>?_⟩
    .have hno:=fun h=>all_no (p:=fewEd) hlt h
     have hyes:=fun h=>all_more (p:=fewEd) hlt hall h
     by_cases c5:40<t.edges[i].name.size
     .have c5':(40:Int)<t.edges[i].name.size:=by omega
      rw[hno (by simp only[fewEd,decide_eq_false_iff_not];omega)] at hN;repeat first|simp[hlt,c5,c5']|refine sR ?_
      refine sC ?_;simp[c5,c5'];repeat first|simp|refine sR ?_
      refine sT (sH Hb Ht ?_);simp[<-hN]
     .have c5':¬(40:Int)<t.edges[i].name.size:=by omega
      repeat first|simp[hlt,c5,c5']|refine sR ?_
      refine sC ?_;simp[c5,c5'];repeat first|simp[hw]|refine sR ?_
      refine sE ?_;exact⟨i+1,⟨hlt,hyes (by simp only[fewEd,decide_eq_true_eq];omega)⟩,by omega,wkA⟩
    .refine sX ?_;simp only[AU,↓reduceIte];have:i=t.edges.length:=by omega
     subst this;rw[List.take_length] at hall;rw[hall] at hN;repeat first|simp|refine sR ?_
     refine sT (sH Hb Ht ?_);simp[<-hN]
structure Xt.Big (x:Xt):Prop where
 mn:x.m.nodes.length<=bigN
 me:x.m.edges.length<=bigN
 g:x.g.Big
structure Co.Big (c:Co):Prop where
 name:c.name.size<=maxLen
 g:c.g.Big
 n:c.exts.length<=bigN
 exts:∀x∈c.exts,x.Big
theorem by_xt:prog.bytesOf 148=96:=by kernel_rfl
def rdXt0:Rdr prog 148 ((List Int × List Int) × Gr):=Rdr.struct2 rdMorph0 rdGraphB underlying148 rfl rfl rfl (by kernel_rfl) (by kernel_rfl)
def rdXt:Rdr prog 148 Xt:=rdXt0.map (fun x=>⟨⟨x.1.1,x.1.2⟩,x.2⟩) Xt.cells Xt.Big (fun _=>rfl) (fun x h=>⟨rdInts_ok h.1.1,rdInts_ok h.1.2,h.2⟩) (fun _=>by kernel_rfl)
def rdXts:Rdr prog 42 (List Xt):=rdXt.sliceN 4 underlying42 (by kernel_rfl) (by kernel_rfl)
theorem rdXts_ok{l:List Xt}(h:rdXts.ok l):l.length<=bigN/\∀x∈l,x.Big:=by
 have h2:l.length*prog.bytesOf 148<=reachBytes:=h.2
 rw[by_xt] at h2;have:reachBytes=140737488351232:=rfl
 exact⟨by rw[bigN_eq];omega,h.1⟩
abbrev CoT:=ByteArray × Int × Gr × List Xt
theorem rdCo_n(n:Nat):RdF prog 44 (fun x:CoT=>rdStr.enc x.1++(rdInt.enc x.2.1++(rdGraphB.enc x.2.2.1++rdXts.enc x.2.2.2))) (fun x=>rdStr.ok x.1/\rdInt.ok x.2.1/\rdGraphB.ok x.2.2.1/\rdXts.ok x.2.2.2) n:=by
 cases n with
 | zero=>exact .zero
 | succ n=>exact RdF.struct4 (rdStr.f n) (rdInt.f n) (rdGraphB.f n) (rdXts.f n) underlying44 rfl rfl rfl rfl rfl (by kernel_rfl) (by kernel_rfl) (by kernel_rfl) (by kernel_rfl)
def rdCo0:Rdr prog 44 CoT:=Rdr.ofF _ _ (fun x=>by simp[rdStr.len,rdInt.len,rdGraphB.len,rdXts.len];kernel_rfl) rdCo_n
def Co.rowD(c:Co):List D:=[.raw (.string c.name),.raw (.int .i64 c.kind),ints c.g.nodes,AM.edges c.g.edges,xts c.exts]
def rdCo:Rdr prog 44 Co:=rdCo0.map (fun x=>⟨x.1,x.2.1,x.2.2.1,x.2.2.2⟩) Co.rowD Co.Big (fun _=>rfl) (fun x h=>⟨h.1,h.2.2.1,(rdXts_ok h.2.2.2).1,(rdXts_ok h.2.2.2).2⟩) (fun _=>by kernel_rfl)
set_option maxRecDepth 100000 in
theorem arg_constraint{ps:Array TypeId}{args:Array Value}{W:World}{base base':Nat}{sp:Nat->Bool}{held:Bool}{H:Type}{enc:TypeId × Value->H}(hval:∀(j:Nat) t v,ps[j]?=some t->args[j]?=some v->Value.okWide prog W .any base t v)(j:Nat)(v:Value)(hp:ps[j]?=some 44)(ha:args[j]?=some v){d:DataW H}{p:List MemPlace}(h:DataW.Trod enc prog W base' sp held 44 v d p)(hli:Light prog 44 d):∃c:Co,c.Big/\RV G0 W c.av v:=by
 refine Exists.elim (arg_agg hval j 44 v hp ha rdCo aggT_44 h hli) fun c hc=>⟨c,hc.1,?_⟩
 have h2:RV G0 W (.agg (c.rowD.map .d)) v:=hc.2
 exact h2
def fewX(x:Xt):Bool:=if fewG x.g=true then fewM x.m 140 else false
def fewC(c:Co):Bool:=if 60<c.name.size then false else if 10<c.exts.length then false else if fewG c.g=true then allP fewX c.exts else false
theorem allP_mem{α:Type}{p:α->Bool}{l:List α}(h:allP p l=true):∀x∈l,p x=true:=List.all_eq_true.1 h
theorem fewC_fit{c:Co}(h:fewC c=true):c.Fit/\c.exts.length<=10:=by
 unfold fewC at h;split at h
 .cases h
 rename_i h1;split at h
 .cases h
 rename_i h2;split at h
 .rename_i h3;refine⟨⟨by omega,fewG_fit h3,by omega,fun x hx=>?_⟩,by omega⟩;have:=allP_mem h x hx
  unfold fewX at this;split at this
  .rename_i h4;exact⟨fewM_fit2 this,fewG_fit h4⟩
  .cases this
 .cases h
def stFc(c:Co)(nb:Nat)(box:Bxs)(tok:Tks)(nt:Nat)(i:Nat):AS :=
 ⟨tl [(3,I i),(1,.ptr (nb+1) 0 0)],lb nb box [(1,[c.row])],tok,nt⟩
theorem few42_c(c:Co)(hc:c.Big):DC 81 [c.av] (B (fewC c)):=by
 intro tok nt box nb;have hn:=hc.n;rw[bigN_eq] at hn;have hnm:=hc.name;have h1:=few05_c c.g;obtain⟨N,hN⟩:∃N,fewC c=N:=⟨_,rfl⟩
 rw[hN];unfold fewC at hN;by_cases e1:60<c.name.size
 .have e1':(60:Int)<c.name.size:=by omega
  rw[if_pos e1] at hN;refine sI func81 ntmps81 fun Hb Ht=>?_
  try (simp[e1,e1'])
  repeat (first|(refine sR ?_;simp[e1,e1'])|(refine sC ?_;simp[e1,e1'])|(refine sX ?_;simp only[AU,↓reduceIte]))
  refine sT (sH Hb Ht ?_);simp[<-hN]
 .have e1':¬(60:Int)<c.name.size:=by omega
  rw[if_neg e1] at hN;by_cases e2:10<c.exts.length
  .have e2':(10:Int)<c.exts.length:=by omega
   rw[if_pos e2] at hN;refine sI func81 ntmps81 fun Hb Ht=>?_
   try (simp[e1,e1',e2,e2'])
   repeat (first|(refine sR ?_;simp[e1,e1',e2,e2'])|(refine sC ?_;simp[e1,e1',e2,e2'])|(refine sX ?_;simp only[AU,↓reduceIte]))
   refine sT (sH Hb Ht ?_);simp[<-hN]
  .have e2':¬(10:Int)<c.exts.length:=by omega
   rw[if_neg e2] at hN;refine sI func81 ntmps81 fun Hb Ht=>?_
   try (simp[e1,e1',e2,e2'])
   repeat (first|(refine sR ?_;simp[e1,e1',e2,e2'])|(refine sC ?_;simp[e1,e1',e2,e2'])|(refine sX ?_;simp only[AU,↓reduceIte]))
   refine sD (h1 _ _) ?_;simp;cases e3:fewG c.g
   .rw[e3,if_neg (by simp)] at hN;try (simp)
    repeat (first|(refine sR ?_;simp)|(refine sC ?_;simp)|(refine sX ?_;simp only[AU,↓reduceIte]))
    refine sT (sH Hb Ht ?_);simp[<-hN]
   .rw[e3,if_pos rfl] at hN;try (simp)
    repeat (first|(refine sR ?_;simp)|(refine sC ?_;simp)|(refine sX ?_;simp only[AU,↓reduceIte]))
    refine sN ?_;refine sL (stFc c nb box tok nt) (fun i=>i<=c.exts.length/\allP fewX (c.exts.take i)=true) (fun i=>c.exts.length-i) 0 ⟨Nat.zero_le _,by simp[allP]⟩ wkA ?_;rintro i S' ⟨hi,hok⟩ hS;simp only[stFc] at hS;subst hS;have hw:=sW (i:=i) (by omega);repeat first|simp|refine sR ?_|refine sC ?_
    refine⟨fun hlt=>?_,fun hge=>?_⟩
    .have hno:=fun h=>all_no (p:=fewX) hlt h
     have hyes:=fun h=>all_more (p:=fewX) hlt hok h
     have hb:=hc.exts _ (List.getElem_mem hlt);have b1:=hb.mn;have b2:=hb.me;rw[bigN_eq] at b1 b2;have c1:=few05_c c.exts[i].g;have c2:=few06_c c.exts[i].m 140 (by omega) (by omega);have hd:fewX c.exts[i]=if fewG c.exts[i].g=true then fewM c.exts[i].m 140 else false:=rfl
     repeat first|simp[hlt]|refine sR ?_
     refine sD (c1 _ _) ?_;simp;cases e4:fewG c.exts[i].g
     .rw[e4,if_neg (by simp)] at hd;rw[hno hd] at hN;try (simp)
      repeat (first|(refine sR ?_;simp)|(refine sC ?_;simp)|(refine sX ?_;simp only[AU,↓reduceIte]))
      refine sT (sH Hb Ht ?_);simp[<-hN]
     .rw[e4,if_pos rfl] at hd;try (simp[hlt])
      repeat (first|(refine sR ?_;simp[hlt])|(refine sC ?_;simp[hlt])|(refine sX ?_;simp only[AU,↓reduceIte]))
      refine sD (c2 _ _) ?_;simp;cases e5:fewM c.exts[i].m 140
      .rw[e5] at hd;rw[hno hd] at hN;try (simp)
       repeat (first|(refine sR ?_;simp)|(refine sC ?_;simp)|(refine sX ?_;simp only[AU,↓reduceIte]))
       refine sT (sH Hb Ht ?_);simp[<-hN]
      .rw[e5] at hd;try (simp[hw])
       repeat (first|(refine sR ?_;simp[hw])|(refine sC ?_;simp[hw])|(refine sX ?_;simp only[AU,↓reduceIte]))
       refine sE ?_;exact⟨i+1,⟨hlt,hyes hd⟩,by omega,wkA⟩
    .refine sX ?_;simp only[AU,↓reduceIte];have:i=c.exts.length:=by omega
     subst this;rw[List.take_length] at hok;rw[hok] at hN;repeat first|simp|refine sR ?_
     refine sT (sH Hb Ht ?_);simp[<-hN]
def smlX(x:Xt):Bool:=if 3<x.g.nodes.length then false else if 3<x.g.edges.length then false else true
def smlC(c:Co):Bool:=if fewC c=true then (if shpE c≠0 then true else if 3<c.g.nodes.length then false else if 2<c.g.edges.length then false else if 2<c.exts.length then false else allP smlX c.exts) else false
theorem small43_c(c:Co)(hb:c.Big):DC 35 [c.av] (B (smlC c)):=by
 intro tok nt box nb;have h1:=few42_c c hb;obtain⟨N,hN⟩:∃N,smlC c=N:=⟨_,rfl⟩
 rw[hN];unfold smlC at hN;have hf:=@fewC_fit c;refine sI func35 ntmps35 fun Hb Ht=>?_
 repeat first|simp|refine sR ?_
 refine sD (h1 _ _) ?_;simp;cases e0:fewC c
 .rw[e0,if_neg (by simp)] at hN;try (simp)
  repeat (first|(refine sR ?_;simp)|(refine sC ?_;simp)|(refine sX ?_;simp only[AU,↓reduceIte]))
  refine sT (sH Hb Ht ?_);simp[<-hN]
 .rw[e0,if_pos rfl] at hN;obtain⟨hc,hx10⟩:=hf e0;have h2:=shpS_c c hc;have hgn:=hc.g.n;have hge:=hc.g.e;try (simp)
  repeat (first|(refine sR ?_;simp)|(refine sC ?_;simp)|(refine sX ?_;simp only[AU,↓reduceIte]))
  refine sD (h2 _ _) ?_;simp;by_cases e1:shpE c=0
  .rw[if_neg (by simp[e1])] at hN;by_cases s1:3<c.g.nodes.length
   .have s1':(3:Int)<c.g.nodes.length:=by omega
    rw[if_pos s1] at hN;try (simp[e1,s1,s1'])
    repeat (first|(refine sR ?_;simp[e1,s1,s1'])|(refine sC ?_;simp[e1,s1,s1'])|(refine sX ?_;simp only[AU,↓reduceIte]))
    refine sT (sH Hb Ht ?_);simp[<-hN]
   .have s1':¬(3:Int)<c.g.nodes.length:=by omega
    rw[if_neg s1] at hN;by_cases s2:2<c.g.edges.length
    .have s2':(2:Int)<c.g.edges.length:=by omega
     rw[if_pos s2] at hN;try (simp[e1,s1,s1',s2,s2'])
     repeat (first|(refine sR ?_;simp[e1,s1,s1',s2,s2'])|(refine sC ?_;simp[e1,s1,s1',s2,s2'])|(refine sX ?_;simp only[AU,↓reduceIte]))
     refine sT (sH Hb Ht ?_);simp[<-hN]
    .have s2':¬(2:Int)<c.g.edges.length:=by omega
     rw[if_neg s2] at hN;by_cases s3:2<c.exts.length
     .have s3':(2:Int)<c.exts.length:=by omega
      rw[if_pos s3] at hN;try (simp[e1,s1,s1',s2,s2',s3,s3'])
      repeat (first|(refine sR ?_;simp[e1,s1,s1',s2,s2',s3,s3'])|(refine sC ?_;simp[e1,s1,s1',s2,s2',s3,s3'])|(refine sX ?_;simp only[AU,↓reduceIte]))
      refine sT (sH Hb Ht ?_);simp[<-hN]
     .have s3':¬(2:Int)<c.exts.length:=by omega
      rw[if_neg s3] at hN;try (simp[e1,s1,s1',s2,s2',s3,s3'])
      repeat (first|(refine sR ?_;simp[e1,s1,s1',s2,s2',s3,s3'])|(refine sC ?_;simp[e1,s1,s1',s2,s2',s3,s3'])|(refine sX ?_;simp only[AU,↓reduceIte]))
      refine sN ?_;refine sL (stFc c nb box tok nt) (fun i=>i<=c.exts.length/\allP smlX (c.exts.take i)=true) (fun i=>c.exts.length-i) 0 ⟨Nat.zero_le _,by simp[allP]⟩ wkA ?_;rintro i S' ⟨hi,hok⟩ hS;simp only[stFc] at hS;subst hS;have hw:=sW (i:=i) (by omega);repeat first|simp|refine sR ?_|refine sC ?_
      refine⟨fun hlt=>?_,fun hge=>?_⟩
      .have hno:=fun h=>all_no (p:=smlX) hlt h
       have hyes:=fun h=>all_more (p:=smlX) hlt hok h
       have hd:smlX c.exts[i]=if 3<c.exts[i].g.nodes.length then false else if 3<c.exts[i].g.edges.length then false else true:=rfl
       by_cases t1:3<c.exts[i].g.nodes.length
       .have t1':(3:Int)<c.exts[i].g.nodes.length:=by omega
        rw[if_pos t1] at hd;rw[hno hd] at hN;try (simp[hlt,t1,t1'])
        repeat (first|(refine sR ?_;simp[hlt,t1,t1'])|(refine sC ?_;simp[hlt,t1,t1'])|(refine sX ?_;simp only[AU,↓reduceIte]))
        refine sT (sH Hb Ht ?_);simp[<-hN]
       .have t1':¬(3:Int)<c.exts[i].g.nodes.length:=by omega
        rw[if_neg t1] at hd;by_cases t2:3<c.exts[i].g.edges.length
        .have t2':(3:Int)<c.exts[i].g.edges.length:=by omega
         rw[if_pos t2] at hd;rw[hno hd] at hN;try (simp[hlt,t1,t1',t2,t2'])
         repeat (first|(refine sR ?_;simp[hlt,t1,t1',t2,t2'])|(refine sC ?_;simp[hlt,t1,t1',t2,t2'])|(refine sX ?_;simp only[AU,↓reduceIte]))
         refine sT (sH Hb Ht ?_);simp[<-hN]
        .have t2':¬(3:Int)<c.exts[i].g.edges.length:=by omega
         rw[if_neg t2] at hd;try (simp[hlt,t1,t1',t2,t2',hw])
         repeat (first|(refine sR ?_;simp[hlt,t1,t1',t2,t2',hw])|(refine sC ?_;simp[hlt,t1,t1',t2,t2',hw])|(refine sX ?_;simp only[AU,↓reduceIte]))
         refine sE ?_;exact⟨i+1,⟨hlt,hyes hd⟩,by omega,wkA⟩
      .refine sX ?_;simp only[AU,↓reduceIte];have:i=c.exts.length:=by omega
       subst this;rw[List.take_length] at hok;rw[hok] at hN;repeat first|simp|refine sR ?_
       refine sT (sH Hb Ht ?_);simp[<-hN]
  .have b1:(shpE c !=0)=true:=by simp[e1]
   rw[if_pos e1] at hN;try (simp[b1])
   repeat (first|(refine sR ?_;simp[b1])|(refine sC ?_;simp[b1])|(refine sX ?_;simp only[AU,↓reduceIte]))
   refine sT (sH Hb Ht ?_);simp[<-hN]
def lgtR(r:Ru):Bool:=if fewR r=true then (if strR r=0 then (if r.lg.nodes.length<=4 then (if r.lg.edges.length<=4 then (if r.rg.nodes.length<=4 then decide (r.rg.edges.length<=4) else false) else false) else false) else true) else false
theorem lgtR_fit{r:Ru}(hb:r.Big)(h:lgtR r=true):r.Fit:=by
 unfold lgtR at h;split at h
 .rename_i h1;exact fewR_fit hb h1
 .cases h
theorem light43_c(r:Ru)(hb:r.Big):DC 19 [r.av] (B (lgtR r)):=by
 intro tok nt box nb;have h1:=few34_c r hb;have hf:=@fewR_fit r hb;obtain⟨N,hN⟩:∃N,lgtR r=N:=⟨_,rfl⟩
 rw[hN];unfold lgtR at hN;refine sI func19 ntmps19 fun Hb Ht=>?_
 repeat first|simp|refine sR ?_
 refine sD (h1 _ _) ?_;simp;cases e0:fewR r
 .rw[e0,if_neg (by simp)] at hN;try (simp)
  repeat (first|(refine sR ?_;simp)|(refine sC ?_;simp)|(refine sX ?_;simp only[AU,↓reduceIte]))
  refine sT (sH Hb Ht ?_);simp[<-hN]
 .rw[e0,if_pos rfl] at hN;have h2:=structural34_c r (hf e0);try (simp)
  repeat (first|(refine sR ?_;simp)|(refine sC ?_;simp)|(refine sX ?_;simp only[AU,↓reduceIte]))
  refine sD (h2 _ _) ?_;simp;by_cases e1:strR r=0
  .rw[if_pos e1] at hN;have w:∀n:Nat,((n:Int)<=4)↔n<=4:=fun n=>by omega
   by_cases s1:r.lg.nodes.length<=4
   .have s1':=(w _).2 s1
    rw[if_pos s1] at hN;by_cases s2:r.lg.edges.length<=4
    .have s2':=(w _).2 s2
     rw[if_pos s2] at hN;by_cases s3:r.rg.nodes.length<=4
     .have s3':=(w _).2 s3
      rw[if_pos s3] at hN;by_cases s4:r.rg.edges.length<=4
      .have s4':=(w _).2 s4
       rw[decide_eq_true s4] at hN;try (simp[e1,s1,s1',s2,s2',s3,s3',s4,s4'])
       repeat (first|(refine sR ?_;simp[e1,s1,s1',s2,s2',s3,s3',s4,s4'])|(refine sC ?_;simp[e1,s1,s1',s2,s2',s3,s3',s4,s4'])|(refine sX ?_;simp only[AU,↓reduceIte]))
       refine sT (sH Hb Ht ?_);simp[<-hN,s4']
      .have s4':¬(r.rg.edges.length:Int)<=4:=fun h=>s4 ((w _).1 h)
       rw[decide_eq_false s4] at hN;try (simp[e1,s1,s1',s2,s2',s3,s3',s4,s4'])
       repeat (first|(refine sR ?_;simp[e1,s1,s1',s2,s2',s3,s3',s4,s4'])|(refine sC ?_;simp[e1,s1,s1',s2,s2',s3,s3',s4,s4'])|(refine sX ?_;simp only[AU,↓reduceIte]))
       refine sT (sH Hb Ht ?_);simp[<-hN,s4']
     .have s3':¬(r.rg.nodes.length:Int)<=4:=fun h=>s3 ((w _).1 h)
      rw[if_neg s3] at hN;try (simp[e1,s1,s1',s2,s2',s3,s3'])
      repeat (first|(refine sR ?_;simp[e1,s1,s1',s2,s2',s3,s3'])|(refine sC ?_;simp[e1,s1,s1',s2,s2',s3,s3'])|(refine sX ?_;simp only[AU,↓reduceIte]))
      refine sT (sH Hb Ht ?_);simp[<-hN]
    .have s2':¬(r.lg.edges.length:Int)<=4:=fun h=>s2 ((w _).1 h)
     rw[if_neg s2] at hN;try (simp[e1,s1,s1',s2,s2'])
     repeat (first|(refine sR ?_;simp[e1,s1,s1',s2,s2'])|(refine sC ?_;simp[e1,s1,s1',s2,s2'])|(refine sX ?_;simp only[AU,↓reduceIte]))
     refine sT (sH Hb Ht ?_);simp[<-hN]
   .have s1':¬(r.lg.nodes.length:Int)<=4:=fun h=>s1 ((w _).1 h)
    rw[if_neg s1] at hN;try (simp[e1,s1,s1'])
    repeat (first|(refine sR ?_;simp[e1,s1,s1'])|(refine sC ?_;simp[e1,s1,s1'])|(refine sX ?_;simp only[AU,↓reduceIte]))
    refine sT (sH Hb Ht ?_);simp[<-hN]
  .have b1:(strR r !=0)=true:=by simp[e1]
   rw[if_neg e1] at hN;try (simp[b1,e1])
   repeat (first|(refine sR ?_;simp[b1,e1])|(refine sC ?_;simp[b1,e1])|(refine sX ?_;simp only[AU,↓reduceIte]))
   refine sT (sH Hb Ht ?_);simp[<-hN]
def smlA(t:Ty)(r:Ru)(c:Co):Bool:=if fewT t=true then (if lgtR r=true then smlC c else false) else false
theorem smlC_fit{c:Co}(h:smlC c=true):c.Fit:=by
 unfold smlC at h;split at h
 .rename_i h1;exact(fewC_fit h1).1
 .cases h
theorem smlA_fit{t:Ty}{r:Ru}{c:Co}(hr:r.Big)(h:smlA t r c=true):t.Fit/\r.Fit/\c.Fit:=by
 unfold smlA at h;split at h
 .split at h
  .rename_i h1 h2;exact⟨fewT_fit h1,lgtR_fit hr h2,smlC_fit h⟩
  .cases h
 .cases h
theorem smallA_c(t:Ty)(r:Ru)(c:Co)(hb:t.Big)(hr:r.Big)(hc:c.Big):DC 11 [t.av,r.av,c.av] (B (smlA t r c)):=by
 intro tok nt box nb;have h1:=tyFew_c t hb;have h2:=light43_c r hr;have h3:=small43_c c hc;obtain⟨N,hN⟩:∃N,smlA t r c=N:=⟨_,rfl⟩
 rw[hN];unfold smlA at hN;refine sI func11 ntmps11 fun Hb Ht=>?_
 repeat first|simp|refine sR ?_
 refine sD (h1 _ _) ?_;simp;cases e1:fewT t
 .rw[e1,if_neg (by simp)] at hN;try (simp)
  repeat (first|(refine sR ?_;simp)|(refine sC ?_;simp)|(refine sX ?_;simp only[AU,↓reduceIte]))
  refine sT (sH Hb Ht ?_);simp[<-hN]
 .rw[e1,if_pos rfl] at hN;try (simp)
  repeat (first|(refine sR ?_;simp)|(refine sC ?_;simp)|(refine sX ?_;simp only[AU,↓reduceIte]))
  refine sD (h2 _ _) ?_;simp;cases e2:lgtR r
  .rw[e2,if_neg (by simp)] at hN;try (simp)
   repeat (first|(refine sR ?_;simp)|(refine sC ?_;simp)|(refine sX ?_;simp only[AU,↓reduceIte]))
   refine sT (sH Hb Ht ?_);simp[<-hN]
  .rw[e2,if_pos rfl] at hN;try (simp)
   repeat (first|(refine sR ?_;simp)|(refine sC ?_;simp)|(refine sX ?_;simp only[AU,↓reduceIte]))
   refine sD (h3 _ _) ?_;simp;try (simp)
   repeat (first|(refine sR ?_;simp)|(refine sC ?_;simp)|(refine sX ?_;simp only[AU,↓reduceIte]))
   refine sT (sH Hb Ht ?_);simp[<-hN]
theorem guaR_fb{t:Ty}{r:Ru}{c:Co}(hr:r.Fit)(hc:c.Fit):(guaR t r c).1.Fit/\(guaR t r c).1.Bare:=by
 unfold guaR;split
 .exact nil_fb 0
 .split
  .exact nil_fb 0
  .split
   .exact nil_fb 0
   .exact leftR_fb (localR_fb (condR_fit hc) hr.rg).1
set_option maxRecDepth 100000 in
theorem lawGuarantee_c(t:Ty)(r:Ru)(c:Co)(hb:t.Big)(hr:r.Big)(hc:c.Big)(tok:Tks)(nt:Nat):∃tok' nt',DCall prog 6 [t.av,r.av,c.av] tok nt (B true) tok' nt':=by
 refine⟨tok,nt,?_⟩;intro box nb;have hsm:=smallA_c t r c hb hr hc;refine sI func6 ntmps6 fun Hb Ht=>?_
 repeat first|simp|refine sR ?_
 refine sD (awake43_c _ _) ?_;repeat first|simp|refine sR ?_
 refine sD (hsm _ _) ?_;simp;cases h1:smlA t r c
 .try (simp)
  repeat (first|(refine sR ?_;simp)|(refine sC ?_;simp)|(refine sX ?_;simp only[AU,↓reduceIte]))
  refine sD (awake43_c _ _) ?_;simp;try (simp)
  repeat (first|(refine sR ?_;simp)|(refine sC ?_;simp)|(refine sX ?_;simp only[AU,↓reduceIte]))
  refine sT (sH Hb Ht ?_);simp
 .obtain⟨ft,fr,fc⟩:=smlA_fit hr h1;have f1:=guaP_c t ft r fr c fc;have f2:=guaS_c t ft r fr c fc;obtain⟨g1,g2⟩:=guaR_fb (t:=t) fr fc;have f3:=same33_c _ (guaR t r c).1 (Nat.lt_succ_self _) g1 g2;generalize guaR t r c=L at *;try (simp)
  repeat (first|(refine sR ?_;simp)|(refine sC ?_;simp)|(refine sX ?_;simp only[AU,↓reduceIte]))
  refine sD (f1 _ _) ?_;repeat first|simp|refine sR ?_
  refine sD (f2 _ _) ?_;repeat first|simp|refine sR ?_
  refine sD (f3 _ _) ?_;simp;try (simp)
  repeat (first|(refine sR ?_;simp)|(refine sC ?_;simp)|(refine sX ?_;simp only[AU,↓reduceIte]))
  refine sT (sH Hb Ht ?_);simp
def rdStrs:Rdr prog 138 (List ByteArray):=rdStr.sliceN 1 underlying138 (by kernel_rfl) (by kernel_rfl)
abbrev AtT:=ByteArray × Int × Int × List ByteArray
theorem rdAt_n(n:Nat):RdF prog 140 (fun x:AtT=>rdStr.enc x.1++(rdInt.enc x.2.1++(rdInt.enc x.2.2.1++rdStrs.enc x.2.2.2))) (fun x=>rdStr.ok x.1/\rdInt.ok x.2.1/\rdInt.ok x.2.2.1/\rdStrs.ok x.2.2.2) n:=by
 cases n with
 | zero=>exact .zero
 | succ n=>exact RdF.struct4 (rdStr.f n) (rdInt.f n) (rdInt.f n) (rdStrs.f n) underlying140 rfl rfl rfl rfl rfl (by kernel_rfl) (by kernel_rfl) (by kernel_rfl) (by kernel_rfl)
def rdAt0:Rdr prog 140 AtT:=Rdr.ofF _ _ (fun x=>by simp[rdStr.len,rdInt.len,rdStrs.len];kernel_rfl) rdAt_n
theorem by_string:prog.bytesOf 9=16:=by kernel_rfl
theorem by_attr:prog.bytesOf 140=56:=by kernel_rfl
theorem by_node:prog.bytesOf 143=56:=by kernel_rfl
theorem by_etype:prog.bytesOf 145=64:=by kernel_rfl
theorem rdStrs_ok{l:List ByteArray}(h:rdStrs.ok l):l.length<=bigN/\∀x∈l,x.size<=maxLen:=by
 have h2:l.length*prog.bytesOf 9<=reachBytes:=h.2
 rw[by_string] at h2;have:reachBytes=140737488351232:=rfl
 exact⟨by rw[bigN_eq];omega,fun x hx=>h.1 x hx⟩
def rdAt:Rdr prog 140 At:=rdAt0.map (fun x=>⟨x.1,x.2.1,x.2.2.1,x.2.2.2⟩) At.cells At.Big (fun _=>rfl) (fun x h=>⟨h.1,(rdStrs_ok h.2.2.2).1,(rdStrs_ok h.2.2.2).2⟩) (fun _=>by kernel_rfl)
def rdAts:Rdr prog 141 (List At):=rdAt.sliceN 4 underlying141 (by kernel_rfl) (by kernel_rfl)
abbrev NtT:=ByteArray × Int × Bool × List At
theorem rdNt_n(n:Nat):RdF prog 143 (fun x:NtT=>rdStr.enc x.1++(rdInt.enc x.2.1++(rdBool.enc x.2.2.1++rdAts.enc x.2.2.2))) (fun x=>rdStr.ok x.1/\rdInt.ok x.2.1/\rdBool.ok x.2.2.1/\rdAts.ok x.2.2.2) n:=by
 cases n with
 | zero=>exact .zero
 | succ n=>exact RdF.struct4 (rdStr.f n) (rdInt.f n) (rdBool.f n) (rdAts.f n) underlying143 rfl rfl rfl rfl rfl (by kernel_rfl) (by kernel_rfl) (by kernel_rfl) (by kernel_rfl)
def rdNt0:Rdr prog 143 NtT:=Rdr.ofF _ _ (fun x=>by simp[rdStr.len,rdInt.len,rdBool.len,rdAts.len];kernel_rfl) rdNt_n
theorem rdAts_ok{l:List At}(h:rdAts.ok l):l.length<=bigN/\∀x∈l,x.Big:=by
 have h2:l.length*prog.bytesOf 140<=reachBytes:=h.2
 rw[by_attr] at h2;have:reachBytes=140737488351232:=rfl
 exact⟨by rw[bigN_eq];omega,fun x hx=>h.1 x hx⟩
def rdNt:Rdr prog 143 NT:=rdNt0.map (fun x=>⟨x.1,x.2.1,x.2.2.1,x.2.2.2⟩) NT.cells NT.Big (fun _=>rfl) (fun x h=>⟨h.1,(rdAts_ok h.2.2.2).1,(rdAts_ok h.2.2.2).2⟩) (fun _=>by kernel_rfl)
def rdNts:Rdr prog 22 (List NT):=rdNt.sliceN 4 underlying22 (by kernel_rfl) (by kernel_rfl)
abbrev EtT:=ByteArray × Int × Int × Int × Int × Int × Int
theorem rdEt_n(n:Nat):RdF prog 145 (fun x:EtT=>rdStr.enc x.1++(rdInt.enc x.2.1++(rdInt.enc x.2.2.1++(rdInt.enc x.2.2.2.1++(rdInt.enc x.2.2.2.2.1++(rdInt.enc x.2.2.2.2.2.1++rdInt.enc x.2.2.2.2.2.2)))))) (fun x=>rdStr.ok x.1/\rdInt.ok x.2.1/\rdInt.ok x.2.2.1/\rdInt.ok x.2.2.2.1/\rdInt.ok x.2.2.2.2.1/\rdInt.ok x.2.2.2.2.2.1/\rdInt.ok x.2.2.2.2.2.2) n:=by
 cases n with
 | zero=>exact .zero
 | succ n=>exact RdF.struct7 (rdStr.f n) (rdInt.f n) (rdInt.f n) (rdInt.f n) (rdInt.f n) (rdInt.f n) (rdInt.f n) underlying145 rfl rfl rfl rfl rfl rfl rfl rfl (by kernel_rfl) (by kernel_rfl) (by kernel_rfl) (by kernel_rfl) (by kernel_rfl) (by kernel_rfl) (by kernel_rfl)
def rdEt0:Rdr prog 145 EtT:=Rdr.ofF _ _ (fun x=>by simp[rdStr.len,rdInt.len];kernel_rfl) rdEt_n
def rdEt:Rdr prog 145 ET:=rdEt0.map (fun x=>⟨x.1,x.2.1,x.2.2.1,x.2.2.2.1,x.2.2.2.2.1,x.2.2.2.2.2.1,x.2.2.2.2.2.2⟩) ET.cells (fun e=>e.name.size<=maxLen) (fun _=>rfl) (fun x h=>h.1) (fun _=>by kernel_rfl)
def rdEts:Rdr prog 23 (List ET):=rdEt.sliceN 7 underlying23 (by kernel_rfl) (by kernel_rfl)
def rdTy0:Rdr prog 25 (List NT × List ET):=Rdr.struct2 rdNts rdEts underlying25 rfl rfl rfl (by kernel_rfl) (by kernel_rfl)
theorem rdTy_ok{l:List NT}{m:List ET}(h:rdNts.ok l)(k:rdEts.ok m):(Ty.mk l m).Big:=by
 have h2:l.length*prog.bytesOf 143<=reachBytes:=h.2
 have k2:m.length*prog.bytesOf 145<=reachBytes:=k.2
 rw[by_node] at h2;rw[by_etype] at k2;have:reachBytes=140737488351232:=rfl
 exact⟨by rw[bigN_eq];simp only;omega,by rw[bigN_eq];simp only;omega,fun x hx=>h.1 x hx,fun x hx=>k.1 x hx⟩
def rdTy:Rdr prog 25 Ty:=rdTy0.map (fun x=>⟨x.1,x.2⟩) (fun x=>[nts x.nodes,ets x.edges]) Ty.Big (fun _=>rfl) (fun x h=>rdTy_ok h.1 h.2) (fun _=>by kernel_rfl)
set_option maxRecDepth 100000 in
theorem arg_types{ps:Array TypeId}{args:Array Value}{W:World}{base base':Nat}{sp:Nat->Bool}{held:Bool}{H:Type}{enc:TypeId × Value->H}(hval:∀(j:Nat) t v,ps[j]?=some t->args[j]?=some v->Value.okWide prog W .any base t v)(j:Nat)(v:Value)(hp:ps[j]?=some 25)(ha:args[j]?=some v){d:DataW H}{p:List MemPlace}(h:DataW.Trod enc prog W base' sp held 25 v d p)(hli:Light prog 25 d):∃x:Ty,x.Big/\RV G0 W x.av v :=
 Exists.elim (arg_agg hval j 25 v hp ha rdTy aggT_25 h hli) fun x hx=>⟨x,hx.1,hx.2⟩
end Go.AM
