/-
 Parts of the proof, as merged from many texts: a machine over data, what the functions compute, plain laws.
-/
import Derived.Test.YtainalmfffjnjaaGreatDoorPTT8
set_option linter.unusedSimpArgs false
set_option linter.unusedVariables false
namespace Go.AM
open Go Go.Proofs
open Go.Proofs.Tryz
theorem lrgK_c(g:Gr)(hg:g.Fit):DC 123 [g.av] (B (lrgB g)):=by
 intro tok nt box nb;have hn:=hg.n;have he:=hg.e;obtain⟨N,hN⟩:∃N,lrgB g=N:=⟨_,rfl⟩
 rw[hN];unfold lrgB at hN;by_cases e1:6<g.nodes.length
 .have e1':(6:Int)<g.nodes.length:=by omega
  rw[if_pos e1] at hN;refine sI func123 ntmps123 fun Hb Ht=>?_
  try (simp[e1,e1'])
  repeat (first|(refine sR ?_;simp[e1,e1'])|(refine sC ?_;simp[e1,e1'])|(refine sX ?_;simp only[AU,↓reduceIte]))
  refine sT (sH Hb Ht ?_);simp[<-hN]
 .have e1':¬(6:Int)<g.nodes.length:=by omega
  rw[if_neg e1] at hN;by_cases e2:8<g.edges.length
  .have e2':(8:Int)<g.edges.length:=by omega
   rw[decide_eq_true e2] at hN;refine sI func123 ntmps123 fun Hb Ht=>?_
   try (simp[e1,e1',e2,e2'])
   repeat (first|(refine sR ?_;simp[e1,e1',e2,e2'])|(refine sC ?_;simp[e1,e1',e2,e2'])|(refine sX ?_;simp only[AU,↓reduceIte]))
   refine sT (sH Hb Ht ?_);simp[<-hN,e2']
  .have e2':¬(8:Int)<g.edges.length:=by omega
   rw[decide_eq_false e2] at hN;refine sI func123 ntmps123 fun Hb Ht=>?_
   try (simp[e1,e1',e2,e2'])
   repeat (first|(refine sR ?_;simp[e1,e1',e2,e2'])|(refine sC ?_;simp[e1,e1',e2,e2'])|(refine sX ?_;simp only[AU,↓reduceIte]))
   refine sT (sH Hb Ht ?_);simp[<-hN,e2']
theorem kd_cases(c:Co):(c.kind=1/\c.exts=[]/\kdE c=0)∨(c.kind=1/\c.exts≠[]/\kdE c=1)∨(c.kind=2/\c.exts=[]/\kdE c=7)∨(c.kind=2/\c.exts≠[]/\6<c.exts.length/\kdE c=3)∨(c.kind=2/\c.exts≠[]/\¬6<c.exts.length/\kdE c=0)∨(c.kind≠1/\c.kind≠2/\kdE c=1):=by
 unfold kdE;by_cases h1:c.kind=1
 .by_cases h2:c.exts=[]<;>simp[h1,h2]
 .by_cases h2:c.kind=2
  .by_cases h3:c.exts=[]
   .simp[h2,h3]
   .by_cases h4:6<c.exts.length<;>simp[h2,h3,h4]
  .simp[h1,h2]
def stSx(c:Co)(nb:Nat)(box:Bxs)(tok:Tks)(nt:Nat)(i:Nat):AS :=
 ⟨tl [(59,I i),(58,I c.exts.length),(57,.d (xts c.exts)),(1,.ptr (nb+1) 0 0)],lb nb box [(1,[c.row])],tok,nt⟩
theorem shpK_c(c:Co)(hc:c.Fit):DC 60 [c.av] (I (shpE c)):=by
 intro tok nt box nb;have h1:=isName_c c.name hc.name;have h2:=graphValid_c c.g hc.g;have h3:=lrgK_c c.g hc.g;have hxn:=hc.n;obtain⟨N,hN⟩:∃N,shpE c=N:=⟨_,rfl⟩
 rw[hN];unfold shpE at hN;generalize nameB c.name=B1 at *;generalize vG c.g=E2 at *;generalize lrgB c.g=B3 at *;cases B1
 .rw[if_pos rfl] at hN;refine sI func60 ntmps60 fun Hb Ht=>?_
  repeat first|simp|refine sR ?_
  refine sD (h1 _ _) ?_;simp;try (simp)
  repeat (first|(refine sR ?_;simp)|(refine sC ?_;simp)|(refine sX ?_;simp only[AU,↓reduceIte]))
  refine sT (sH Hb Ht ?_);simp[<-hN]
 .rw[if_neg (by simp)] at hN;have xp:=fun (h:c.exts≠[])=>List.length_pos_iff.2 h
  rcases kd_cases c with ⟨k1,x1,kd⟩|⟨k1,x1,kd⟩|⟨k1,x1,kd⟩|⟨k1,x1,x2,kd⟩|⟨k1,x1,x2,kd⟩|⟨k1,k2,kd⟩
  .rw[if_neg (by rw[kd];decide)] at hN;refine sI func60 ntmps60 fun Hb Ht=>?_
   repeat first|simp|refine sR ?_
   refine sD (h1 _ _) ?_;simp;try (simp[k1,x1])
   repeat (first|(refine sR ?_;simp[k1,x1])|(refine sC ?_;simp[k1,x1])|(refine sX ?_;simp only[AU,↓reduceIte]))
   refine sD (h2 _ _) ?_;repeat first|simp|refine sR ?_
   by_cases v0:E2=0
   .rw[if_neg (by simp[v0])] at hN;refine sC ?_;simp[v0];repeat first|simp|refine sR ?_
    refine sD (h3 _ _) ?_;simp;cases B3
    .rw[if_neg (by simp)] at hN;repeat first|simp|refine sR ?_
     refine sC ?_;repeat first|simp|refine sR ?_
     refine sN ?_;refine sL (stSx c nb box tok nt) (fun i=>i<=c.exts.length/\firstE (xtAt c) i=0) (fun i=>c.exts.length-i) 0 ⟨Nat.zero_le _,rfl⟩ wkA ?_;rintro i S' ⟨hi,hok⟩ hS;simp only[stSx] at hS;subst hS;have hw:=sW (i:=i) (by omega);repeat first|simp|refine sR ?_|refine sC ?_
     refine⟨fun hlt=>?_,fun hge=>?_⟩
     .have hx:=hc.exts _ (List.getElem_mem hlt);have hR:xtAt c i≠0->firstE (xtAt c) c.exts.length=xtAt c i:=fun h0=>firstE_stop hok h0 _ hlt
      have hnx:xtAt c i=0->firstE (xtAt c) (i+1)=0:=fun h0=>by simp only[firstE,hok,h0,↓reduceIte]
      have hd:xtAt c i=xtE c.g c.exts[i]:=xtAt_at hlt
      unfold xtE at hd;have c1:=valid51_c c.g c.exts[i].g c.exts[i].m hc.g hx.g;have c2:=lrgK_c c.exts[i].g hx.g;have c3:=injective56_c c.g c.exts[i].g c.exts[i].m hc.g hx.g hx.m;generalize xtAt c i=E at *;repeat first|simp[hlt]|refine sR ?_
      refine sD (c1 _ _) ?_;repeat first|simp|refine sR ?_
      by_cases f1:validM c.g c.exts[i].g c.exts[i].m=0
      .rw[if_neg (by simp[f1])] at hd;simp only[f1];refine sC ?_;repeat first|simp|refine sR ?_
       refine sD (c2 _ _) ?_;simp;cases f2:lrgB c.exts[i].g
       .rw[f2,if_neg (by simp)] at hd;repeat first|simp|refine sR ?_
        refine sC ?_;repeat first|simp|refine sR ?_
        refine sD (c3 _ _) ?_;simp;cases f3:injM c.g c.exts[i].g c.exts[i].m
        .rw[f3,if_neg (by simp)] at hd;rw[hR (by rw[hd];decide),hd] at hN;repeat first|simp|refine sR ?_
         refine sC ?_;repeat first|simp|refine sR ?_
         refine sT (sH Hb Ht ?_);simp[<-hN]
        .rw[f3,if_pos rfl] at hd;repeat first|simp[hw]|refine sR ?_|refine sC ?_
         refine sE ?_;exact⟨i+1,⟨hlt,hnx hd⟩,by omega,wkA⟩
       .rw[f2,if_pos rfl] at hd;rw[hR (by rw[hd];decide),hd] at hN;repeat first|simp|refine sR ?_
        refine sC ?_;repeat first|simp|refine sR ?_
        refine sT (sH Hb Ht ?_);simp[<-hN]
      .rw[if_pos f1] at hd;have b1:(validM c.g c.exts[i].g c.exts[i].m != 0)=true:=by simp[f1]
       rw[hR (by rw[hd];exact f1),hd] at hN;simp only[b1];refine sC ?_;repeat first|simp|refine sR ?_
       refine sT (sH Hb Ht ?_);simp[<-hN]
     .refine sX ?_;simp only[AU,↓reduceIte];have:i=c.exts.length:=by omega
      subst this;rw[hok] at hN;repeat first|simp|refine sR ?_
      refine sT (sH Hb Ht ?_);simp[<-hN]
    .rw[if_pos rfl] at hN;repeat first|simp|refine sR ?_
     refine sC ?_;repeat first|simp|refine sR ?_
     refine sT (sH Hb Ht ?_);simp[<-hN]
   .have b0:(E2 != 0)=true:=by simp[v0]
    rw[if_pos v0] at hN;refine sC ?_;simp[v0,b0];repeat first|simp|refine sR ?_
    refine sT (sH Hb Ht ?_);simp[<-hN]
  .rw[if_pos (by rw[kd];decide),kd] at hN;have x1':=xp x1
   refine sI func60 ntmps60 fun Hb Ht=>?_
   repeat first|simp|refine sR ?_
   refine sD (h1 _ _) ?_;simp;try (simp[k1,x1,x1'])
   repeat (first|(refine sR ?_;simp[k1,x1,x1'])|(refine sC ?_;simp[k1,x1,x1'])|(refine sX ?_;simp only[AU,↓reduceIte]))
   refine sT (sH Hb Ht ?_);simp[<-hN]
  .rw[if_pos (by rw[kd];decide),kd] at hN;refine sI func60 ntmps60 fun Hb Ht=>?_
   repeat first|simp|refine sR ?_
   refine sD (h1 _ _) ?_;simp;try (simp[k1,x1])
   repeat (first|(refine sR ?_;simp[k1,x1])|(refine sC ?_;simp[k1,x1])|(refine sX ?_;simp only[AU,↓reduceIte]))
   refine sT (sH Hb Ht ?_);simp[<-hN]
  .rw[if_pos (by rw[kd];decide),kd] at hN;have x2':(6:Int)<c.exts.length:=by omega
   refine sI func60 ntmps60 fun Hb Ht=>?_
   repeat first|simp|refine sR ?_
   refine sD (h1 _ _) ?_;simp;try (simp[k1,x1,x2,x2'])
   repeat (first|(refine sR ?_;simp[k1,x1,x2,x2'])|(refine sC ?_;simp[k1,x1,x2,x2'])|(refine sX ?_;simp only[AU,↓reduceIte]))
   refine sT (sH Hb Ht ?_);simp[<-hN]
  .rw[if_neg (by rw[kd];decide)] at hN;have x2':¬(6:Int)<c.exts.length:=by omega
   refine sI func60 ntmps60 fun Hb Ht=>?_
   repeat first|simp|refine sR ?_
   refine sD (h1 _ _) ?_;simp;try (simp[k1,x1,x2,x2'])
   repeat (first|(refine sR ?_;simp[k1,x1,x2,x2'])|(refine sC ?_;simp[k1,x1,x2,x2'])|(refine sX ?_;simp only[AU,↓reduceIte]))
   refine sD (h2 _ _) ?_;repeat first|simp|refine sR ?_
   by_cases v0:E2=0
   .rw[if_neg (by simp[v0])] at hN;refine sC ?_;simp[v0];repeat first|simp|refine sR ?_
    refine sD (h3 _ _) ?_;simp;cases B3
    .rw[if_neg (by simp)] at hN;repeat first|simp|refine sR ?_
     refine sC ?_;repeat first|simp|refine sR ?_
     refine sN ?_;refine sL (stSx c nb box tok nt) (fun i=>i<=c.exts.length/\firstE (xtAt c) i=0) (fun i=>c.exts.length-i) 0 ⟨Nat.zero_le _,rfl⟩ wkA ?_;rintro i S' ⟨hi,hok⟩ hS;simp only[stSx] at hS;subst hS;have hw:=sW (i:=i) (by omega);repeat first|simp|refine sR ?_|refine sC ?_
     refine⟨fun hlt=>?_,fun hge=>?_⟩
     .have hx:=hc.exts _ (List.getElem_mem hlt);have hR:xtAt c i≠0->firstE (xtAt c) c.exts.length=xtAt c i:=fun h0=>firstE_stop hok h0 _ hlt
      have hnx:xtAt c i=0->firstE (xtAt c) (i+1)=0:=fun h0=>by simp only[firstE,hok,h0,↓reduceIte]
      have hd:xtAt c i=xtE c.g c.exts[i]:=xtAt_at hlt
      unfold xtE at hd;have c1:=valid51_c c.g c.exts[i].g c.exts[i].m hc.g hx.g;have c2:=lrgK_c c.exts[i].g hx.g;have c3:=injective56_c c.g c.exts[i].g c.exts[i].m hc.g hx.g hx.m;generalize xtAt c i=E at *;repeat first|simp[hlt]|refine sR ?_
      refine sD (c1 _ _) ?_;repeat first|simp|refine sR ?_
      by_cases f1:validM c.g c.exts[i].g c.exts[i].m=0
      .rw[if_neg (by simp[f1])] at hd;simp only[f1];refine sC ?_;repeat first|simp|refine sR ?_
       refine sD (c2 _ _) ?_;simp;cases f2:lrgB c.exts[i].g
       .rw[f2,if_neg (by simp)] at hd;repeat first|simp|refine sR ?_
        refine sC ?_;repeat first|simp|refine sR ?_
        refine sD (c3 _ _) ?_;simp;cases f3:injM c.g c.exts[i].g c.exts[i].m
        .rw[f3,if_neg (by simp)] at hd;rw[hR (by rw[hd];decide),hd] at hN;repeat first|simp|refine sR ?_
         refine sC ?_;repeat first|simp|refine sR ?_
         refine sT (sH Hb Ht ?_);simp[<-hN]
        .rw[f3,if_pos rfl] at hd;repeat first|simp[hw]|refine sR ?_|refine sC ?_
         refine sE ?_;exact⟨i+1,⟨hlt,hnx hd⟩,by omega,wkA⟩
       .rw[f2,if_pos rfl] at hd;rw[hR (by rw[hd];decide),hd] at hN;repeat first|simp|refine sR ?_
        refine sC ?_;repeat first|simp|refine sR ?_
        refine sT (sH Hb Ht ?_);simp[<-hN]
      .rw[if_pos f1] at hd;have b1:(validM c.g c.exts[i].g c.exts[i].m != 0)=true:=by simp[f1]
       rw[hR (by rw[hd];exact f1),hd] at hN;simp only[b1];refine sC ?_;repeat first|simp|refine sR ?_
       refine sT (sH Hb Ht ?_);simp[<-hN]
     .refine sX ?_;simp only[AU,↓reduceIte];have:i=c.exts.length:=by omega
      subst this;rw[hok] at hN;repeat first|simp|refine sR ?_
      refine sT (sH Hb Ht ?_);simp[<-hN]
    .rw[if_pos rfl] at hN;repeat first|simp|refine sR ?_
     refine sC ?_;repeat first|simp|refine sR ?_
     refine sT (sH Hb Ht ?_);simp[<-hN]
   .have b0:(E2 != 0)=true:=by simp[v0]
    rw[if_pos v0] at hN;refine sC ?_;simp[v0,b0];repeat first|simp|refine sR ?_
    refine sT (sH Hb Ht ?_);simp[<-hN]
  .rw[if_pos (by rw[kd];decide),kd] at hN;have b1:(c.kind==1)=false:=by simp[k1]
   have b2:(c.kind==2)=false:=by simp[k2]
   have b3:(c.kind != 1)=true:=by simp[k1]
   have b4:(c.kind != 2)=true:=by simp[k2]
   refine sI func60 ntmps60 fun Hb Ht=>?_
   repeat first|simp|refine sR ?_
   refine sD (h1 _ _) ?_;simp;try (simp[k1,k2,b1,b2,b3,b4])
   repeat (first|(refine sR ?_;simp[k1,k2,b1,b2,b3,b4])|(refine sC ?_;simp[k1,k2,b1,b2,b3,b4])|(refine sX ?_;simp only[AU,↓reduceIte]))
   refine sT (sH Hb Ht ?_);simp[<-hN]
theorem validK1_c(t:Ty)(ht:t.Fit)(x:Xt)(hx:x.g.Fit)(hv:∀e∈x.g.edges,0<=e.fr/\e.fr<x.g.nodes.length/\0<=e.to/\e.to<x.g.nodes.length)(box:Bxs)(nb k1:Nat)(tok:Tks)(nt:Nat)(h1:box k1=some [[.d (nts t.nodes),.d (ets t.edges)]]):
  ACalls prog 69 [x.av,.ptr k1 0 0] ⟨box,nb,tok,nt⟩ fun v m=>v=B (!lvsB t x.g)/\m=⟨box,nb,tok,nt⟩:=by
 have hc:=leavesK_c t ht x.g hx hv;generalize lvsB t x.g=R at *;refine sI func69 ntmps69 fun Hb Ht=>?_
 have k1n:=key_lt Hb h1;repeat first|simp[lO k1n,h1]|refine sR ?_
 refine sD (hc _ _) ?_;repeat first|simp|refine sR ?_
 refine sT (sH Hb Ht ?_);simp
theorem validK_c(t:Ty)(ht:t.Fit)(c:Co)(hc:c.Fit):DC 17 [t.av,c.av] (I (cnE t c)):=by
 intro tok nt box nb;have h1:=valid_c4 t ht ht.hM;have h2:=shpK_c c hc;have hv:=@shpE_zero c;obtain⟨N,hN⟩:∃N,cnE t c=N:=⟨_,rfl⟩
 rw[hN];unfold cnE at hN;generalize tyE t=E at *;generalize tyN t=Z at *;generalize shpE c=S at *;refine sI func17 ntmps17 fun Hb Ht=>?_
 repeat first|simp|refine sR ?_
 refine sD (h1 _ _) ?_;repeat first|simp|refine sR ?_
 by_cases e1:E=0
 .rw[if_neg (by simp[e1])] at hN;refine sC ?_;simp[e1];repeat first|simp|refine sR ?_
  refine sD (h2 _ _) ?_;repeat first|simp|refine sR ?_
  by_cases e2:S=0
  .rw[if_neg (by simp[e2])] at hN;obtain⟨_,_,v1,_,v2⟩:=hv e2;have l1:=leavesK_c t ht c.g hc.g (validG_edges v1);have l2:=fun x (hx:x∈c.exts)=>validK1_c t ht x (hc.exts x hx).g (validG_edges (validM_VM (v2 x hx).1).vb)
   unfold lvX at hN;refine sC ?_;simp[e2];repeat first|simp|refine sR ?_
   refine sD (l1 _ _) ?_;simp;cases e3:lvsB t c.g
   .rw[e3,if_neg (by simp)] at hN;repeat first|simp|refine sR ?_
    refine sC ?_;repeat first|simp|refine sR ?_
    refine sT (sH Hb Ht ?_);simp[<-hN]
   .rw[e3,if_pos rfl] at hN;obtain⟨p,hpp⟩:∃p:Xt->Bool,(fun x:Xt=>!lvsB t x.g)=p:=⟨_,rfl⟩
    have hpy:∀y:Xt,(!lvsB t y.g)=p y:=fun y=>by rw[<-hpp]
    simp only[hpy] at l2;have hN2:(!anyB p c.exts)=allP (fun x:Xt=>lvsB t x.g) c.exts:=by
     rw[<-hpp,allP,anyB,List.any_eq_not_all_not,Bool.not_not];simp
    rw[<-hN2] at hN;repeat first|simp|refine sR ?_
    refine Stop.of_b (containsFuncX_c c.exts 69 [.ptr (nb+2) 0 0] p hc.n _ _ _ _ (fun c hc=>by rw[List.mem_singleton.1 hc];simp[lb_at]) (fun y hy box' nb' he=>l2 y hy box' nb' _ _ _ (he _ _ (by simp[lb_at])))) ?_;simp;cases e4:anyB p c.exts
    .rw[e4,Bool.not_false,if_pos rfl] at hN;repeat first|simp|refine sR ?_
     refine sC ?_;repeat first|simp|refine sR ?_
     refine sT (sH Hb Ht ?_);simp[<-hN]
    .rw[e4,Bool.not_true,if_neg (by simp)] at hN;repeat first|simp|refine sR ?_
     refine sC ?_;repeat first|simp|refine sR ?_
     refine sT (sH Hb Ht ?_);simp[<-hN]
  .rw[if_pos e2] at hN;have b2:(S != 0)=true:=by simp[e2]
   refine sC ?_;simp[b2];repeat first|simp|refine sR ?_
   refine sT (sH Hb Ht ?_);simp[<-hN]
 .rw[if_pos e1] at hN;have b1:(E != 0)=true:=by simp[e1]
  refine sC ?_;simp[b1];repeat first|simp|refine sR ?_
  refine sT (sH Hb Ht ?_);simp[<-hN]
def xC(m:Mo)(g:Gr)(k:Cd):Cd:=.mk 5 [k] m g [] 0 []
def cndC(c:Co):Cd:=cdOf 2 [xC ⟨[],[]⟩ c.g (if c.kind=1 then cdOf 1 [] else cdOf 2 [cdOf 4 (c.exts.map fun x=>xC x.m x.g (cdOf 1 []))])]
def condR(c:Co):Cd × Int:=if shpE c≠0 then (cdOf 0 [],shpE c) else (cndC c,0)
theorem copiedK_c(g:Gr)(hg:g.Fit):DC 127 [g.av] g.av:=by
 intro tok nt box nb;have h1:=clone_c g.nodes hg.n;have h2:=cloneE_c g.edges hg.e;refine sI func127 ntmps127 fun Hb Ht=>?_
 have htk:=(((TK.start Ht).full.app).full.app);repeat first|simp|refine sR ?_
 refine sD (h1 _ _) ?_;repeat first|simp|refine sR ?_
 refine sD (h2 _ _) ?_;repeat first|simp|refine sR ?_
 refine sT (sG Hb Ht htk.old htk.le ?_);simp
theorem existsK_c(m:Mo)(g:Gr)(k:Cd)(hm:m.Fit)(hg:g.Fit):DC 62 [m.av,g.av,k.av] (xC m g k).av:=by
 intro tok nt box nb;have h1:=clone_c m.nodes hm.n;have h2:=clone_c m.edges hm.e;have h3:=copiedK_c g hg;refine sI func62 ntmps62 fun Hb Ht=>?_
 have htk:=(((TK.start Ht).full.app).full.app);repeat first|simp|refine sR ?_
 refine sD (h1 _ _) ?_;repeat first|simp|refine sR ?_
 refine sD (h2 _ _) ?_;repeat first|simp|refine sR ?_
 refine sD (h3 _ _) ?_;repeat first|simp|refine sR ?_
 refine sT (sG Hb Ht htk.old htk.le ?_);simp[xC,Cd.cells_eq,Cd.kind,Cd.kids,Cd.m,Cd.g,Cd.sl,Cd.vars,Cd.te,conds,slots,tests]
theorem notK_c(k:Cd):DC 61 [k.av] (cdOf 2 [k]).av:=by
 intro tok nt box nb;refine sI func61 ntmps61 fun Hb Ht=>?_
 repeat first|simp|refine sR ?_
 refine sT (sH Hb Ht ?_);simp[cdOf,Cd.cells_eq,Cd.kind,Cd.kids,Cd.m,Cd.g,Cd.sl,Cd.vars,Cd.te,conds,ints,AM.edges,slots,tests]
def xCs(l:List Xt):List Cd:=l.map fun x=>xC x.m x.g (cdOf 1 [])
theorem xCs_succ(l:List Xt){i:Nat}(h:i<l.length):xCs (l.take (i+1))=xCs (l.take i)++[xC l[i].m l[i].g (cdOf 1 [])]:=by
 unfold xCs;rw[<-List.take_append_getElem h,List.map_append];rfl
theorem xCs_len(l:List Xt)(i:Nat):(xCs (l.take i)).length<=i:=by simp[xCs];omega
theorem shpE_kind{c:Co}(h:shpE c=0):c.kind=1∨c.kind=2:=by
 have h2:=(shpE_zero h).2.1;unfold kdE at h2;split at h2
 .left;assumption
 .split at h2
  .right;assumption
  .cases h2
def stCk(c:Co)(nb:Nat)(box:Bxs)(x:Acc):AS :=
 ⟨tl [(29,I x.i),(28,I c.exts.length),(27,.d (xts c.exts)),(6,.ptr (nb+6) 0 0),(5,.ptr (nb+5) 0 0),(2,.ptr (nb+2) 0 0),(1,.ptr (nb+1) 0 0)],
  lb nb box [(6,[[I 4,.osl 9 ((xCs (c.exts.take x.i)).map Cd.cells) x.own,nilS,nilS,nilS,nilS,nilS,z0i,nilS]]),(5,[(cdOf 1 []).row]),(1,[c.row]),(2,[[z0i,nilS,nilS,nilS,nilS,nilS,nilS,z0i,nilS]])],x.tok,x.nt⟩
theorem yesSub:Sub (.agg [I 1,nilS,nilS,nilS,nilS,nilS,nilS,z0i,nilS]) (cdOf 1 []).av:=Sub.agg ⟨Sub.refl _,Sub.nil _ _ _,Sub.nil _ _ _,Sub.nil _ _ _,Sub.nil _ _ _,Sub.nil _ _ _,Sub.nil _ _ _,Sub.refl _,Sub.nil _ _ _,trivial⟩
theorem noMoSub:Sub (.agg [nilS,nilS]) (Mo.mk [] []).av:=Sub.agg ⟨Sub.nil _ _ _,Sub.nil _ _ _,trivial⟩
set_option maxRecDepth 100000 in
theorem condK_c(c:Co)(hc:c.Fit):DC 15 [c.av] (.tup [(condR c).1.av,I (condR c).2]):=by
 intro tok nt box nb;have h1:=shpK_c c hc;have hv:=@shpE_zero c;have hkd:=@shpE_kind c;have hxn:=hc.n;have h2:=fun k=>existsK_c ⟨[],[]⟩ c.g k fit_nilM hc.g
 have h3:=notK_c;obtain⟨N,hN⟩:∃N,condR c=N:=⟨_,rfl⟩
 rw[hN];unfold condR cndC at hN;generalize shpE c=S at *;refine sI func15 ntmps15 fun Hb Ht=>?_
 repeat first|simp|refine sR ?_
 refine sD (h1 _ _) ?_;repeat first|simp|refine sR ?_
 by_cases e1:S=0
 .rw[if_neg (by simp[e1])] at hN;refine sC ?_;simp[e1];rcases hkd e1 with k|k
  .rw[if_pos k] at hN;try (simp[k])
   repeat (first|(refine sR ?_;simp[k])|(refine sC ?_;simp[k])|(refine sX ?_;simp only[AU,↓reduceIte]))
   refine Stop.sub (args':=[(Mo.mk [] []).av,c.g.av,(cdOf 1 []).av]) ⟨noMoSub,Sub.refl _,yesSub,trivial⟩ ?_;refine sD (h2 _ _ _) ?_;repeat first|simp|refine sR ?_
   refine sD (h3 _ _ _) ?_;repeat first|simp|refine sR ?_
   refine sT (sH Hb Ht ?_);simp[<-hN]
  .rw[if_neg (by rw[k];decide)] at hN;have hx:=fun x (hx:x∈c.exts)=>existsK_c x.m x.g (cdOf 1 []) (hc.exts x hx).m (hc.exts x hx).g
   have e5:(cdOf 1 []).row=[I 1,.d (conds []),.d (ints []),.d (ints []),.d (ints []),.d (AM.edges []),.d (slots []),z0i,.d (tests [])]:=rfl
   try (simp[k])
   repeat (first|(refine sR ?_;simp[k])|(refine sC ?_;simp[k])|(refine sX ?_;simp only[AU,↓reduceIte]))
   refine sN ?_;refine sL (stCk c nb box) (fun x=>x.i<=c.exts.length/\TK tok nt x.tok x.nt [x.own]) (fun x=>c.exts.length-x.i) ⟨0,.full,tok,nt⟩ ⟨Nat.zero_le _,(TK.start Ht).full⟩ (wM (nr _) rfl (by simp[ToL,lk]) (by simp[BoxL,lk,xCs,e5,conds,ints,AM.edges,slots,tests])) ?_;rintro⟨i,own,tok',nt'⟩ S ⟨hi,htk⟩ hS;simp only[stCk] at hS hi htk;subst hS;have hw:=sW (i:=i) (by omega);obtain⟨K,hK⟩:∃K,xCs (c.exts.take i)=K:=⟨_,rfl⟩
   have hKl:K.length<=i:=by rw[<-hK];exact xCs_len _ _
   rw[hK];repeat first|simp|refine sR ?_|refine sC ?_
   refine⟨fun hlt=>?_,fun hge=>?_⟩
   .have hxi:=hx _ (List.getElem_mem hlt);have hstep:=xCs_succ c.exts hlt;rw[hK] at hstep;repeat first|simp[hlt]|refine sR ?_
    refine sD (hxi _ _) ?_;simp;simp only[xC,Cd.av,Cd.row,Cd.kind,Cd.kids,Cd.m,Cd.g,Cd.sl,Cd.vars,Cd.te];repeat first|simp|refine sR ?_
    refine⟨⟨by omega,htk.live⟩,?_⟩;repeat first|simp[hw]|refine sR ?_
    refine sE ?_;exact⟨⟨i+1,_,_,_⟩,⟨hlt,htk.app⟩,by simp only;omega,wM htk.app.le rfl (by simp[ToL,lk]) (by simp only[hstep];simp[BoxL,lk,e5,xC,cdOf,conds,ints,AM.edges,slots,tests,Cd.cells_eq,Cd.kind,Cd.kids,Cd.m,Cd.g,Cd.sl,Cd.vars,Cd.te])⟩
   .refine sX ?_;simp only[AU,↓reduceIte];have:i=c.exts.length:=by omega
    subst this;rw[List.take_length] at hK;have hK2:(c.exts.map fun x=>xC x.m x.g (cdOf 1 []))=K:=hK
    rw[hK2] at hN;have e6:(cdOf 4 K).row=[I 4,.d (conds K),.d (ints []),.d (ints []),.d (ints []),.d (AM.edges []),.d (slots []),z0i,.d (tests [])]:=rfl
    refine AL.weak (wM (l':=[(6,.ptr (nb+6) 0 0),(2,.ptr (nb+2) 0 0),(1,.ptr (nb+1) 0 0)]) (loc':=[(6,[(cdOf 4 K).row]),(1,[c.row]),(2,[[z0i,nilS,nilS,nilS,nilS,nilS,nilS,z0i,nilS]])]) htk.le rfl (by simp[ToL,lk]) (by simp[BoxL,lk,e6,ints,AM.edges,slots,tests])) ?_;repeat first|simp|refine sR ?_
    refine sD (h3 (cdOf 4 K) _ _) ?_;repeat first|simp|refine sR ?_
    refine Stop.sub (args':=[(Mo.mk [] []).av,c.g.av,(cdOf 2 [cdOf 4 K]).av]) ⟨noMoSub,Sub.refl _,Sub.refl _,trivial⟩ ?_;refine sD (h2 _ _ _) ?_;repeat first|simp|refine sR ?_
    refine sD (h3 _ _ _) ?_;repeat first|simp|refine sR ?_
    refine sT (sG Hb Ht htk.old htk.le ?_);simp[<-hN]
 .rw[if_pos e1] at hN;have b1:(S != 0)=true:=by simp[e1]
  refine sC ?_;simp[b1];repeat first|simp|refine sR ?_
  refine sT (sH Hb Ht ?_);simp[<-hN,cdOf,conds,ints,AM.edges,slots,tests,Cd.kind,Cd.kids,Cd.m,Cd.g,Cd.sl,Cd.vars,Cd.te]
variable {P:Program}
section
variable (R:AV->AV->Prop)
def CvR(r r':List AV):Prop:=r.length=r'.length/\∀i (h1:i<r.length) (h2:i<r'.length),R r[i] r'[i]
def CvRs(r r':List (List AV)):Prop:=r.length=r'.length/\∀i (h1:i<r.length) (h2:i<r'.length),CvR R r[i] r'[i]
def CvL:List (Nat × AV)->List (Nat × AV)->Prop
 | [],[]=>True
 | (i,x)::a,(j,y)::b=>i=j/\R x y/\CvL a b
 | _,_=>False
def CvB:List (Nat × List (List AV))->List (Nat × List (List AV))->Prop
 | [],[]=>True
 | (i,x)::a,(j,y)::b=>i=j/\CvRs R x y/\CvB a b
 | _,_=>False
end
section
variable {R:AV->AV->Prop}
theorem CvL.at(h0:R .bot .bot):∀{l l':List (Nat × AV)},CvL R l l'->∀i,R (tl l i) (tl l' i)
 | [],[],_,i=>h0
 | (i,x)::a,(j,y)::b,h,q=>by
  obtain⟨rfl,h1,h2⟩:=h;rw[tl_cons,tl_cons];split
  .exact h1
  .exact CvL.at h0 h2 q
 | [],_::_,h,_=>h.elim
 | _::_,[],h,_=>h.elim
theorem CvB.at:∀{l l':List (Nat × List (List AV))},CvB R l l'->∀i,(lk l i=none/\lk l' i=none)∨∃r r',lk l i=some r/\lk l' i=some r'/\CvRs R r r'
 | [],[],_,i=>.inl ⟨rfl,rfl⟩
 | (i,x)::a,(j,y)::b,h,q=>by
  obtain⟨rfl,h1,h2⟩:=h;rw[lk_cons,lk_cons];split
  .exact .inr ⟨x,y,rfl,rfl,h1⟩
  .exact CvB.at h2 q
 | [],_::_,h,_=>h.elim
 | _::_,[],h,_=>h.elim
theorem CvRs.flat:∀{r r':List (List AV)},CvRs R r r'->CvR R r.flatten r'.flatten
 | [],[],_=>⟨rfl,fun i h=>by simp at h⟩
 | x::a,y::b,h=>by
  have h0:=h.2 0 (by simp) (by simp);have ih:CvR R a.flatten b.flatten:=CvRs.flat ⟨by simpa using h.1,fun i h1 h2=>h.2 (i+1) (by simpa using h1) (by simpa using h2)⟩
  simp only[List.getElem_cons_zero] at h0;refine⟨by simp[h0.1,ih.1],fun i h1 h2=>?_⟩;have hl:=h0.1;have hi2:=ih.1;simp only[List.flatten_cons] at h1 h2 ⊢;rw[List.length_append] at h1 h2;by_cases hi:i<x.length
  .have e1:(x++a.flatten)[i]'(by rw[List.length_append];omega)=x[i]:=List.getElem_append_left hi
   have e2:(y++b.flatten)[i]'(by rw[List.length_append];omega)=y[i]'(by omega):=List.getElem_append_left (by omega)
   rw[e1,e2];exact h0.2 i hi _
  .have e1:(x++a.flatten)[i]'(by rw[List.length_append];omega)=a.flatten[i-x.length]'(by omega):=List.getElem_append_right (by omega)
   have e2:(y++b.flatten)[i]'(by rw[List.length_append];omega)=b.flatten[i-y.length]'(by omega):=List.getElem_append_right (by omega)
   rw[e1,e2];have:=ih.2 (i-x.length) (by omega) (by omega)
   simp only[hl] at this ⊢;exact this
 | [],_::_,h=>by have:=h.1;simp at this
 | _::_,[],h=>by have:=h.1;simp at this
theorem CvR.vs{G:Gh}{w:World}(hto:∀x y v,R x y->RV G w x v->RV G w y v){xs ys:List AV}{vs:List Value}(h:CvR R xs ys)(hr:RVs G w xs vs):RVs G w ys vs :=
 ⟨h.1.symm.trans hr.1,fun i h1 h2=>hto _ _ _ (h.2 i (by rw[h.1];exact h1) h1) (hr.2 i _ h2)⟩
theorem RelM.rows{G:Gh}{w:World}{base nb nt:Nat}{out:Bxs}{loc loc':List (Nat × List (List AV))}{tok:Nat->Bool}(hto:∀x y v,R x y->RV G w x v->RV G w y v)(hb:CvB R loc loc')(hm:RelM G ⟨lb base out loc,nb,tok,nt⟩ w):RelM G ⟨lb base out loc',nb,tok,nt⟩ w:=by
 constructor
 case box =>
  intro k rows b z hk hbx;simp only at hk;by_cases hkb:k<base
  .rw[lO hkb] at hk;exact hm.box k rows b z (by simp only;rw[lO hkb];exact hk) hbx
  .have hkk:k=base+(k-base):=by omega
   rw[hkk,lb_at] at hk;rcases hb.at (k-base) with ⟨_,h2⟩|⟨r0,r',h1,h2,h3⟩
   .rw[h2] at hk;cases hk
   .rw[h2] at hk;cases hk;obtain⟨g1,cs,e,g2,g3,g4,g5⟩:=hm.box k r0 b z (by simp only;rw[hkk,lb_at];exact h1) hbx;refine⟨g1,cs,e,g2,fun q hq=>?_,h3.flat.vs hto g4,g5⟩;obtain⟨i,hi,rfl⟩:=List.getElem_of_mem hq;have hi0:i<r0.length:=by rw[h3.1];exact hi
    rw[<-(h3.2 i hi0 hi).1];exact g3 _ (List.getElem_mem _)
 case nobox =>
  intro k hk;refine hm.nobox k ?_;simp only at hk ⊢;by_cases hkb:k<base
  .rw[lO hkb] at hk ⊢;exact hk
  .have hkk:k=base+(k-base):=by omega
   rw[hkk,lb_at] at hk ⊢;rcases hb.at (k-base) with ⟨h1,_⟩|⟨r0,r',_,h2,_⟩
   .exact h1
   .rw[h2] at hk;cases hk
 case inj=>exact hm.inj
 case nb =>
  intro k hk;have h0:=hm.nb k hk;simp only at h0 ⊢;by_cases hkb:k<base
  .rw[lO hkb] at h0 ⊢;exact h0
  .have hkk:k=base+(k-base):=by omega
   rw[hkk,lb_at] at h0 ⊢;rcases hb.at (k-base) with ⟨_,h2⟩|⟨r0,r',h1,_,_⟩
   .exact h2
   .rw[h1] at h0;cases h0
 case nt=>exact hm.nt
 case toks=>exact hm.toks
 case tokb=>exact hm.tokb
 case tinj=>exact hm.tinj
 case tnt=>exact hm.tnt
 case glob=>exact hm.glob
 case fresh=>exact hm.fresh
end
inductive OpTo (t sz:Nat):AV->AV->Prop
 | bot {x}:OpTo t sz x .bot
 | same {x}:OpTo t sz x x
 | nil {n}:OpTo t sz (.osl n [] .full) (.stk t sz [])
theorem OpTo.rv{G:Gh}{w:World}{t sz:Nat}(ht:t<G.nt)(hk:G.tk t=some none){x y:AV}{v:Value}(h:OpTo t sz x y)(hr:RV G w x v):RV G w y v:=by
 cases h with
 | bot=>exact .bot
 | same=>exact hr
 | nil =>
  cases hr with
  | osl _ ho =>
   obtain⟨A,rfl,_⟩:=ho;refine .stk ⟨ht,A,0,rfl,nr _,Nat.zero_le _,fun x hx=>?_⟩;rw[hk] at hx;cases hx;rfl
theorem Trans.opn{cx:Cx}{nt0 nt:Nat}{l l':List (Nat × AV)}{out:Bxs}{loc loc':List (Nat × List (List AV))}{tok:Nat->Bool}(sz:Nat)(hl:CvL (OpTo nt sz) l l')(hb:CvB (OpTo nt sz) loc loc'):
  Trans cx nt0 ⟨tl l,lb cx.base out loc,tok,nt⟩ ⟨tl l',lb cx.base out loc',upd tok nt true,nt+1⟩:=by
 intro G0 w0 G a w he hn0 hS hL;have hm:=hS.mem;have hgnt:G.nt=nt:=hm.nt
 have hle:=Le.newtok (G:=G) (w:=w) none;have hm':=hm.newtok none (fun g h=>by cases h)
 have h1:nt<(G.newtok none).nt:=by simp only[Gh.newtok];omega
 have h2:(G.newtok none).tk nt=some none:=by simp only[Gh.newtok];rw[<-hgnt,uS]
 refine⟨G.newtok none,⟨hS.defers,hS.size,fun i=>(hl.at .bot i).rv h1 h2 ((hS.tmps i).mono hle),hm'.rows (fun x y v h hr=>h.rv h1 h2 hr) hb⟩,?_⟩;refine hL.step ⟨hle,fun k hkb hg=>⟨hg,?_⟩⟩;simp only;rw[lO hkb,lO hkb]
section
variable {t sz:Nat}
@[simp] theorem opTo_bot(x:AV):OpTo t sz x .bot:=.bot
@[simp] theorem opTo_same(x:AV):OpTo t sz x x:=.same
@[simp] theorem opTo_nil(n:Nat):OpTo t sz (.osl n [] .full) (.stk t sz []):=.nil
end
@[simp] theorem to_stk{p:Nat->Prop}{fz:Option (Nat × Nat × List (List D))}(t sz:Nat)(es:List (List D)):To p (fun _=>True) fz (.stk t sz es) (.stk t sz es):=.same (.stk trivial)
@[simp] theorem to_que{p:Nat->Prop}{fz:Option (Nat × Nat × List (List D))}(t sz:Nat)(es:List (List D)):To p (fun _=>True) fz (.que t sz es) (.que t sz es):=.same (.que trivial)
@[simp] theorem okIn_que{p q:Nat->Prop}{t sz:Nat}{es:List (List D)}:OkIn p q (.que t sz es)↔q t:=⟨fun h=>by cases h;assumption,.que⟩
@[simp] theorem okIn_stk{p q:Nat->Prop}{t sz:Nat}{es:List (List D)}:OkIn p q (.stk t sz es)↔q t:=⟨fun h=>by cases h;assumption,.stk⟩
theorem cvR_nil{R:AV->AV->Prop}:CvR R [] []:=⟨rfl,fun i h=>by simp at h⟩
theorem cvR_cons{R:AV->AV->Prop}{x y:AV}{a b:List AV}(h:R x y)(r:CvR R a b):CvR R (x::a) (y::b):=⟨by simp[r.1],fun i h1 h2=>by
 cases i with
 | zero=>exact h
 | succ i=>exact r.2 i (by simpa using h1) (by simpa using h2)⟩
theorem cvRs_one{R:AV->AV->Prop}{r r':List AV}(h:CvR R r r'):CvRs R [r] [r']:=⟨rfl,fun i h1 h2=>by
 have:i=0:=by simp at h1;omega
 subst this;exact h⟩
variable {P:Program}
inductive CellD (tok:Tks):AV->D->Prop
 | d {x}:CellD tok (.d x) x
 | osl {sz es o}:CellD tok (.osl sz es o) (.sl sz es)
 | stk {t sz es} (h:tok t=true):CellD tok (.stk t sz es) (.sl sz es)
def CellDs(tok:Tks):List AV->List D->Prop
 | [],[]=>True
 | x::a,y::b=>CellD tok x y/\CellDs tok a b
 | _,_=>False
theorem CellDs.at{tok:Nat->Bool}:∀{a:List AV} {b:List D},CellDs tok a b->a.length=b.length/\∀i (h1:i<a.length) (h2:i<b.length),CellD tok a[i] b[i]
 | [],[],_=>⟨rfl,fun i h=>by simp at h⟩
 | x::a,y::b,h=>by
  obtain⟨h1,h2⟩:=CellDs.at h.2;refine⟨by simp[h1],fun i g1 g2=>?_⟩;cases i with
  | zero=>exact h.1
  | succ i=>exact h2 i (by simpa using g1) (by simpa using g2)
 | [],_::_,h=>h.elim
 | _::_,[],h=>h.elim
inductive Lent (box:Bxs) (tok:Tks):AV->AV->Prop
 | same {x} (h:OkIn (fun _=>False) (fun _=>True) x):Lent box tok x x
 | stk {t sz es} (h:tok t=true):Lent box tok (.stk t sz es) (.d (.sl sz es))
 | ptr {k row ds} (hk:box k=some [row]) (h:CellDs tok row ds):Lent box tok (.ptr k 0 0) (.cptr ds 0)
 | fn {f} {caps caps':List AV} (hl:caps.length=caps'.length) (h:∀i (h1:i<caps.length) (h2:i<caps'.length),Lent box tok caps[i] caps'[i]):Lent box tok (.fn f caps) (.fn f caps')
def LentL(box:Bxs)(tok:Tks):List AV->List AV->Prop
 | [],[]=>True
 | x::a,y::b=>Lent box tok x y/\LentL box tok a b
 | _,_=>False
theorem Lent.ext{box box':Bxs}{tok:Nat->Bool}(he:Ext box box'){x y:AV}(h:Lent box tok x y):Lent box' tok x y:=by
 induction h with
 | same h=>exact .same h
 | stk h=>exact .stk h
 | ptr hk h=>exact .ptr (he _ _ hk) h
 | fn hl _ ih=>exact .fn hl ih
theorem LentL.ext{box box':Bxs}{tok:Nat->Bool}(he:Ext box box'):∀{a b:List AV},LentL box tok a b->LentL box' tok a b
 | [],[],_=>trivial
 | x::a,y::b,h=>⟨h.1.ext he,LentL.ext he h.2⟩
 | [],_::_,h=>h.elim
 | _::_,[],h=>h.elim
def Gh.lb(G:Gh)(b:Nat):Prop:=(∃k sz,G.bx k=some (b,sz))∨∃t,G.tk t=some (some b)/\G.kind b=.ex
def Gh.lt(G:Gh)(t:Nat):Prop:=∃g,G.tk t=some (some g)/\G.kind g=.ex
open Classical in
noncomputable def Gh.lent(G:Gh):Gh:={ bx:=fun _=>none,kind:=fun b=>if G.lb b then .whole else G.kind b,tk:=fun t=>if G.lt t then none else G.tk t,nt:=G.nt }
open Classical in
noncomputable def Gh.back(G G1:Gh):Gh:={ bx:=G.bx,kind:=fun b=>if G.lb b then G.kind b else G1.kind b,tk:=fun t=>if G.lt t then G.tk t else G1.tk t,nt:=G1.nt }
theorem lent_ps{G:Gh}{a:Addr}(h:G.ps a):G.lent.ps a:=by
 unfold Gh.ps at h ⊢;simp only[Gh.lent];by_cases e:G.lb a.block
 .simp[e]
 .simp only[e,↓reduceIte];exact h
theorem lent_tk{G:Gh}{t:Nat}{x:Option Nat}(h:G.lent.tk t=some x):G.tk t=some x/\¬G.lt t:=by
 simp only[Gh.lent] at h;split at h
 .cases h
 .rename_i hn;exact⟨h,hn⟩
theorem lent_cell{G:Gh}{m:AMem}{w:World}(hm:RelM G m w){x:AV}{y:D}{v:Value}(hc:CellD m.tok x y)(h:RV G w x v):RVd w.cell? G.lent.ps y v:=by
 have hcm:∀(a:Addr) (u:Value),G.ps a->w.cell? a=some u->G.lent.ps a/\w.cell? a=some u:=fun a u h1 h2=>⟨lent_ps h1,h2⟩
 cases hc with
 | d=>cases h with|d h1=>exact h1.mono hcm
 | osl=>cases h with|osl h1 _=>exact h1.mono hcm
 | @stk t sz es ht =>
  cases h with
  | stk hs =>
   obtain⟨_,A,cap,rfl,hcap,hmax,hst⟩:=hs;obtain⟨_,y,hy⟩:=hm.toks t ht;have hst:=hst y hy;cases y with
   | none =>
    have hes:es=[]:=List.eq_nil_of_length_eq_zero (by have:cap=0:=hst;omega)
    subst hes;exact .sl (es:=[]) (fun _ _=>default) (Nat.zero_le _) hmax (by simp) (by simp) (fun a _ i j hi _=>by simp at hi) (fun i j hi _=>by simp at hi)
   | some g =>
    obtain⟨hA,vs,sp,e,h1,h2,h3,h4,h5⟩:=hst;refine RVd.of_flat hcap hmax ⟨h4.len,fun a ha q u hq=>?_,h4.one,fun _=>⟨_,hA⟩,h4.each,fun i j hi hj=>?_⟩
    .rw[hA] at ha;cases ha;rw[add_none];refine⟨?_,?_⟩
     .have hl:G.lb g:=.inr ⟨t,hy,h1⟩
      simp[Gh.ps,Gh.lent,hl]
     .rw[cell_of_row w g _ _ e (0,0) h2,Nat.zero_add];simp only[List.getElem?_toArray];rw[List.getElem?_append_left (List.getElem?_eq_some_iff.1 hq).1];exact hq
    .obtain⟨u,hu,hr⟩:=h4.read i j hi hj;exact⟨u,hu,hr.mono hcm⟩
theorem lb_kind{G:Gh}{m:AMem}{w:World}(hm:RelM G m w){b:Nat}(h:G.lb b):b<w.heap.size/\(G.kind b=.box∨G.kind b=.ex):=by
 rcases h with ⟨k,sz,h⟩|⟨t,h1,h2⟩
 .have:=hm.blt h
  exact⟨this.1,.inl this.2⟩
 .obtain⟨f,cur,e,_,h3⟩:=hm.tokb t b h1;exact⟨heap_lt h3,.inr h2⟩
theorem RV.lent{G:Gh}{m:AMem}{w:World}(hm:RelM G m w){x:AV}{v:Value}(h:RV G w x v)(ho:OkIn (fun _=>False) (fun _=>True) x):RV G.lent w x v:=by
 have hc:∀(a:Addr) (u:Value),G.ps a->w.cell? a=some u->G.lent.ps a/\w.cell? a=some u:=fun a u h1 h2=>⟨lent_ps h1,h2⟩
 have hk:∀g f c,G.kind g=.part f c->G.lent.kind g=G.kind g:=fun g f c hg=>by
  simp only[Gh.lent];rw[if_neg fun e=>by rcases (lb_kind hm e).2 with h|h<;>rw[hg] at h<;>cases h]
 have hown:∀{sz n:Nat} {o:Own} {v:Value},OwnR G sz n o v->OwnR G.lent sz n o v:=by
  intro sz n o v h2;cases o with
  | full=>exact h2
  | tok t =>
   refine⟨h2.1,fun y hy=>?_⟩;have:=h2.2 y (lent_tk hy).1
   cases y with
   | none=>exact this
   | some g =>
    obtain⟨cap,hv,hg⟩:=this;exact⟨cap,hv,(hk g _ _ hg).trans hg⟩
 induction h with
 | bot=>exact .bot
 | d h1=>exact .d (h1.mono hc)
 | osl h1 h2=>exact .osl (h1.mono hc) (hown h2)
 | ptr h1=>cases ho with|ptr h=>exact h.elim
 | here h1 h2=>cases ho with|here h=>exact h.elim
 | buf h1 h2 h3 h4=>exact .buf (h1.mono hc) (hown h2) (fun e=>h3 (lent_tk e).1) (fun g hg=>h4 g (lent_tk hg).1)
 | cptr a u h1 h2=>exact .cptr a u (fun j hj=>hc _ _ (h1 j hj).1 (h1 j hj).2) fun j hj=>(h2 j hj).mono hc
 | msl h1=>cases ho with|msl h=>exact h.elim
 | fn hl _ ih=>cases ho with|fn h=>exact .fn hl fun i h1 h2=>ih i h1 h2 (h _ (List.getElem_mem h1))
 | agg hl _ hone ih=>cases ho with|agg h=>exact .agg hl (fun i h1 h2=>ih i h1 h2 (h _ (List.getElem_mem h1))) hone
 | tup hl _ ih=>cases ho with|tup h=>exact .tup hl fun i h1 h2=>ih i h1 h2 (h _ (List.getElem_mem h1))
 | ex h1 =>
  obtain⟨r1,r0,r2⟩:=h1;refine .ex ⟨r1,r0,fun y hy=>?_⟩;obtain⟨hy1,hn⟩:=lent_tk hy;obtain⟨g,cap,cs,e,rfl,h2,h3,h4,h5,_⟩:=r2 y hy1;exact absurd ⟨g,hy1,h5⟩ hn
 | stk h1 =>
  obtain⟨r1,A,cap,hv,hc1,hmx,r2⟩:=h1;refine .stk ⟨r1,A,cap,hv,hc1,hmx,fun y hy=>?_⟩;obtain⟨hy1,hn⟩:=lent_tk hy;have h0:=r2 y hy1;cases y with
  | none=>exact h0
  | some g =>
   obtain⟨hA,vs,sp,e,h5,_⟩:=h0;exact absurd ⟨g,hy1,h5⟩ hn
 | que h1 h2=>exact .que (h1.mono hc) (h2.imp h2.1 fun x hx=>⟨(lent_tk hx).1,fun g _ f c he=>(hk g f c he).trans he⟩)
 | mp h1 =>
  obtain⟨r1,r0,r,hv,r2⟩:=h1;refine .mp ⟨r1,r0,r,hv,fun y hy=>?_⟩;obtain⟨hy1,hn⟩:=lent_tk hy;obtain⟨rfl,h5,_⟩:=r2 y hy1;exact absurd ⟨r,hy1,h5⟩ hn
 | mpd h1=>exact .mpd (h1.imp hc fun r _ hk1=>⟨by simp only[Gh.lent];split;rfl;exact hk1,rfl⟩)
theorem Lent.rv{G:Gh}{m:AMem}{w:World}(hm:RelM G m w){x y:AV}{v:Value}(hb:Lent m.box m.tok x y)(h:RV G w x v):RV G.lent w y v:=by
 induction hb generalizing v with
 | fn hl _ ih =>
  cases h with
  | fn hl' hh=>exact .fn (hl.symm.trans hl') fun i h1 h2=>ih i (by omega) h1 (hh i (by omega) h2)
 | same ho=>exact h.lent hm ho
 | stk ht=>exact .d (lent_cell hm (.stk ht) h)
 | @ptr k row ds hk hd =>
  generalize hx:AV.ptr k 0 0=x at h;cases h with
  | @ptr k' i off b sz hbx =>
   cases hx;obtain⟨hkind,cs,e,hheap,hrows,hR,hone⟩:=hm.box k [row] b sz hk hbx;have hR:RVs G w row cs.toList:=by simpa using hR
   obtain⟨hl,hat⟩:=hd.at;have hlb:G.lb b:=.inl ⟨k,sz,hbx⟩
   have:=RV.cptr (G:=G.lent) (w:=w) (cs:=ds) (off:=0) ⟨b,0,none⟩ (fun j=>cs.getD j default) (fun j hj=>?_) (fun j hj=>?_)
   .rw[add_none] at this;simpa using this
   .rw[add_none];refine⟨by simp[Gh.ps,Gh.lent,hlb],?_⟩;rw[cell_of_row w b _ _ e (0,0) hheap,Nat.zero_add];have hjl:j<cs.size:=by have:=hR.1;simp at this;omega
    simp[hjl]
   .have hjl:j<cs.size:=by have:=hR.1;simp at this;omega
    have h1:=lent_cell hm (hat j (by omega) hj) (hR.2 j (by omega) (by simpa using hjl));simpa[hjl] using h1
  | _=>cases hx
theorem LentL.rvs{G:Gh}{m:AMem}{w:World}(hm:RelM G m w):∀{xs ys:List AV} {vs:List Value},LentL m.box m.tok xs ys->RVs G w xs vs->RVs G.lent w ys vs
 | [],[],vs,_,h=>⟨by have:=h.1;simpa using this,fun i h=>by simp at h⟩
 | x::a,y::b,vs,hb,h=>by
  obtain⟨v,us,rfl,h1,h2⟩:=h.uncons;exact RVs.cons (hb.1.rv hm h1) (LentL.rvs hm hb.2 h2)
 | [],_::_,_,h,_=>h.elim
 | _::_,[],_,h,_=>h.elim
theorem RCall.lends{f:FuncId}{args args':List AV}{box:Bxs}{tok:Nat->Bool}{nt:Nat}{u:Value}(hu:u.oneCell'=true)(h:∀tok,DCall P f args' tok nt (.d (.raw u)) tok nt)(hb:LentL box tok args args'):RCall P f args box tok nt (.d (.raw u)) tok nt:=by
 classical
 intro box' nb hext;have hb':=hb.ext hext
 refine⟨(h tok (fun _=>none) nb).1,fun G w vals hm hr=>?_⟩;obtain⟨_,hc⟩:=h (fun t=>tok t&&decide (¬G.lt t)) (fun _=>none) nb;have hlbk:=fun {b} (hb:G.lb b)=>lb_kind hm hb
 have hnl:∀t g,G.tk t=some (some g)->¬G.lt t->¬G.lb g:=fun t g ht hn hl=>by
  rcases hl with ⟨k,sz,hk⟩|⟨t2,h1,h2⟩
  .obtain⟨f',cur,e,h1,_⟩:=hm.tokb t g ht;rw[(hm.blt hk).2] at h1;rcases h1 with ⟨h1,_⟩|h1<;>cases h1
  .exact hn ⟨g,ht,h2⟩
 have hm1:RelM G.lent ⟨fun _=>none,nb,fun t=>tok t&&decide (¬G.lt t),nt⟩ w:=by
  constructor
  case box=>intro k rows b sz h1;cases h1
  case nobox=>intro k _;rfl
  case inj=>intro k k' b sz sz' h1;cases h1
  case nb=>intro k _;rfl
  case nt=>exact hm.nt
  case toks =>
   intro t ht;simp only[Bool.and_eq_true,decide_eq_true_eq] at ht;obtain⟨h1,x,h2⟩:=hm.toks t ht.1;exact⟨h1,x,by simp only[Gh.lent];rw[if_neg ht.2];exact h2⟩
  case tokb =>
   intro t g ht;obtain⟨h1,h2⟩:=lent_tk ht;obtain⟨f',cur,e,h3,h4⟩:=hm.tokb t g h1;refine⟨f',cur,e,?_,h4⟩;simp only[Gh.lent];rw[if_neg (hnl t g h1 h2)];exact h3
  case tinj=>exact fun t t' g h1 h2=>hm.tinj t t' g (lent_tk h1).1 (lent_tk h2).1
  case tnt=>exact fun t x h1=>hm.tnt t x (lent_tk h1).1
  case glob=>exact hm.glob.mono (fun a u h1 h2=>⟨lent_ps h1,h2⟩) fun g _ hk=>⟨by simp only[Gh.lent];split;rfl;exact hk,rfl⟩
  case fresh =>
   intro b hb1;simp only[Gh.lent];split
   .rfl
   .exact hm.fresh b hb1
 refine Calls.mono (hc G.lent w vals hm1 (hb'.rvs hm hr)) ?_;rintro e w' ⟨v,av,m',G1,rfl,⟨rfl,rfl⟩,h3,h4,h5,h6,h7⟩;have hv:v=u:=by cases h5 with|d h=>cases h;rfl
 subst hv;have hkeep:∀b,G.lb b->G1.kind b=.whole/\w'.heap[b]?=w.heap[b]?:=fun b hb1=>h6.whole b (hlbk hb1).1 (by simp[Gh.lent,hb1])
 have hltb:∀t,G.lt t->∃g,G.tk t=some (some g)/\G.kind g=.ex/\G.lb g:=fun t ⟨g,h1,h2⟩=>⟨g,h1,h2,.inr ⟨t,h1,h2⟩⟩
 have hle:Le G w (G.back G1) w':=by
  refine⟨h6.os,h6.tape,h6.output,h6.size,fun b hb1 hk=>?_,fun b f' c hk=>?_,fun _ _ h=>h,h6.nt,fun t ht=>?_,?_⟩
  .have hn:¬G.lb b:=fun e=>by rcases (hlbk e).2 with h|h<;>rw[hk] at h<;>cases h
   obtain⟨a1,a2⟩:=h6.whole b hb1 (by simp only[Gh.lent];rw[if_neg hn];exact hk);exact⟨by simp only[Gh.back];rw[if_neg hn];exact a1,a2⟩
  .have hn:¬G.lb b:=fun e=>by rcases (hlbk e).2 with h|h<;>rw[hk] at h<;>cases h
   obtain⟨⟨f2,a1,a2⟩,a3⟩:=h6.part b f' c (by simp only[Gh.lent];rw[if_neg hn];exact hk);exact⟨⟨f2,a1,by simp only[Gh.back];rw[if_neg hn];exact a2⟩,a3⟩
  .by_cases hl:G.lt t
   .refine .inr ⟨by simp only[Gh.back];rw[if_pos hl],fun g hg=>?_⟩;obtain⟨g',h1,h2,h3⟩:=hltb t hl;rw[hg] at h1;cases h1;exact⟨by simp only[Gh.back];rw[if_pos h3],fun _=>(hkeep g h3).2⟩
   .have e1:(G.back G1).tk t=G1.tk t:=by simp only[Gh.back];rw[if_neg hl]
    have e2:G.lent.tk t=G.tk t:=by simp only[Gh.lent];rw[if_neg hl]
    rcases h6.tk t ht with a1|⟨a1,a2⟩
    .exact .inl (e1.trans a1)
    .refine .inr ⟨(e1.trans a1).trans e2,fun g hg=>?_⟩;have hn:=hnl t g hg hl;obtain⟨b1,b2⟩:=a2 g (e2.trans hg);simp only[Gh.lent] at b1 b2;rw[if_neg hn] at b1 b2;exact⟨by simp only[Gh.back];rw[if_neg hn];exact b1,b2⟩
  .exact h6.ty
 refine⟨v,_,_,G.back G1,rfl,⟨rfl,rfl⟩,rfl,?_,.d (.raw hu),hle,fun k hk=>⟨hk,rfl⟩⟩;have hG1:∀t g,¬G.lt t->(G.back G1).tk t=some (some g)->G1.tk t=some (some g)/\¬G.lb g:=fun t g hl ht=>by
  have e1:G1.tk t=some (some g):=by simp only[Gh.back] at ht;rw[if_neg hl] at ht;exact ht
  refine⟨e1,fun hpg=>?_⟩;obtain⟨f',cur,e,g1,_⟩:=h4.tokb t g e1;rw[(hkeep g hpg).1] at g1;rcases g1 with ⟨g1,_⟩|g1<;>cases g1
 have hG0:∀t,G.lt t->(G.back G1).tk t=G.tk t:=fun t hl=>by simp only[Gh.back];rw[if_pos hl]
 constructor
 case box =>
  intro k rows b sz hk hb1;obtain⟨g1,cs,e,g2,g3,g4,g5⟩:=hm.box k rows b sz hk hb1;have hpk:G.lb b:=.inl ⟨k,sz,hb1⟩
  exact⟨by simp only[Gh.back];rw[if_pos hpk];exact g1,cs,e,(hkeep b hpk).2.trans g2,g3,g4.mono hle,g5⟩
 case nobox=>exact hm.nobox
 case inj=>exact hm.inj
 case nb=>exact hm.nb
 case nt=>exact h4.nt
 case toks =>
  intro t ht;obtain⟨h1,x,h2⟩:=hm.toks t ht;refine⟨h1,?_⟩;by_cases hl:G.lt t
  .exact⟨x,(hG0 t hl).trans h2⟩
  .obtain⟨_,y,h3⟩:=h4.toks t (by simp only[Bool.and_eq_true,decide_eq_true_eq];exact⟨ht,hl⟩);exact⟨y,by simp only[Gh.back];rw[if_neg hl];exact h3⟩
 case tokb =>
  intro t g ht;by_cases hl:G.lt t
  .rw[hG0 t hl] at ht;obtain⟨g',h1,h2,h3⟩:=hltb t hl;rw[ht] at h1;cases h1;obtain⟨f',cur,e,g1,g2⟩:=hm.tokb t g ht;exact⟨f',cur,e,by simp only[Gh.back];rw[if_pos h3];exact g1,(hkeep g h3).2.trans g2⟩
  .obtain⟨h1,hn⟩:=hG1 t g hl ht;obtain⟨f',cur,e,g1,g2⟩:=h4.tokb t g h1;exact⟨f',cur,e,by simp only[Gh.back];rw[if_neg hn];exact g1,g2⟩
 case tinj =>
  intro t t' g ht ht';by_cases hl:G.lt t<;>by_cases hl':G.lt t'
  .rw[hG0 t hl] at ht;rw[hG0 t' hl'] at ht';exact hm.tinj t t' g ht ht'
  .rw[hG0 t hl] at ht;obtain⟨g',h1,_,h3⟩:=hltb t hl;rw[ht] at h1;cases h1;exact absurd h3 (hG1 t' g hl' ht').2
  .rw[hG0 t' hl'] at ht';obtain⟨g',h1,_,h3⟩:=hltb t' hl';rw[ht'] at h1;cases h1;exact absurd h3 (hG1 t g hl ht).2
  .exact h4.tinj t t' g (hG1 t g hl ht).1 (hG1 t' g hl' ht').1
 case tnt =>
  intro t x ht;by_cases hl:G.lt t
  .rw[hG0 t hl] at ht;have:=hm.tnt t x ht
   have e1:=hm.nt;have e2:=h4.nt;simp only[Gh.back];simp only at e1 e2;omega
  .simp only[Gh.back] at ht;rw[if_neg hl] at ht;exact h4.tnt t x ht
 case glob=>exact hm.glob.mono hle.cells fun g hg hk=>hle.whole g hg hk
 case fresh =>
  intro b hb1;have:=h6.size
  have hn:¬G.lb b:=fun hpb1=>by have:=(hlbk hpb1).1;omega
  simp only[Gh.back];rw[if_neg hn];exact h4.fresh b hb1
variable {P:Program}
theorem Le.reKind{G:Gh}{w:World}{g:Nat}(k:BK)(hk:G.kind g=.ex)(ht:∀t,G.tk t≠some (some g)):Le G w (G.setKind g k) w where
 os:=rfl
 tape:=rfl
 output:=rfl
 size:=nr _
 whole b _ h:=⟨by simp only[Gh.setKind];rw[uO _ _ (fun e=>by subst e;rw[hk] at h;cases h)];exact h,rfl⟩
 part b f c h:=⟨⟨f,nr _,by simp only[Gh.setKind];rw[uO _ _ (fun e=>by subst e;rw[hk] at h;cases h)];exact h⟩,fun _ _ _=>rfl⟩
 bx _ _ h:=h
 nt:=nr _
 tk t _:=.inr ⟨rfl,fun j hj=>⟨by simp only[Gh.setKind];exact uO _ _ (fun e=>by subst e;exact ht t hj),fun _=>rfl⟩⟩
 ty _ cs T f h:=⟨cs,f,h⟩
theorem RelM.reKind{G:Gh}{m:AMem}{w:World}(h:RelM G m w){g:Nat}(k:BK)(hk:G.kind g=.ex)(ht:∀t,G.tk t≠some (some g))(hg:g<w.heap.size):RelM (G.setKind g k) m w:=by
 have hle:=Le.reKind (w:=w) k hk ht;constructor
 case box =>
  intro q rows b sz hq hb;obtain⟨h1,cs,e,h2,h3,h4,h5⟩:=h.box q rows b sz hq hb;refine⟨?_,cs,e,h2,h3,h4.mono hle,h5⟩;simp only[Gh.setKind];rw[uO _ _ (fun e=>by subst e;rw[hk] at h1;cases h1)];exact h1
 case nobox=>exact h.nobox
 case inj=>exact h.inj
 case nb=>exact h.nb
 case nt=>exact h.nt
 case toks=>exact h.toks
 case tokb =>
  intro t j hj;obtain⟨f0,cur0,e0,h1,h2⟩:=h.tokb t j hj;refine⟨f0,cur0,e0,?_,h2⟩;simp only[Gh.setKind];rw[uO _ _ (fun e=>by subst e;exact ht t hj)];exact h1
 case tinj=>exact h.tinj
 case tnt=>exact h.tnt
 case glob=>exact h.glob.mono hle.cells fun g hg hk=>hle.whole g hg hk
 case fresh =>
  intro b hb;simp only[Gh.setKind];rw[uO _ _ (by omega)];exact h.fresh b hb
theorem kill_not{G:Gh}{m:AMem}{w:World}(hm:RelM G m w){t g:Nat}(hx:G.tk t=some (some g)):∀q,(G.kill (.tok t)).tk q≠some (some g):=by
 intro q hq;simp only[Gh.kill] at hq;by_cases e:q=t
 .subst e;simp[uS] at hq
 .rw[uO _ _ e] at hq;exact e (hm.tinj q t g hq hx)
inductive SdTo (t:Nat):AV->AV->Prop
 | bot {x}:SdTo t x .bot
 | same {x}:SdTo t x x
 | stk {sz es}:SdTo t (.stk t sz es) (.d (.sl sz es))
theorem Trans.stkD{cx:Cx}{nt0 nt:Nat}{l l':List (Nat × AV)}{out:Bxs}{loc loc':List (Nat × List (List AV))}{tok:Nat->Bool}(t:Nat)(ht:tok t=true)(hl:CvL (SdTo t) l l')(hb:CvB (SdTo t) loc loc'):
  Trans cx nt0 ⟨tl l,lb cx.base out loc,tok,nt⟩ ⟨tl l',lb cx.base out loc',upd tok t false,nt⟩:=by
 intro G0 w0 G a w he hn0 hS hL;have hm:=hS.mem;obtain⟨hlt,x,hx⟩:=hm.toks t ht;have hmk:=hm.kill (.tok t);have hlk:=Le.kill (G:=G) (w:=w) (.tok t);have hstk:∀{sz:Nat} {es:List (List D)} {v:Value},RV G w (.stk t sz es) v->StkR G w t sz es v:=fun h=>by cases h with|stk h=>exact h
 have fin:∀G',Le G w G' w->G'.bx=G.bx->RelM G' ⟨lb cx.base out loc,cx.nb,upd tok t false,nt⟩ w->(∀sz es v,StkR G w t sz es v->RVd w.cell? G'.ps (.sl sz es) v) ->
   ∃G',RelS cx.n cx.nb G' ⟨tl l',lb cx.base out loc',upd tok t false,nt⟩ a w/\LeC cx G0 w0 G' w ⟨tl l',lb cx.base out loc',upd tok t false,nt⟩:=by
  intro G' hle hbx hm' hd;have hto:∀x y v,SdTo t x y->RV G w x v->RV G' w y v:=fun x y v h hr=>by
   cases h with
   | bot=>exact .bot
   | same=>exact hr.mono hle
   | stk=>exact .d (hd _ _ v (hstk hr))
  refine⟨G',⟨hS.defers,hS.size,fun i=>hto _ _ _ (hl.at .bot i) (hS.tmps i),?_⟩,?_⟩
  .constructor
   case box =>
    intro k rows b z hk hbk;simp only at hk;by_cases hkb:k<cx.base
    .rw[lO hkb] at hk;exact hm'.box k rows b z (by simp only;rw[lO hkb];exact hk) hbk
    .have hkk:k=cx.base+(k-cx.base):=by omega
     rw[hkk,lb_at] at hk;rcases hb.at (k-cx.base) with ⟨_,h2⟩|⟨r0,r',h1,h2,h3⟩
     .rw[h2] at hk;cases hk
     .rw[h2] at hk;cases hk;obtain⟨_,cs,e,g2,g3,g4,g5⟩:=hm.box k r0 b z (by simp only;rw[hkk,lb_at];exact h1) (by rw[<-hbx];exact hbk);obtain⟨g1,_⟩:=hm'.box k r0 b z (by simp only;rw[hkk,lb_at];exact h1) hbk;refine⟨g1,cs,e,g2,fun q hq=>?_,⟨h3.flat.1.symm.trans g4.1,fun i h1 h2=>hto _ _ _ (h3.flat.2 i (by rw[h3.flat.1];exact h1) h1) (g4.2 i _ h2)⟩,g5⟩;obtain⟨i,hi,rfl⟩:=List.getElem_of_mem hq;have hi0:i<r0.length:=by rw[h3.1];exact hi
      rw[<-(h3.2 i hi0 hi).1];exact g3 _ (List.getElem_mem _)
   case nobox =>
    intro k hk;refine hm'.nobox k ?_;simp only at hk ⊢;by_cases hkb:k<cx.base
    .rw[lO hkb] at hk ⊢;exact hk
    .have hkk:k=cx.base+(k-cx.base):=by omega
     rw[hkk,lb_at] at hk ⊢;rcases hb.at (k-cx.base) with ⟨h1,_⟩|⟨r0,r',_,h2,_⟩
     .exact h1
     .rw[h2] at hk;cases hk
   case inj=>exact hm'.inj
   case nb =>
    intro k hk;have h0:=hm'.nb k hk;simp only at h0 ⊢;by_cases hkb:k<cx.base
    .rw[lO hkb] at h0 ⊢;exact h0
    .have hkk:k=cx.base+(k-cx.base):=by omega
     rw[hkk,lb_at] at h0 ⊢;rcases hb.at (k-cx.base) with ⟨_,h2⟩|⟨r0,r',h1,_,_⟩
     .exact h2
     .rw[h1] at h0;cases h0
   case nt=>exact hm'.nt
   case toks=>exact hm'.toks
   case tokb=>exact hm'.tokb
   case tinj=>exact hm'.tinj
   case tnt=>exact hm'.tnt
   case glob=>exact hm'.glob
   case fresh=>exact hm'.fresh
  .refine hL.step ⟨hle,fun k hkb hg=>⟨by rw[hbx];exact hg,?_⟩⟩;simp only;rw[lO hkb,lO hkb]
 cases x with
 | none =>
  refine fin (G.kill (.tok t)) hlk rfl hmk fun sz es v hv=>?_
  obtain⟨_,A,cap,rfl,hcap,hmax,hst⟩:=hv;have hc0:cap=0:=hst _ hx
  have hes:es=[]:=List.eq_nil_of_length_eq_zero (by omega)
  subst hes;exact .sl (es:=[]) (fun _ _=>default) (Nat.zero_le _) hmax (by simp) (by simp) (fun a _ i j hi _=>by simp at hi) (fun i j hi _=>by simp at hi)
 | some g =>
  obtain⟨f,cur,e,hkg,hg⟩:=hm.tokb t g hx;by_cases hex:G.kind g=.ex
  .have hnot:=kill_not hm hx;have hlr:=Le.reKind (G:=G.kill (.tok t)) (w:=w) .whole hex hnot;refine fin ((G.kill (.tok t)).setKind g .whole) (hlk.trans hlr) rfl (hmk.reKind .whole hex hnot (heap_lt hg)) fun sz es v hv=>?_
   obtain⟨_,A,cap,rfl,hcap,hmax,hst⟩:=hv;obtain⟨hA,vs,sp,e,h1,h2,h3,h4,h5⟩:=hst _ hx;refine RVd.of_flat hcap hmax ⟨h4.len,fun a ha q u hq=>?_,h4.one,fun _=>⟨_,hA⟩,h4.each,fun i j hi hj=>?_⟩
   .rw[hA] at ha;cases ha;rw[add_none];refine⟨by simp[Gh.ps,Gh.setKind,uS],?_⟩;rw[cell_of_row w g _ _ e (0,0) h2,Nat.zero_add];simp only[List.getElem?_toArray];rw[List.getElem?_append_left (List.getElem?_eq_some_iff.1 hq).1];exact hq
   .obtain⟨u,hu,hr⟩:=h4.read i j hi hj;exact⟨u,hu,hr.mono (hlk.trans hlr).cells⟩
  .refine fin (G.kill (.tok t)) hlk rfl hmk fun sz es v hv=>?_
   obtain⟨_,A,cap,rfl,hcap,hmax,hst⟩:=hv;obtain⟨_,vs,sp,e,h1,_⟩:=hst _ hx;exact absurd h1 hex
def AV.sdT(t:Nat):AV->AV
 | .stk t' sz es=>if t'=t then .d (.sl sz es) else .stk t' sz es
 | x=>x
theorem sdT_to(t:Nat)(x:AV):SdTo t x (x.sdT t):=by
 cases x with
 | stk t' sz es =>
  simp only[AV.sdT];split
  .rename_i h;subst h;exact .stk
  .exact .same
 | _=>exact .same
theorem cvL_map{R:AV->AV->Prop}{f:AV->AV}(h:∀x,R x (f x)):∀l:List (Nat × AV),CvL R l (l.map fun q=>(q.1,f q.2))
 | []=>trivial
 | (i,x)::l=>⟨rfl,h x,cvL_map h l⟩
theorem cvB_map{R:AV->AV->Prop}{f:AV->AV}(h:∀x,R x (f x)):∀l:List (Nat × List (List AV)),CvB R l (l.map fun q=>(q.1,q.2.map fun r=>r.map f))
 | []=>trivial
 | (i,x)::l=>⟨rfl,⟨by simp,fun i h1 h2=>⟨by simp,fun j g1 g2=>by simp only[List.getElem_map];exact h _⟩⟩,cvB_map h l⟩
theorem AL.stkD{cx:Cx}{nt0 nt:Nat}{K:Exit->AS->Prop}{q:List CI}{x:Code}{l:List (Nat × AV)}{out:Bxs}{loc:List (Nat × List (List AV))}{tok:Nat->Bool}(t:Nat)(ht:tok t=true)(h:AL P cx nt0 K (.c x::q) ⟨tl (l.map fun q=>(q.1,q.2.sdT t)),lb cx.base out (loc.map fun q=>(q.1,q.2.map fun r=>r.map (AV.sdT t))),upd tok t false,nt⟩):AL P cx nt0 K (.c x::q) ⟨tl l,lb cx.base out loc,tok,nt⟩ :=
 AL.trans (Trans.stkD t ht (cvL_map (sdT_to t) l) (cvB_map (sdT_to t) loc)) h
variable {P:Program}
theorem FlatV.rvs{G:Gh}{w:World}{sz:Nat}:∀{es:List (List D)} {vs:List Value},FlatV w.cell? G.ps sz es vs->RVs G w (es.flatten.map AV.d) vs
 | [],vs,h=>by
  have hv:vs=[]:=List.eq_nil_of_length_eq_zero (by simpa using h.len)
  subst hv;exact⟨rfl,fun i h=>by simp at h⟩
 | e::es,vs,h=>by
  have he:e.length=sz:=h.each e (by simp)
  have hl:=h.len;rw[List.length_cons,Nat.add_mul] at hl;have h1:FlatV w.cell? G.ps sz es (vs.drop sz):=by
   refine⟨by rw[List.length_drop];omega,fun u hu=>h.one u (List.mem_of_mem_drop hu),fun q hq=>h.each q (by simp[hq]),fun i j hi hj=>?_⟩;obtain⟨u,hu,hr⟩:=h.read (i+1) j (by simpa using hi) (by simpa using hj);refine⟨u,?_,by simpa using hr⟩;rw[List.getElem?_drop,<-hu];congr 1
   rw[Nat.add_mul];omega
  have ih:=FlatV.rvs h1;have h2:RVs G w (e.map AV.d) (vs.take sz):=by
   refine⟨by rw[List.length_map,List.length_take];omega,fun j g1 g2=>?_⟩;have hj:j<e.length:=by simpa using g1
   obtain⟨u,hu,hr⟩:=h.read 0 j (by simp) (by simpa using hj);simp only[List.getElem_map,List.getElem_take];obtain⟨hlt,rfl⟩:=List.getElem?_eq_some_iff.1 hu;simp only[Nat.zero_mul,Nat.zero_add] at hr ⊢;exact .d (by simpa using hr)
  have:=h2.append ih
  rw[List.take_append_drop] at this;simpa using this
inductive TsTo (t k sz:Nat) (es:List (List D)):AV->AV->Prop
 | bot {x}:TsTo t k sz es x .bot
 | same {x}:TsTo t k sz es x x
 | stk:TsTo t k sz es (.stk t sz es) (.msl k 0 es.length sz)
theorem AT.thawS{cx:Cx}{nt0 nt:Nat}{c:Code}{K:Exit->AS->Prop}{l l':List (Nat × AV)}{out:Bxs}{loc loc':List (Nat × List (List AV))}{tok:Nat->Bool}(t s sz:Nat)(es:List (List D))(r:Nat)(hn:cx.nb=cx.base+cx.n)(hs:s<cx.n)(hk:lk loc s=none)(ht:tok t=true)(hne:es≠[])(hr:tl l r=.stk t sz es)(hl:CvL (TsTo t (cx.base+s) sz es) l l')(hb:CvB (TsTo t (cx.base+s) sz es) loc loc')(h:∀m,AT P cx nt0 c ⟨tl l',lb cx.base out ((s,rowsD es++List.replicate m (List.replicate sz .bot))::loc'),upd tok t false,nt⟩ K):AT P cx nt0 c ⟨tl l,lb cx.base out loc,tok,nt⟩ K:=by
 intro G0 w0 hen hnt G a w hS hL;have hm:=hS.mem;obtain⟨hlt,x,hx⟩:=hm.toks t ht;have hstk:∀{v:Value},RV G w (.stk t sz es) v->StkR G w t sz es v:=fun h=>by cases h with|stk h=>exact h
 have hwit:=hS.tmps r;simp only at hwit;rw[hr] at hwit;obtain⟨_,A,cap,hv,hcap,hmax,hst⟩:=hstk hwit;have hst:=hst x hx;cases x with
 | none =>
  have hc0:cap=0:=hst
  exact absurd (List.eq_nil_of_length_eq_zero (by omega)) hne
 | some g =>
  obtain⟨hA,vs,sp,e,hkg,hheap,hlen,hf,hsp⟩:=hst;have hboxk:lb cx.base out loc (cx.base+s)=none:=by rw[lb_at];exact hk
  have hbxk:G.bx (cx.base+s)=none:=hm.nobox _ hboxk
  have hnb:∀{k b z},G.bx k=some (b,z)->b≠g:=fun h e=>by
   have:=(hm.blt h).2
   rw[e,hkg] at this;cases this
  have hmk:=hm.kill (.tok t);have hnot:=kill_not hm hx;have hm1:=hmk.reKind .box hkg hnot (heap_lt hheap)
  let G1:Gh:=(G.kill (.tok t)).setKind g .box
  let G':Gh:={ G1 with bx:=upd G.bx (cx.base+s) (some (g,sz)) }
  have hle1:Le G w G1 w:=(Le.kill (.tok t)).trans (Le.reKind .box hkg hnot)
  have hle2:Le G1 w G' w:=⟨rfl,rfl,rfl,nr _,fun _ _ h=>⟨h,rfl⟩,fun _ f _ h=>⟨⟨f,nr _,h⟩,fun _ _ _=>rfl⟩,fun k x hk=>by
   simp only[G'];rw[uO _ _ (fun e=>by
    have hk:G.bx k=some x:=hk
    rw[e,hbxk] at hk;cases hk)]
   exact hk,nr _,fun t _=>.inr ⟨rfl,fun _ _=>⟨rfl,fun _=>rfl⟩⟩,fun _ cs T f h=>⟨cs,f,h⟩⟩
  have hle:=hle1.trans hle2;have hto:∀x y v,TsTo t (cx.base+s) sz es x y->RV G w x v->RV G' w y v:=fun x y v h hr=>by
   cases h with
   | bot=>exact .bot
   | same=>exact hr.mono hle
   | stk =>
    obtain⟨_,A',cap',rfl,hc1,hc2,h2⟩:=hstk hr;obtain⟨hA',_⟩:=h2 _ hx;subst hA';have:=RV.msl (G:=G') (w:=w) (k:=cx.base+s) (off:=0) (n:=es.length) (b:=g) (sz:=sz) (cap:=cap') (by simp[G',uS]) hc1 hc2
    simpa using this
  have hf':=hf.mono hle.cells
  have hvl:=hf.len;obtain⟨m,hmm⟩:∃m,cap=es.length+m:=⟨cap-es.length,by omega⟩
  have hspl:sp.length=m*sz:=by
   rw[List.length_append,hvl,hmm,Nat.add_mul] at hlen;omega
  refine h m G0 w0 hen hnt G' a w ⟨hS.defers,hS.size,fun i=>hto _ _ _ (hl.at .bot i) (hS.tmps i),?_⟩ ?_
  .constructor
   case box =>
    intro k rows b z hk' hb';by_cases e1:k=cx.base+s
    .subst e1;simp only[lb_at,lk_cons,↓reduceIte,Option.some.injEq] at hk';simp only[G',uS,Option.some.injEq,Prod.mk.injEq] at hb';obtain⟨rfl,rfl⟩:=hb';subst hk';refine⟨by simp[G',G1,Gh.setKind,uS],_,e,hheap,fun q hq=>?_,?_,fun v hv=>?_⟩
     .rcases List.mem_append.1 hq with hq|hq
      .obtain⟨p,hp,rfl⟩:=List.mem_map.1 hq;simpa using hf.each p hp
      .rw[List.eq_of_mem_replicate hq];simp
     .rw[List.flatten_append,rowsD_flat];have h2:RVs G' w (List.replicate m (List.replicate sz AV.bot)).flatten sp:=by
       refine⟨by rw[hspl];simp[List.length_flatten],fun i g1 g2=>?_⟩;have hmem:(List.replicate m (List.replicate sz AV.bot)).flatten[i]∈(List.replicate m (List.replicate sz AV.bot)).flatten:=List.getElem_mem _
       obtain⟨q,hq,hiq⟩:=List.mem_flatten.1 hmem;rw[List.eq_of_mem_replicate hq] at hiq;rw[List.eq_of_mem_replicate hiq];exact .bot
      simpa using hf'.rvs.append h2
     .have hv:v∈vs++sp:=by simpa using hv
      rcases List.mem_append.1 hv with hv|hv
      .exact hf.one v hv
      .exact hsp v hv
    .simp only[G'] at hb';rw[uO _ _ e1] at hb';have hold:∃rows0,lb cx.base out loc k=some rows0/\(rows0=rows∨CvRs (TsTo t (cx.base+s) sz es) rows0 rows):=by
      by_cases hkb:k<cx.base
      .refine⟨rows,?_,.inl rfl⟩;simp only at hk';rw[lO hkb] at hk' ⊢;exact hk'
      .have hkk:k=cx.base+(k-cx.base):=by omega
       simp only at hk';rw[hkk,lb_at] at hk' ⊢;rw[lk_cons,if_neg (by omega)] at hk';rcases hb.at (k-cx.base) with ⟨_,h2⟩|⟨r0,r',h1,h2,h3⟩
       .rw[h2] at hk';cases hk'
       .rw[h2] at hk';cases hk'
        exact⟨r0,h1,.inr h3⟩
     obtain⟨rows0,h1,h2⟩:=hold;obtain⟨g1,cs',e',g2,g3,g4,g5⟩:=hm.box k rows0 b z h1 hb';refine⟨by simp only[G',G1,Gh.setKind];rw[uO _ _ (hnb hb')];exact g1,cs',e',g2,?_,?_,g5⟩
     .rcases h2 with rfl|h2
      .exact g3
      .intro q hq;obtain⟨i,hi,rfl⟩:=List.getElem_of_mem hq;have hi0:i<rows0.length:=by rw[h2.1];exact hi
       rw[<-(h2.2 i hi0 hi).1];exact g3 _ (List.getElem_mem _)
     .rcases h2 with rfl|h2
      .exact g4.mono hle
      .exact⟨h2.flat.1.symm.trans g4.1,fun i k1 k2=>hto _ _ _ (h2.flat.2 i (by rw[h2.flat.1];exact k1) k1) (g4.2 i _ k2)⟩
   case nobox =>
    intro k hk';have hne:k≠cx.base+s:=fun e=>by subst e;simp[lb_at,lk_cons] at hk'
    simp only[G'];rw[uO _ _ hne];refine hm.nobox k ?_;simp only at hk' ⊢;by_cases hkb:k<cx.base
    .rw[lO hkb] at hk' ⊢;exact hk'
    .have hkk:k=cx.base+(k-cx.base):=by omega
     rw[hkk,lb_at] at hk' ⊢;rw[lk_cons,if_neg (by omega)] at hk';rcases hb.at (k-cx.base) with ⟨h1,_⟩|⟨r0,r',_,h2,_⟩
     .exact h1
     .rw[h2] at hk';cases hk'
   case inj =>
    intro j j' b z z' hj hj';simp only[G'] at hj hj';by_cases e1:j=cx.base+s<;>by_cases e2:j'=cx.base+s
    .exact e1.trans e2.symm
    .subst e1;rw[uS] at hj;rw[uO _ _ e2] at hj';cases hj;exact absurd rfl (hnb hj')
    .subst e2;rw[uS] at hj';rw[uO _ _ e1] at hj;cases hj'
     exact absurd rfl (hnb hj)
    .rw[uO _ _ e1] at hj;rw[uO _ _ e2] at hj';exact hm.inj j j' b z z' hj hj'
   case nb =>
    intro k hk';have h0:=hm.nb k hk';simp only at h0 ⊢;have hkb:¬k<cx.base:=by simp only at hk';omega
    have hkk:k=cx.base+(k-cx.base):=by omega
    rw[hkk,lb_at] at h0 ⊢;rw[lk_cons,if_neg (by simp only at hk';omega)];rcases hb.at (k-cx.base) with ⟨_,h2⟩|⟨r0,r',h1,_,_⟩
    .exact h2
    .rw[h1] at h0;cases h0
   case nt=>exact hm1.nt
   case toks=>exact hm1.toks
   case tokb=>exact hm1.tokb
   case tinj=>exact hm1.tinj
   case tnt=>exact hm1.tnt
   case glob=>exact hm.glob.mono hle.cells fun g hg hk=>hle.whole g hg hk
   case fresh=>exact hm1.fresh
  .refine hL.step ⟨hle,fun k hkb hg=>⟨?_,?_⟩⟩
   .simp only[G'];rw[uO _ _ (by omega)];exact hg
   .simp only;rw[lO hkb,lO hkb]
theorem AL.thawS{cx:Cx}{nt0 nt:Nat}{K:Exit->AS->Prop}{q:List CI}{x:Code}{l l':List (Nat × AV)}{out:Bxs}{loc loc':List (Nat × List (List AV))}{tok:Nat->Bool}(t s sz:Nat)(es:List (List D))(r:Nat)(hn:cx.nb=cx.base+cx.n)(hs:s<cx.n)(hk:lk loc s=none)(ht:tok t=true)(hne:es≠[])(hr:tl l r=.stk t sz es)(hl:CvL (TsTo t (cx.base+s) sz es) l l')(hb:CvB (TsTo t (cx.base+s) sz es) loc loc')(h:∀m,AL P cx nt0 K (.c x::q) ⟨tl l',lb cx.base out ((s,rowsD es++List.replicate m (List.replicate sz .bot))::loc'),upd tok t false,nt⟩):AL P cx nt0 K (.c x::q) ⟨tl l,lb cx.base out loc,tok,nt⟩:=by
 simp only[AL] at h ⊢;exact AT.thawS t s sz es r hn hs hk ht hne hr hl hb h
section
variable {t k sz:Nat} {es:List (List D)}
@[simp] theorem tsTo_bot(x:AV):TsTo t k sz es x .bot:=.bot
@[simp] theorem tsTo_same(x:AV):TsTo t k sz es x x:=.same
@[simp] theorem tsTo_stk{n:Nat}:TsTo t k sz es (.stk t sz es) (.msl k 0 n sz)↔n=es.length:=⟨fun h=>by cases h;rfl,fun h=>by subst h;exact .stk⟩
end
variable {P:Program}
theorem FlatV.of_rvs{G:Gh}{w:World}{sz:Nat}:∀{es:List (List D)} {vs:List Value},(∀e∈es,e.length=sz)->RVs G w (es.flatten.map AV.d) vs->(∀v∈vs,v.oneCell'=true)->FlatV w.cell? G.ps sz es vs
 | [],vs,_,h,_=>by
  have hv:vs=[]:=List.eq_nil_of_length_eq_zero (by have:=h.1;simpa using this.symm)
  subst hv;exact FlatV.none_ _ _ _
 | e::es,vs,hs,h,h1=>by
  have he:=hs e (by simp);rw[List.flatten_cons,List.map_append] at h;have hl:=h.1;rw[List.length_append,List.length_map,List.length_map] at hl;have ha:=h.take e.length;have hb:=h.drop e.length;rw[List.take_append_of_le_length (by simp),List.take_of_length_le (by simp)] at ha;rw[List.drop_append,List.drop_of_length_le (by simp),List.nil_append,List.length_map,Nat.sub_self,List.drop_zero] at hb;have f1:FlatV w.cell? G.ps sz [e] (vs.take e.length):=by
   refine⟨by rw[List.length_take];simp;omega,fun u hu=>h1 u (List.mem_of_mem_take hu),fun q hq=>by simp at hq;rw[hq];exact he,fun i j hi hj=>?_⟩;have hi0:i=0:=by simp at hi;omega
   subst hi0;simp only[List.getElem_cons_zero] at hj ⊢;have hj2:j<(vs.take e.length).length:=by rw[List.length_take];omega
   have h3:=ha.2 j (by simpa using hj) hj2;simp only[List.getElem_map] at h3;refine⟨(vs.take e.length)[j],by rw[Nat.zero_mul,Nat.zero_add];exact List.getElem?_eq_getElem hj2,?_⟩;cases h3 with
   | d h4=>exact h4
  have f2:=FlatV.of_rvs (fun q hq=>hs q (by simp[hq])) hb (fun v hv=>h1 v (List.mem_of_mem_drop hv));have:=f1.append f2
  rw[List.take_append_drop] at this;exact this
inductive SpTo (k sz:Nat) (es:List (List D)):AV->AV->Prop
 | bot {x}:SpTo k sz es x .bot
 | same {x} (h:OkIn (· ≠ k) (fun _=>True) x):SpTo k sz es x x
 | msl:SpTo k sz es (.msl k 0 es.length sz) (.d (.sl sz es))
theorem Trans.sealD{cx:Cx}{nt0 nt:Nat}{l l':List (Nat × AV)}{out:Bxs}{loc loc':List (Nat × List (List AV))}{tok:Nat->Bool}(s sz:Nat)(es:List (List D))(rest:List (List AV))(r:Nat)(ho:out=cx.B0)(hsz:∀e∈es,e.length=sz)(hr:tl l r=.msl (cx.base+s) 0 es.length sz)(hk':lk loc' s=none)(hl:CvL (SpTo (cx.base+s) sz es) l l')(hb:CvB (SpTo (cx.base+s) sz es) loc loc'):
  Trans cx nt0 ⟨tl l,lb cx.base out ((s,rowsD es++rest)::loc),tok,nt⟩ ⟨tl l',lb cx.base out loc',tok,nt⟩:=by
 intro G0 w0 G a w he hn0 hS hL;have hm:=hS.mem;have hgnt:G.nt=nt:=hm.nt
 have hwit:=hS.tmps r;simp only at hwit;rw[hr] at hwit;obtain⟨b,hbk⟩:∃b,G.bx (cx.base+s)=some (b,sz):=by
  generalize hq:(AV.msl (cx.base+s) 0 es.length sz)=q at hwit;generalize a.tmps.getD r undef=v0 at hwit;cases hwit with
  | msl h1 h2 h3=>cases hq;exact⟨_,h1⟩
  | _=>cases hq
 have hboxk:lb cx.base out ((s,rowsD es++rest)::loc) (cx.base+s)=some (rowsD es++rest):=by rw[lb_at,lk_cons,if_pos rfl]
 obtain⟨hkind,cs,e,hheap,hrows,hR,hone⟩:=hm.box _ _ b sz hboxk hbk
 let G1:Gh:={ bx:=G.bx,kind:=upd G.kind b .whole,tk:=G.tk,nt:=G.nt }
 let G':Gh:={ bx:=upd G.bx (cx.base+s) none,kind:=upd G.kind b .whole,tk:=G.tk,nt:=G.nt }
 have hne:∀{q j},G.tk q=some (some j)->j≠b:=fun h e=>by
  obtain⟨f,cur,e',h1,_⟩:=hm.tokb _ _ h;rw[e,hkind] at h1;rcases h1 with ⟨h1,_⟩|h1<;>cases h1
 have hle:Le G w G1 w:=by
  refine⟨rfl,rfl,rfl,nr _,fun b' _ hb'=>⟨?_,rfl⟩,fun b' f c hb'=>⟨⟨f,nr _,?_⟩,fun _ _ _=>rfl⟩,fun k x hk=>hk,nr _,fun q hq=>?_,fun _ _ _ _ h=>⟨_,_,h⟩⟩
  .simp only[G1];rw[uO _ _ (fun e=>by rw[e,hkind] at hb';cases hb')];exact hb'
  .simp only[G1];rw[uO _ _ (fun e=>by rw[e,hkind] at hb';cases hb')];exact hb'
  .refine .inr ⟨rfl,fun j hj=>⟨?_,fun _=>rfl⟩⟩;simp only[G1];exact uO _ _ (hne hj)
 have hcells:∀(q:Addr) (u:Value),G.ps q->w.cell? q=some u->G'.ps q/\w.cell? q=some u:=fun q u h1 h2=>hle.cells q u h1 h2
 -- what does not speak of the box
 have hok:∀{x:AV} {v:Value},OkIn (· ≠ cx.base+s) (fun _=>True) x->RV G w x v->RV G' w x v:=by
  intro x v hx h;have h1:=h.mono hle;clear h;induction h1 with
  | bot=>exact .bot
  | d h2=>exact .d h2
  | osl h2 h3=>exact .osl h2 h3
  | ptr h2=>cases hx with|ptr hp=>exact .ptr (by simp only[G'];rw[uO _ _ hp];exact h2)
  | buf h2 h3 h4 h5=>exact .buf h2 h3 h4 h5
  | here h2 h3=>cases hx with|here hp=>exact .here (by simp only[G'];rw[uO _ _ hp];exact h2) h3
  | cptr q u hc hr=>exact .cptr q u hc hr
  | msl h2 h3 h4=>cases hx with|msl hp=>exact .msl (by simp only[G'];rw[uO _ _ hp];exact h2) h3 h4
  | fn hl _ ih=>cases hx with|fn hp=>exact .fn hl fun i h1 h2=>ih i h1 h2 (hp _ (List.getElem_mem h1))
  | agg hl _ hone ih=>cases hx with|agg hp=>exact .agg hl (fun i h1 h2=>ih i h1 h2 (hp _ (List.getElem_mem h1))) hone
  | tup hl _ ih=>cases hx with|tup hp=>exact .tup hl fun i h1 h2=>ih i h1 h2 (hp _ (List.getElem_mem h1))
  | ex h2=>exact .ex h2
  | stk h2=>exact .stk h2
  | que h2 h3=>exact .que h2 h3
  | mp h2=>exact .mp h2
  | mpd h2=>exact .mpd h2
 have hto:∀x y v,SpTo (cx.base+s) sz es x y->RV G w x v->RV G' w y v:=by
  intro x y v hxy h;cases hxy with
  | bot=>exact .bot
  | same h1=>exact hok h1 h
  | msl =>
   generalize hq:(AV.msl (cx.base+s) 0 es.length sz)=q at h;cases h with
   | msl h1 h2 h3 =>
    cases hq;rw[hbk] at h1;cases h1;rw[List.flatten_append,rowsD_flat] at hR;have hR1:=hR.take (es.flatten.map AV.d).length;rw[List.take_append_of_le_length (nr _),List.take_length] at hR1;have hfv:=FlatV.of_rvs hsz hR1 (fun v hv=>hone v (List.mem_of_mem_take hv));refine .d (RVd.of_flat h2 h3 ⟨hfv.len,fun a ha q u hq=>?_,hfv.one,fun _=>⟨_,rfl⟩,hfv.each,fun i j hi hj=>?_⟩)
    .cases ha;rw[add_none];refine⟨by simp[Gh.ps,G',uS],?_⟩;rw[cell_of_row w b _ _ e (0,0) hheap];obtain⟨hlt,rfl⟩:=List.getElem?_eq_some_iff.1 hq;rw[List.getElem_take];have hl2:q<cs.size:=by rw[List.length_take] at hlt;simp at hlt;omega
     have e0:0*sz+q=q:=by omega
     rw[e0];simp[hl2]
    .obtain⟨u,hu,hr⟩:=hfv.read i j hi hj;exact⟨u,hu,hr.mono hcells⟩
   | _=>cases hq
 have hRVs:∀{xs ys:List AV} {vs:List Value},CvR (SpTo (cx.base+s) sz es) xs ys->RVs G w xs vs->RVs G' w ys vs:=fun h hr=>⟨h.1.symm.trans hr.1,fun i h1 h2=>hto _ _ _ (h.2 i (by rw[h.1];exact h1) h1) (hr.2 i _ h2)⟩
 refine⟨G',⟨hS.defers,hS.size,fun i=>hto _ _ _ (hl.at .bot i) (hS.tmps i),?_⟩,?_,?_⟩
 .constructor
  case box =>
   intro k rows b' z hk hb';have e1:k≠cx.base+s:=fun e=>by
    subst e;simp only at hk;rw[lb_at,hk'] at hk;cases hk
   simp only[G'] at hb';rw[uO _ _ e1] at hb';have hbne:b'≠b:=fun e=>by subst e;exact e1 (hm.inj _ _ _ _ _ hb' hbk)
   by_cases hkb:k<cx.base
   .simp only at hk;rw[lO hkb] at hk;obtain⟨g1,cs',e',g2,g3,g4,g5⟩:=hm.box k rows b' z (by simp only;rw[lO hkb];exact hk) hb';refine⟨by simp only[G'];rw[uO _ _ hbne];exact g1,cs',e',g2,g3,⟨g4.1,fun i h1 h2=>?_⟩,g5⟩;have hmem:rows.flatten[i]∈rows.flatten:=List.getElem_mem _
    obtain⟨q,hq,hxq⟩:=List.mem_flatten.1 hmem;have hG0:G0.bx k≠none:=by rw[<-hL.1.bx k hkb,hb'];simp
    have:=he k rows hkb (by rw[<-ho];exact hk) hG0 q hq _ hxq
    exact hok (this.imp (fun j hj=>by omega) fun _ _=>trivial) (g4.2 i h1 h2)
   .have hkk:k=cx.base+(k-cx.base):=by omega
    simp only at hk;rw[hkk,lb_at] at hk;rcases hb.at (k-cx.base) with ⟨_,h2⟩|⟨r0,r',h1,h2,h3⟩
    .rw[h2] at hk;cases hk
    .rw[h2] at hk;cases hk;obtain⟨g1,cs',e',g2,g3,g4,g5⟩:=hm.box k r0 b' z (by simp only;rw[hkk,lb_at,lk_cons,if_neg (by omega)];exact h1) hb';refine⟨by simp only[G'];rw[uO _ _ hbne];exact g1,cs',e',g2,fun q hq=>?_,hRVs h3.flat g4,g5⟩;obtain⟨i,hi,rfl⟩:=List.getElem_of_mem hq;have hi0:i<r0.length:=by rw[h3.1];exact hi
     rw[<-(h3.2 i hi0 hi).1];exact g3 _ (List.getElem_mem _)
  case nobox =>
   intro k hk;simp only[G'];by_cases e1:k=cx.base+s
   .subst e1;simp[uS]
   .rw[uO _ _ e1];refine hm.nobox k ?_;simp only at hk ⊢;by_cases hkb:k<cx.base
    .rw[lO hkb] at hk ⊢;exact hk
    .have hkk:k=cx.base+(k-cx.base):=by omega
     rw[hkk,lb_at] at hk ⊢;rw[lk_cons,if_neg (by omega)];rcases hb.at (k-cx.base) with ⟨h1,_⟩|⟨r0,r',_,h2,_⟩
     .exact h1
     .rw[h2] at hk;cases hk
  case inj =>
   intro j j' b' z z' hj hj';simp only[G'] at hj hj';by_cases e1:j=cx.base+s
   .subst e1;simp[uS] at hj
   .by_cases e2:j'=cx.base+s
    .subst e2;simp[uS] at hj'
    .rw[uO _ _ e1] at hj;rw[uO _ _ e2] at hj';exact hm.inj j j' b' z z' hj hj'
  case nb =>
   intro k hk;have h0:=hm.nb k hk;simp only at h0 ⊢;by_cases hkb:k<cx.base
   .rw[lO hkb] at h0 ⊢;exact h0
   .have hkk:k=cx.base+(k-cx.base):=by omega
    rw[hkk,lb_at] at h0 ⊢;by_cases e1:k-cx.base=s
    .rw[e1];exact hk'
    .rw[lk_cons,if_neg e1] at h0;rcases hb.at (k-cx.base) with ⟨_,h2⟩|⟨r0,r',h1,_,_⟩
     .exact h2
     .rw[h1] at h0;cases h0
  case nt=>exact hm.nt
  case toks=>exact hm.toks
  case tokb =>
   intro q j hq;obtain⟨f,cur,e',g1,g2⟩:=hm.tokb q j hq;refine⟨f,cur,e',?_,g2⟩;simp only[G'];rw[uO _ _ (hne hq)];exact g1
  case tinj=>exact hm.tinj
  case tnt=>exact hm.tnt
  case glob=>exact hm.glob.mono hcells fun g hg hk=>hle.whole g hg hk
  case fresh =>
   intro b' hb';have:=heap_lt hheap
   simp only[G'];rw[uO _ _ (by omega)];exact hm.fresh b' hb'
 .refine hL.1.trans ⟨rfl,rfl,rfl,nr _,hle.whole,hle.part,fun k hk=>?_,hle.nt,hle.tk,hle.ty⟩;simp only[G'];exact uO _ _ (by omega)
 .intro k hkb hg;have:=hL.2 k hkb hg
  simp only at this ⊢;rw[lO hkb] at this ⊢;exact this
section
variable {k sz:Nat} {es:List (List D)}
@[simp] theorem spTo_bot(x:AV):SpTo k sz es x .bot:=.bot
@[simp] theorem spTo_d(x:D):SpTo k sz es (.d x) (.d x):=.same .d
@[simp] theorem spTo_osl(n:Nat)(xs:List (List D))(o:Own):SpTo k sz es (.osl n xs o) (.osl n xs o):=.same (.osl fun _ _=>trivial)
@[simp] theorem spTo_msl:SpTo k sz es (.msl k 0 es.length sz) (.d (.sl sz es)):=.msl
end
def enumL(ok:List Int->Nat->Bool)(m:Nat):Nat->List Int->List (List Int)
 | 0,L=>[L]
 | r+1,L=>(List.range m).flatMap fun k=>if ok L k=true then enumL ok m r (L++[(k:Int)]) else []
theorem take_app{α:Type}(n:Nat)(a b:List α):((a.take n)++b).take n=(a++b).take n:=by
 by_cases h:a.length<=n
 .rw[List.take_of_length_le h]
 .rw[List.take_append_of_le_length (by simp;omega),List.take_append_of_le_length (by omega),List.take_take,Nat.min_self]
theorem fold_take{α β:Type}(most:Nat)(g:List β->α->List β)(f:α->List β):∀(l:List α) (out:List β),(∀x∈l,∀out,out.length<=most->g out x=(out++f x).take most)->out.length<=most ->
  l.foldl g out=(out++l.flatMap f).take most
 | [],out,_,h=>by simp[List.take_of_length_le h]
 | x::l,out,hg,h=>by
  rw[List.foldl_cons,hg x (by simp) out h,fold_take most g f l _ (fun y hy=>hg y (by simp[hy])) (by simp;omega),take_app,List.flatMap_cons,List.append_assoc]
theorem full_take{β:Type}{most:Nat}{out:List β}(h:out.length=most)(l:List β):(out++l).take most=out:=by
 rw[List.take_append_of_le_length (by omega),List.take_of_length_le (by omega)]
def fndE(most:Nat)(ok:List Int->Nat->Bool)(m:Nat)(N:List Int):Nat->List Int->List Mo->List Mo
 | 0,E,out=>if out.length=most then out else out++[⟨N,E⟩]
 | r+1,E,out=>if out.length=most then out else (List.range m).foldl (fun out k=>if ok E k=true then fndE most ok m N r (E++[(k:Int)]) out else out) out
theorem fndE_eq(most:Nat)(ok:List Int->Nat->Bool)(m:Nat)(N:List Int):∀(r:Nat) (E:List Int) (out:List Mo),out.length<=most->fndE most ok m N r E out=(out++(enumL ok m r E).map (Mo.mk N)).take most
 | 0,E,out,h=>by
  unfold fndE;split
  .rename_i e;rw[full_take e]
  .rw[enumL,List.map_cons,List.map_nil,List.take_of_length_le (by simp;omega)]
 | r+1,E,out,h=>by
  unfold fndE;split
  .rename_i e;rw[full_take e]
  .rw[fold_take most _ (fun k=>if ok E k=true then (enumL ok m r (E++[(k:Int)])).map (Mo.mk N) else []) _ _ (fun k _ out ho=>by
    split
    .exact fndE_eq most ok m N r _ out ho
    .rw[List.append_nil,List.take_of_length_le ho]) h,enumL,List.map_flatMap]
   refine congrArg (fun f=>(out++List.flatMap f (List.range m)).take most) (funext fun k=>?_);split<;>simp
def fndN(most:Nat)(okN pos:List Int->Nat->Bool)(mn:Nat)(okE:List Int->List Int->Nat->Bool)(me re:Nat):Nat->List Int->List Mo->List Mo
 | 0,N,out=>fndE most (okE N) me N re [] out
 | r+1,N,out=>if out.length=most then out else (List.range mn).foldl (fun out k=>if okN N k=true then (if pos N k=true then fndN most okN pos mn okE me re r (N++[(k:Int)]) out else out) else out) out
def allF(okN:List Int->Nat->Bool)(mn:Nat)(okE:List Int->List Int->Nat->Bool)(me re:Nat)(r:Nat)(N:List Int):List Mo:=(enumL okN mn r N).flatMap fun N=>(enumL (okE N) me re []).map (Mo.mk N)
theorem allF_zero(okN:List Int->Nat->Bool)(mn:Nat)(okE:List Int->List Int->Nat->Bool)(me re:Nat)(N:List Int):allF okN mn okE me re 0 N=(enumL (okE N) me re []).map (Mo.mk N):=by simp[allF,enumL]
theorem allF_succ(okN:List Int->Nat->Bool)(mn:Nat)(okE:List Int->List Int->Nat->Bool)(me re:Nat)(r:Nat)(N:List Int):
  allF okN mn okE me re (r+1) N=(List.range mn).flatMap fun k=>if okN N k=true then allF okN mn okE me re r (N++[(k:Int)]) else []:=by
 unfold allF;rw[enumL,List.flatMap_assoc];congr 1
 funext k
 split<;>simp
theorem fndN_eq(most:Nat)(okN pos:List Int->Nat->Bool)(mn:Nat)(okE:List Int->List Int->Nat->Bool)(me re:Nat)(P:List Int->Prop)(hP:∀N k,P N->k<mn->okN N k=true->P (N++[(k:Int)]))(hpos:∀r N k,P N->okN N k=true->pos N k=false->allF okN mn okE me re r (N++[(k:Int)])=[]):∀(r:Nat) (N:List Int) (out:List Mo),P N->out.length<=most ->
  fndN most okN pos mn okE me re r N out=(out++allF okN mn okE me re r N).take most
 | 0,N,out,hN,h=>by rw[fndN,fndE_eq _ _ _ _ _ _ _ h,allF_zero]
 | r+1,N,out,hN,h=>by
  rw[fndN,allF_succ];split
  .rename_i e;rw[full_take e]
  .refine fold_take most _ _ _ _ (fun k hk out ho=>?_) h;have hk:=List.mem_range.1 hk;cases e:okN N k
   .simp[List.take_of_length_le ho]
   .simp only[if_true];cases e2:pos N k
    .simp only[Bool.false_eq_true,if_false];rw[hpos r N k hN e e2,List.append_nil,List.take_of_length_le ho]
    .simp only[if_true];exact fndN_eq most okN pos mn okE me re P hP hpos r _ out (hP N k hN hk e) ho
theorem fndE_len{most:Nat}{ok:List Int->Nat->Bool}{m:Nat}{N:List Int}{r:Nat}{E:List Int}{out:List Mo}(h:out.length<=most):(fndE most ok m N r E out).length<=most:=by
 rw[fndE_eq _ _ _ _ _ _ _ h];simp;omega
theorem enumL_mem{ok:List Int->Nat->Bool}{m:Nat}:∀{r:Nat} {L x:List Int},x∈enumL ok m r L↔∃T:List Nat,T.length=r/\(∀k∈T,k<m)/\x=L++T.map (fun (k:Nat)=>(k:Int))/\∀i (h:i<T.length),ok (L++(T.take i).map (fun (k:Nat)=>(k:Int))) T[i]=true
 | 0,L,x=>by
  rw[enumL,List.mem_singleton];constructor
  .rintro rfl;exact⟨[],rfl,by simp,by simp,fun i h=>by simp at h⟩
  .rintro⟨T,h1,_,h2,_⟩;have:T=[]:=List.eq_nil_of_length_eq_zero h1
   subst this;simpa using h2
 | r+1,L,x=>by
  rw[enumL,List.mem_flatMap];constructor
  .rintro⟨k,hk,hx⟩;split at hx
   .rename_i hok;obtain⟨T,h1,h2,rfl,h4⟩:=enumL_mem.1 hx;refine⟨k::T,by simp[h1],fun q hq=>?_,by simp,fun i hi=>?_⟩
    .rcases List.mem_cons.1 hq with rfl|hq
     .exact List.mem_range.1 hk
     .exact h2 q hq
    .cases i with
     | zero=>simpa using hok
     | succ i =>
      have:=h4 i (by simpa using hi)
      simpa using this
   .simp at hx
  .rintro⟨T,h1,h2,rfl,h4⟩;cases T with
   | nil=>simp at h1
   | cons k T =>
    refine⟨k,List.mem_range.2 (h2 k (by simp)),?_⟩;have h0:=h4 0 (by simp);simp only[List.take_zero,List.map_nil,List.append_nil,List.getElem_cons_zero] at h0;rw[if_pos h0];refine enumL_mem.2 ⟨T,by simpa using h1,fun q hq=>h2 q (by simp[hq]),by simp,fun i hi=>?_⟩;have:=h4 (i+1) (by simpa using hi)
    simpa using this
structure Sr where
 t:Ty
 p:Gr
 g:Gr
 pt:Mo
 inj:Bool
 most:Nat
structure Sr.Ok (s:Sr):Prop where
 t:s.t.Fit
 tp:∀j,j<s.t.nodes.length->(s.t.nd j).par<j
 p:s.p.Fit
 g:s.g.Fit
 m:s.most<=1000000
 vp:∀e∈s.p.edges,0<=e.fr/\e.fr<s.p.nodes.length/\0<=e.to/\e.to<s.p.nodes.length
 pn:s.pt.nodes.length=s.p.nodes.length
 pe:s.pt.edges.length=s.p.edges.length
 np:∀n∈s.p.nodes,0<=n/\n<s.t.nodes.length
 ng:∀n∈s.g.nodes,0<=n/\n<s.t.nodes.length
def gvB(l:List Int)(i k:Nat):Bool:=if 0<=l.getD i 0 then decide (l.getD i 0=(k:Int)) else true
def usB(inj:Bool)(L:List Int)(k:Nat):Bool:=if inj=true then decide ((k:Int)∈L) else false
def Sr.okE(s:Sr)(N E:List Int)(k:Nat):Bool :=
 if gvB s.pt.edges E.length k=true then (if usB s.inj E k=true then false else decide (s.g.edges.getD k default=wantX s.p N E.length)) else false
def Sr.okN(s:Sr)(N:List Int)(k:Nat):Bool :=
 if gvB s.pt.nodes N.length k=true then (if usB s.inj N k=true then false else isB s.t (s.g.nodes.getD k 0) (s.p.nodes.getD N.length 0)) else false
def Sr.eqE(s:Sr)(N:List Int)(i k:Nat):Bool:=decide (s.g.edges.getD k default=wantX s.p N i)
def Sr.anE(s:Sr)(N:List Int)(i k:Nat):Bool:=(List.range k).any (s.eqE N i)
def Sr.fitE(s:Sr)(N:List Int)(i:Nat):Bool :=
 if (N.length:Int)<=(s.p.edges.getD i default).fr then true else if (N.length:Int)<=(s.p.edges.getD i default).to then true else s.anE N i s.g.edges.length
def Sr.fit(s:Sr)(N:List Int):Bool:=(List.range s.p.edges.length).all (s.fitE N)
theorem Sr.fit_true{s:Sr}{N:List Int}(h:∀i,i<s.p.edges.length->s.fitE N i=true):s.fit N=true:=by
 unfold Sr.fit;rw[List.all_eq_true];exact fun i hi=>h i (List.mem_range.1 hi)
def Sr.fnR(s:Sr):Nat->List Int->List Mo->List Mo
 | 0,N,out=>if out.length=s.most+1 then out else if s.fit N=true then fndE (s.most+1) (s.okE N) s.g.edges.length N s.p.edges.length [] out else out
 | r+1,N,out=>if out.length=s.most+1 then out else if s.fit N=true then (List.range s.g.nodes.length).foldl (fun out k=>if s.okN N k=true then s.fnR r (N++[(k:Int)]) out else out) out else out
abbrev Sr.fnN(s:Sr):Nat->List Int->List Mo->List Mo:=fndN (s.most+1) s.okN (fun N k=>s.fit (N++[(k:Int)])) s.g.nodes.length s.okE s.g.edges.length s.p.edges.length
theorem Sr.fnR_eq(s:Sr):∀(r:Nat) (N:List Int) (out:List Mo),s.fnR r N out=if s.fit N=true then s.fnN r N out else out
 | 0,N,out=>by
  unfold Sr.fnR Sr.fnN fndN;by_cases h:out.length=s.most+1
  .rw[if_pos h];cases s.p.edges.length<;>simp[fndE,h]
  .rw[if_neg h]
 | r+1,N,out=>by
  unfold Sr.fnR Sr.fnN fndN;by_cases h:out.length=s.most+1
  .rw[if_pos h,if_pos h];simp
  .rw[if_neg h,if_neg h];have e:(fun (out:List Mo) (k:Nat)=>if s.okN N k=true then s.fnR r (N++[(k:Int)]) out else out)=fun out k=>if s.okN N k=true then (if s.fit (N++[(k:Int)])=true then s.fnN r (N++[(k:Int)]) out else out) else out:=by
    funext out k
    rw[Sr.fnR_eq s r]
   rw[e]
variable {P:Program} {wr:Bool}
def typN(t:Ty)(n:Int):Bool:=decide (0<=n/\n<t.nodes.length)
def typX(t:Ty)(e:E):Bool:=decide (0<=e.ty/\e.ty<t.edges.length)
def typG(t:Ty)(g:Gr):Bool:=g.nodes.all (typN t)&&g.edges.all (typX t)
def opM(p:Gr):Mo:=⟨List.replicate p.nodes.length (-1),List.replicate p.edges.length (-1)⟩
abbrev mosR(l:List Mo):List (List D):=l.map fun m=>[ints m.nodes,ints m.edges]
def givS(t:Ty)(p g:Gr):Int:=if tyE t≠0 then tyE t else if vG p≠0 then vG p else if vG g≠0 then vG g else if typG t p=false then 13 else if typG t g=false then 13 else 0
def allSr(t:Ty)(p g:Gr)(inj:Bool):Sr:=⟨t,p,g,opM p,inj,5000⟩
def allL(t:Ty)(p g:Gr)(inj:Bool):List Mo:=(allSr t p g inj).fnR p.nodes.length [] []
def allS(t:Ty)(p g:Gr)(inj:Bool):List Mo × Int:=if givS t p g≠0 then ([],givS t p g) else if 5000<(allL t p g inj).length then ([],3) else (allL t p g inj,0)
theorem typG_nodes{t:Ty}{g:Gr}(h:typG t g=true):∀n∈g.nodes,0<=n/\n<t.nodes.length:=by
 unfold typG at h;rw[Bool.and_eq_true] at h;intro n hn;have:=List.all_eq_true.1 h.1 n hn
 simpa[typN] using this
theorem givS_zero{t:Ty}{p g:Gr}(h:givS t p g=0):tyE t=0/\vG p=0/\vG g=0/\typG t p=true/\typG t g=true:=by
 unfold givS at h;split at h
 .contradiction
 .split at h
  .contradiction
  .split at h
   .contradiction
   .split at h
    .simp at h
    .split at h
     .simp at h
     .rename_i a b c d e;exact⟨by simpa using a,by simpa using b,by simpa using c,by simpa using d,by simpa using e⟩
theorem allSr_ok{t:Ty}{p g:Gr}{inj:Bool}(ht:t.Fit)(hp:p.Fit)(hg:g.Fit)(h:givS t p g=0):(allSr t p g inj).Ok:=by
 obtain⟨h1,h2,h3,h4,h5⟩:=givS_zero h;exact⟨ht,tyE_par h1,hp,hg,by simp[allSr],validG_edges h2,by simp[allSr,opM],by simp[allSr,opM],typG_nodes h4,typG_nodes h5⟩
theorem wantX_app{p:Gr}{N M:List Int}{i:Nat}(h1:(p.edges.getD i default).fr.toNat<N.length)(h2:(p.edges.getD i default).to.toNat<N.length):wantX p (N++M) i=wantX p N i:=by
 unfold wantX;generalize p.edges.getD i default=e at *;rw[List.getD_eq_getElem?_getD,List.getD_eq_getElem?_getD,List.getD_eq_getElem?_getD,List.getD_eq_getElem?_getD,List.getElem?_append_left h1,List.getElem?_append_left h2]
theorem Sr.fit_dead{s:Sr}(h:s.Ok){N:List Int}(hf:s.fit N=false)(r:Nat):allF s.okN s.g.nodes.length s.okE s.g.edges.length s.p.edges.length r N=[]:=by
 rw[List.eq_nil_iff_forall_not_mem];intro m hm;unfold allF at hm;obtain⟨N',hN',hm⟩:=List.mem_flatMap.1 hm;obtain⟨es,hes,rfl⟩:=List.mem_map.1 hm;obtain⟨T,t1,t2,rfl,t4⟩:=enumL_mem.1 hN';obtain⟨U,u1,u2,rfl,u4⟩:=enumL_mem.1 hes;unfold Sr.fit at hf;obtain⟨i,hi,hfi⟩:=List.all_eq_false.1 hf;have hi:=List.mem_range.1 hi;have hfi:s.fitE N i=false:=by simpa using hfi
 unfold Sr.fitE at hfi;have hgd:s.p.edges.getD i default=s.p.edges[i]:=by simp[hi]
 obtain⟨x1,x2,x3,x4⟩:=h.vp _ (List.getElem_mem hi);split at hfi
 .cases hfi
 .split at hfi
  .cases hfi
  .rename_i a b;rw[hgd] at a b;have hiU:i<U.length:=by omega
   have hu:=u4 i hiU;have hk:=u2 _ (List.getElem_mem hiU);unfold Sr.anE at hfi;have hno:=List.any_eq_false.1 hfi U[i] (List.mem_range.2 hk);unfold Sr.eqE at hno;unfold Sr.okE at hu;split at hu
   .split at hu
    .cases hu
    .have hl:(([]:List Int)++(U.take i).map (fun (k:Nat)=>(k:Int))).length=i:=by simp;omega
     rw[hl,wantX_app (by rw[hgd];omega) (by rw[hgd];omega)] at hu;exact hno hu
   .cases hu
theorem Sr.fit_nil{s:Sr}(h:s.Ok):s.fit []=true:=by
 refine Sr.fit_true fun i hi=>?_
 have hgd:s.p.edges.getD i default=s.p.edges[i]:=by simp[hi]
 obtain⟨x1,x2,x3,x4⟩:=h.vp _ (List.getElem_mem hi);unfold Sr.fitE;rw[if_pos (by rw[hgd];simpa using x1)]
theorem Sr.fnR_all{s:Sr}(h:s.Ok):s.fnR s.p.nodes.length [] []=(allF s.okN s.g.nodes.length s.okE s.g.edges.length s.p.edges.length s.p.nodes.length []).take (s.most+1):=by
 rw[Sr.fnR_eq,if_pos (Sr.fit_nil h)];have:=fndN_eq (s.most+1) s.okN (fun N k=>s.fit (N++[(k:Int)])) s.g.nodes.length s.okE s.g.edges.length s.p.edges.length (fun _=>True) (fun _ _ _ _ _=>trivial) (fun r N k _ _ hp=>Sr.fit_dead h hp r) s.p.nodes.length [] [] trivial (by simp)
 simpa using this
def Sr.fitK(s:Sr)(N:List Int)(i k:Nat):Bool:=if gvB s.pt.edges i k=true then decide (s.g.edges.getD k default=wantX s.p N i) else false
def Sr.posE(s:Sr)(N:List Int)(i:Nat):Bool :=
 if max (s.p.edges.getD i default).fr (s.p.edges.getD i default).to=(N.length:Int)-1 then (List.range s.g.edges.length).any (s.fitK N i) else true
def Sr.pos(s:Sr)(N:List Int):Bool:=(List.range s.p.edges.length).all (s.posE N)
theorem Sr.pos_false{s:Sr}{N:List Int}{i:Nat}(hi:i<s.p.edges.length)(h:s.posE N i=false):s.pos N=false:=by
 unfold Sr.pos;rw[List.all_eq_false];exact⟨i,List.mem_range.2 hi,by simp[h]⟩
theorem Sr.pos_true{s:Sr}{N:List Int}(h:∀i,i<s.p.edges.length->s.posE N i=true):s.pos N=true:=by
 unfold Sr.pos;rw[List.all_eq_true];exact fun i hi=>h i (List.mem_range.1 hi)
theorem Sr.okE_eq(s:Sr)(N E:List Int)(k:Nat):s.okE N E k=(s.fitK N E.length k&&!usB s.inj E k):=by
 unfold Sr.okE Sr.fitK;cases gvB s.pt.edges E.length k<;>cases usB s.inj E k<;>simp
theorem Sr.pos_dead{s:Sr}(h:s.Ok){N:List Int}(hf:s.pos N=false)(r:Nat):allF s.okN s.g.nodes.length s.okE s.g.edges.length s.p.edges.length r N=[]:=by
 rw[List.eq_nil_iff_forall_not_mem];intro m hm;unfold allF at hm;obtain⟨N',hN',hm⟩:=List.mem_flatMap.1 hm;obtain⟨es,hes,rfl⟩:=List.mem_map.1 hm;obtain⟨T,t1,t2,rfl,t4⟩:=enumL_mem.1 hN';obtain⟨U,u1,u2,rfl,u4⟩:=enumL_mem.1 hes;unfold Sr.pos at hf;obtain⟨i,hi,hfi⟩:=List.all_eq_false.1 hf;have hi:=List.mem_range.1 hi;have hfi:s.posE N i=false:=by simpa using hfi
 unfold Sr.posE at hfi;have hgd:s.p.edges.getD i default=s.p.edges[i]:=by simp[hi]
 obtain⟨x1,x2,x3,x4⟩:=h.vp _ (List.getElem_mem hi);split at hfi
 .rename_i hmx;rw[hgd] at hmx;have hiU:i<U.length:=by omega
  have hu:=u4 i hiU;have hk:=u2 _ (List.getElem_mem hiU);have hno:=List.any_eq_false.1 hfi U[i] (List.mem_range.2 hk);have hl:(([]:List Int)++(U.take i).map (fun (k:Nat)=>(k:Int))).length=i:=by simp;omega
  rw[Sr.okE_eq,hl] at hu;have hu:=(Bool.and_eq_true_iff.1 hu).1;unfold Sr.fitK at hu hno;rw[wantX_app (by rw[hgd];omega) (by rw[hgd];omega)] at hu;exact hno hu
 .cases hfi
abbrev Sr.fnP(s:Sr)(fm:Nat):Nat->List Int->List Mo->List Mo:=fndN fm s.okN (fun N k=>s.pos (N++[(k:Int)])) s.g.nodes.length s.okE s.g.edges.length s.p.edges.length
theorem Sr.fnP_eq{s:Sr}(h:s.Ok)(fm r:Nat)(N:List Int)(out:List Mo)(ho:out.length<=fm):s.fnP fm r N out=(out++allF s.okN s.g.nodes.length s.okE s.g.edges.length s.p.edges.length r N).take fm :=
 fndN_eq fm s.okN (fun N k=>s.pos (N++[(k:Int)])) s.g.nodes.length s.okE s.g.edges.length s.p.edges.length (fun _=>True) (fun _ _ _ _ _=>trivial) (fun r N k _ _ hp=>Sr.pos_dead h hp r) r N out trivial ho
theorem Sr.fnP_len{s:Sr}(h:s.Ok){fm r:Nat}{N:List Int}{out:List Mo}(ho:out.length<=fm):(s.fnP fm r N out).length<=fm:=by
 rw[Sr.fnP_eq h _ _ _ _ ho];simp;omega
theorem Sr.fnP_fnR{s:Sr}(h:s.Ok):s.fnP (s.most+1) s.p.nodes.length [] []=s.fnR s.p.nodes.length [] []:=by
 rw[Sr.fnR_all h,Sr.fnP_eq h _ _ _ _ (by simp)];simp
def belK(t:Ty)(a:Int)(i:Nat):List Int:=((List.range i).filter fun (b:Nat)=>isB t (b:Int) a).map fun (b:Nat)=>(b:Int)
theorem belK_zero(t:Ty)(a:Int):belK t a 0=[]:=rfl
theorem belK_succ(t:Ty)(a:Int)(i:Nat):belK t a (i+1)=if isB t i a=true then belK t a i++[(i:Int)] else belK t a i:=by
 unfold belK;rw[List.range_succ,List.filter_append,List.map_append];by_cases h:isB t i a=true<;>simp[h]
theorem belK_len(t:Ty)(a:Int)(i:Nat):(belK t a i).length<=i:=by
 unfold belK;rw[List.length_map];exact Nat.le_trans (List.length_filter_le _ _) (by simp)
def belR(t:Ty)(a:Int):List Int × Int:=if givE t [a]≠0 then ([],givE t [a]) else (belK t a t.nodes.length,0)
theorem givE_leaf{t:Ty}(h:tyE t=0){a:Int}(h0:0<=a):givE t [a]=if (t.nodes.length:Int)<=a then 6 else 0:=by
 unfold givE;rw[if_pos h];by_cases h1:(t.nodes.length:Int)<=a
 .have:¬a<t.nodes.length:=by omega
  simp[anyB,insB,h1,this]
 .have:a<t.nodes.length:=by omega
  simp[anyB,insB,h1,this,h0]
def stBw(t:Ty)(a:Int)(nb:Nat)(box:Bxs)(x:Acc):AS :=
 ⟨tl [(19,I x.i),(18,I t.nodes.length),(7,.osl 1 (rI (belK t a x.i)) x.own),(1,I a),(2,.ptr (nb+2) 0 0)],lb nb box [(2,[[.d (nts t.nodes),.d (ets t.edges)]])],x.tok,x.nt⟩
theorem below_c(t:Ty)(ht:t.Fit)(a:Int):DC 304 [t.av,I a] (.tup [.d (ints (belR t a).1),I (belR t a).2]):=by
 intro tok nt box nb;have htn:=ht.n;have h1:=given_c t ht [a] (by simp);have hin:=@givE_in t [a];obtain⟨N,hN⟩:∃N,belR t a=N:=⟨_,rfl⟩
 rw[hN];unfold belR at hN;generalize givE t [a]=E at *;refine sI func304 ntmps304 fun Hb Ht=>?_
 repeat first|simp|refine sR ?_
 refine Stop.data ?_;refine sD (h1 _ _) ?_;repeat first|simp|refine sR ?_
 by_cases e1:E=0
 .rw[if_neg (by simp[e1])] at hN;have hp:=tyE_par (hin e1).1;refine sC ?_;simp[e1];repeat first|simp|refine sR ?_
  refine sN ?_;refine sL (stBw t a nb box) (fun x=>x.i<=t.nodes.length/\TK tok nt x.tok x.nt [x.own]) (fun x=>t.nodes.length-x.i) ⟨0,.full,tok,nt⟩ ⟨Nat.zero_le _,(TK.start Ht).full⟩ (wM (nr _) rfl (by simp[ToL,lk,belK_zero]) (by simp[BoxL,lk])) ?_;rintro⟨i,own,tok',nt'⟩ S ⟨hi,htk⟩ hS;simp only[stBw] at hS hi htk;subst hS;have hw:=sW (i:=i) (by omega);have hlen:=belK_len t a i;have hsc:=belK_succ t a i;repeat first|simp|refine sR ?_|refine sC ?_
  refine⟨fun hlt=>?_,fun hge=>?_⟩
  .have hc:=is_c t ht i a (by omega) (by omega) hp;generalize belK t a i=L at *;repeat first|simp[hlt]|refine sR ?_
   refine sD (hc _ _) ?_;simp;cases e2:isB t i a
   .rw[e2,if_neg (by simp)] at hsc;repeat first|simp[hw]|refine sR ?_|refine sC ?_
    refine sE ?_;exact⟨⟨i+1,own,tok',nt'⟩,⟨hlt,htk⟩,by simp only;omega,wM htk.le rfl (by simp[ToL,lk,hsc]) (by simp[BoxL,lk])⟩
   .rw[e2,if_pos rfl] at hsc;repeat first|simp|refine sR ?_
    refine sC ?_;repeat first|simp|refine sR ?_
    refine⟨⟨by omega,htk.live⟩,?_⟩;repeat first|simp[hw]|refine sR ?_
    refine sE ?_;exact⟨⟨i+1,_,_,_⟩,⟨hlt,htk.app⟩,by simp only;omega,wM htk.app.le rfl (by simp[ToL,lk,hsc]) (by simp[BoxL,lk])⟩
  .refine sX ?_;simp only[AU,↓reduceIte];have:i=t.nodes.length:=by omega
   subst this;repeat first|simp|refine sR ?_
   refine sT (sG Hb Ht htk.old htk.le ?_);simp[<-hN]
 .rw[if_pos e1] at hN;have b1:(E != 0)=true:=by simp[e1]
  refine sC ?_;simp[b1];repeat first|simp|refine sR ?_
  refine sT (sH Hb Ht ?_);simp[<-hN,ints]
theorem dss_nil:DSs [] []:=⟨rfl,fun i h=>by simp at h⟩
theorem dss_cons{x y:List D}{xs ys:List (List D)}:DSs (x::xs) (y::ys)↔DS1 x y/\DSs xs ys:=by
 constructor
 .rintro⟨h1,h2⟩;exact⟨h2 0 (by simp) (by simp),by simpa using h1,fun j g1 g2=>h2 (j+1) (by simpa using g1) (by simpa using g2)⟩
 .rintro⟨h1,h2,h3⟩;refine⟨by simp[h2],fun j g1 g2=>?_⟩
  match j with
  | 0=>exact h1
  | j+1=>exact h3 j (by simpa using g1) (by simpa using g2)
theorem dsub_all{sz:Nat}{es es':List (List D)}(h:DSs es es'):DSub (.sl sz es) (.sl sz es'):=h.sub sz
theorem to_dss{p q:Nat->Prop}{fz:Option (Nat × Nat × List (List D))}{sz:Nat}{es es':List (List D)}{o:Own}(h:DSs es es'):To p q fz (.osl sz es o) (.d (.sl sz es')):=.odsub (h.sub sz)
abbrev Co.cells(c:Co):List D:=[.raw (.string c.name),.raw (.int .i64 c.kind),ints c.g.nodes,AM.edges c.g.edges,xts c.exts]
abbrev rCo(l:List Co):List (List D):=l.map Co.cells
abbrev cosD(l:List Co):D:=.sl 5 (rCo l)
def stICo(xs:List Co)(f:FuncId)(caps:List AV)(nb:Nat)(box:Bxs)(tok:Tks)(nt:Nat)(i:Nat):AS:=⟨tl [(0,.d (cosD xs)),(1,.fn (.func f) caps),(7,I xs.length),(8,I i)],lb nb box [],tok,nt⟩
theorem indexFuncCo_c(xs:List Co)(f:FuncId)(caps:List AV)(p:Co->Bool)(hx:xs.length<=1000000)(box:Bxs)(nb:Nat)(tok:Tks)(nt:Nat)(hc:∀c∈caps,OkIn (fun k=>box k≠none) (fun _=>True) c)(hf:∀x∈xs,∀box' nb',Ext box box'->ACalls prog f (x.av::caps) ⟨box',nb',tok,nt⟩ fun v m=>v=B (p x)/\m=⟨box',nb',tok,nt⟩):
  ACalls prog 148 [.d (cosD xs),.fn (.func f) caps] ⟨box,nb,tok,nt⟩ fun v m=>v=I (if anyB p xs=true then (xs.findIdx p:Nat) else -1)/\m=⟨box,nb,tok,nt⟩:=by
 refine sI func148 ntmps148 fun Hb Ht=>?_
 repeat first|simp|refine sR ?_
 refine sN ?_;refine sL (stICo xs f caps nb box tok nt) (fun i=>i<=xs.length/\∀x∈xs.take i,p x=false) (fun i=>xs.length-i) 0 ⟨Nat.zero_le _,by simp⟩ (wM (nr _) rfl (by simp[ToL];exact .same (okFn hc Hb [] (by simp) rfl _)) trivial) ?_;rintro i S' ⟨hi,htk⟩ hS;simp only[stICo] at hS;subst hS;have hw:=sW (i:=i) (by omega);repeat first|simp|refine sR ?_|refine sC ?_
 refine⟨fun hlt=>?_,fun hge=>?_⟩
 .have hfx:=hf xs[i] (List.getElem_mem _);have hpx:p xs[i]=true->anyB p xs=true/\(xs.findIdx p=i):=fun he=>any_takeG hlt htk he
  have hmore:p xs[i]=false->∀x∈xs.take (i+1),p x=false:=fun he x hx=>by
   rw[List.take_succ_eq_append_getElem hlt] at hx;rcases List.mem_append.1 hx with hx|hx
   .exact htk x hx
   .simp at hx;rw[hx];exact he
  repeat first|simp[hlt]|refine sR ?_
  generalize xs[i]=x at *;refine Stop.of_b (hfx _ _ ((Ext.refl box).lb Hb [])) ?_;simp;cases he:p x
  .refine sC ?_;simp;repeat first|simp[hw]|refine sR ?_
   refine sE ?_;refine⟨i+1,⟨hlt,?_⟩,by omega,wM (nr _) rfl (by simp[ToL];exact .same (okFn hc Hb [] (by simp) rfl _)) trivial⟩;exact hmore he
  .obtain⟨h1,h2⟩:=hpx he;refine sC ?_;repeat first|simp|refine sR ?_
   refine sT (sH Hb Ht ?_);simp[h1,h2]
 .have hn:anyB p xs=false:=by
   rw[List.take_of_length_le hge] at htk;simpa[anyB] using htk
  refine sX ?_;simp only[AU,↓reduceIte];repeat first|simp|refine sR ?_
  refine sT (sH Hb Ht ?_);simp[hn]
def shapeF(f:Fo):Int:=if f.formE≠0 then f.formE else if 40<f.size then 3 else if 8<f.depth then 3 else 0
theorem shapeT_c(f:Fo)(hb:f.size<=1000000)(hs:f.Sm):DC 83 [f.av] (I (shapeF f)):=by
 intro tok nt box nb;have h1:=formT_c _ f (Nat.lt_succ_self _) hb hs;have h2:=measureT_c _ f (Nat.lt_succ_self _) hb;have hd:=f.depth_le_size _ (Nat.lt_succ_self _);obtain⟨R,hR⟩:∃R,shapeF f=R:=⟨_,rfl⟩
 rw[hR];unfold shapeF at hR;generalize f.formE=e at *;refine sI func83 ntmps83 fun Hb Ht=>?_
 repeat first|simp|refine sR ?_
 refine sD (h1 _ _) ?_;simp;by_cases he:e=0
 .have b0:(e != 0)=false:=by simpa using he
  rw[if_neg (by simpa using he)] at hR;try (simp[b0])
  repeat (first|(refine sR ?_;simp[b0])|(refine sC ?_;simp[b0])|(refine sX ?_;simp only[AU,↓reduceIte]))
  refine sD (h2 _ _) ?_;simp;by_cases c1:(40:Int)<(f.size:Int)
  .rw[if_pos (by omega)] at hR;subst hR;try (simp[c1])
   repeat (first|(refine sR ?_;simp[c1])|(refine sC ?_;simp[c1])|(refine sX ?_;simp only[AU,↓reduceIte]))
   refine sT (sH Hb Ht ?_);simp
  .rw[if_neg (by omega)] at hR;by_cases c2:(8:Int)<(f.depth:Int)
   .rw[if_pos (by omega)] at hR;subst hR;try (simp[c1,c2])
    repeat (first|(refine sR ?_;simp[c1,c2])|(refine sC ?_;simp[c1,c2])|(refine sX ?_;simp only[AU,↓reduceIte]))
    refine sT (sH Hb Ht ?_);simp
   .rw[if_neg (by omega)] at hR;subst hR;try (simp[c1,c2])
    repeat (first|(refine sR ?_;simp[c1,c2])|(refine sC ?_;simp[c1,c2])|(refine sX ?_;simp only[AU,↓reduceIte]))
    refine sT (sH Hb Ht ?_);simp
 .have b0:(e != 0)=true:=by simpa using he
  rw[if_pos he] at hR;subst hR;try (simp[b0])
  repeat (first|(refine sR ?_;simp[b0])|(refine sC ?_;simp[b0])|(refine sX ?_;simp only[AU,↓reduceIte]))
  refine sT (sH Hb Ht ?_);simp
mutual
def Fo.ats:Fo->List ByteArray
 | .mk k s c=>if k=1 then s::Fo.atsL c else Fo.atsL c
def Fo.atsL:List Fo->List ByteArray
 | []=>[]
 | x::r=>Fo.ats x++Fo.atsL r
end
def stTm5(c:Fo)(nb:Nat)(box:Bxs)(tok:Tks)(nt:Nat)(i:Nat):AS :=
 ⟨tl [(6,I i),(4,I (1+Fo.sizeL (c.kids.take i):Nat)),(5,I (Fo.depthL (c.kids.take i))),(1,.ptr (nb+1) 0 0)],lb nb box [(1,[c.row])],tok,nt⟩
theorem measure50_c:∀(n:Nat) (c:Fo),c.size<n->c.size<=1000000->∀(tok:Tks) (nt:Nat),DCall prog 153 [c.av] tok nt (.tup [I c.size,I c.depth]) tok nt
 | 0,c,hn,_,tok,nt=>absurd hn (Nat.not_lt_zero _)
 | n+1,c,hn,hb,tok,nt=>by
  intro box nb;have ih:=fun x (hx:x∈c.kids)=>measure50_c n x (by have:=Fo.kid_size hx;omega) (by have:=Fo.kid_size hx;omega)
  have hkl:=c.kids_len;have hs:=c.size_eq;have hd:=c.depth_eq;have hds:=c.depth_le_size _ (Nat.lt_succ_self _);refine sI func153 ntmps153 fun Hb Ht=>?_
  repeat first|simp|refine sR ?_
  refine sN ?_;refine sL (stTm5 c nb box tok nt) (fun i=>i<=c.kids.length) (fun i=>c.kids.length-i) 0 (Nat.zero_le _) (wM (nr _) rfl (by simp[ToL,lk,Fo.sizeL,Fo.depthL]) (by simp[BoxL,lk])) ?_;rintro i S hi hS;simp only[stTm5] at hS;subst hS;have hw:=sW (i:=i) (by omega);repeat first|simp|refine sR ?_|refine sC ?_
  refine⟨fun hlt=>?_,fun hge=>?_⟩
  .have h1:=Fo.sizeL_take hlt;have h2:=Fo.depthL_take hlt;have h3:=Fo.sizeL_take_le c.kids (i+1);have h4:=Fo.depthL_take_le c.kids (i+1);have ihx:=ih _ (List.getElem_mem hlt);have hw2:IntKind.i64.wrap (1+(Fo.sizeL (c.kids.take i):Int)+(c.kids[i].size:Int))=((1+Fo.sizeL (c.kids.take (i+1)):Nat):Int):=by rw[wrap_in (by omega) (by omega)];omega
   have hm:max (Fo.depthL (c.kids.take i):Int) (c.kids[i].depth:Int)=((Fo.depthL (c.kids.take (i+1)):Nat):Int):=by omega
   repeat first|simp[hlt,Fo.cells_eq]|refine sR ?_
   generalize c.kids[i]=x at *;repeat first|simp|refine sR ?_
   refine sD (ihx _ _) ?_;simp;repeat first|simp[hw2,hm]|refine sR ?_
   repeat first|simp[hw]|refine sR ?_
   refine sE ?_;exact⟨i+1,hlt,by omega,wkA⟩
  .refine sX ?_;simp only[AU,↓reduceIte];have:i=c.kids.length:=by omega
   subst this;rw[List.take_length];have hw3:IntKind.i64.wrap ((Fo.depthL c.kids:Int)+1)=((c.depth:Nat):Int):=by rw[wrap_in (by omega) (by omega)];omega
   have hs2:(1+(Fo.sizeL c.kids:Int))=((c.size:Nat):Int):=by omega
   repeat first|simp[hw3]|refine sR ?_
   refine sT (sH Hb Ht ?_);simp[hs2,hd]
def stSh5(f:Fo)(nb:Nat)(box:Bxs)(tok:Tks)(nt:Nat)(i:Nat):AS :=
 ⟨tl [(3,I i),(1,.ptr (nb+1) 0 0)],lb nb box [(1,[f.row])],tok,nt⟩
set_option maxRecDepth 100000 in
theorem form50_c:∀(n:Nat) (f:Fo),f.size<n->f.size<=1000000->f.Sm->∀(tok:Tks) (nt:Nat),DCall prog 152 [f.av] tok nt (I f.formE) tok nt
 | 0,f,hn,_,_,tok,nt=>absurd hn (Nat.not_lt_zero _)
 | n+1,f,hn,hb,hs,tok,nt=>by
  intro box nb;have ih:=fun x (hx:x∈f.kids)=>form50_c n x (by have:=Fo.kid_size hx;omega) (by have:=Fo.kid_size hx;omega) (hs.kid x hx)
  have hkl:=f.kids_len;have hnm:=hs.name;have har:=arB_kid f.kind f.kids.length;have hkc:=kids50_c f (by omega);obtain⟨R,hR⟩:∃R,f.formE=R:=⟨_,rfl⟩
  rw[hR];rw[f.formE_eq] at hR;refine sI func152 ntmps152 fun Hb Ht=>?_
  refine sR ?_;simp;refine sN ?_;refine AL.cutP (l:=[_,_]) (stFoA f nb box tok nt) (badF f.kind f.name f.kids.length=false) ?_ fun hbad=>?_
  .by_cases c1:f.kind<1
   .have e:arB f.kind f.kids.length=false:=by rw[har];simp[kOk];omega
    simp only[badF,e,Bool.not_false,Bool.true_or,↓reduceIte] at hR;subst hR;try (simp[c1])
    repeat (first|(refine sR ?_;simp[c1])|(refine sC ?_;simp[c1])|(refine sX ?_;simp only[AU,↓reduceIte]))
    refine sT (sH Hb Ht ?_);simp
   .by_cases c2:12<f.kind
    .have e:arB f.kind f.kids.length=false:=by rw[har];simp[kOk];omega
     simp only[badF,e,Bool.not_false,Bool.true_or,↓reduceIte] at hR;subst hR;try (simp[c1,c2])
     repeat (first|(refine sR ?_;simp[c1,c2])|(refine sC ?_;simp[c1,c2])|(refine sX ?_;simp only[AU,↓reduceIte]))
     refine sT (sH Hb Ht ?_);simp
    .have hk:kOk f.kind=true:=by simp[kOk];omega
     rw[hk,Bool.true_and] at har;cases c3:kidB f.kind f.kids.length
     .rw[c3] at har;simp only[badF,har,Bool.not_false,Bool.true_or,↓reduceIte] at hR;subst hR;try (simp[c1,c2])
      repeat (first|(refine sR ?_;simp[c1,c2])|(refine sC ?_;simp[c1,c2])|(refine sX ?_;simp only[AU,↓reduceIte]))
      refine sD (hkc _ _) ?_;simp;try (simp[c1,c2,c3])
      repeat (first|(refine sR ?_;simp[c1,c2,c3])|(refine sC ?_;simp[c1,c2,c3])|(refine sX ?_;simp only[AU,↓reduceIte]))
      refine sT (sH Hb Ht ?_);simp
     .rw[c3] at har;by_cases c5:f.kind=1
      .have hb:badF f.kind f.name f.kids.length=false:=by unfold badF;rw[har];simp[c5]
       have b5:(f.kind != 1)=false:=by simp[c5]
       try (simp[c1,c2])
       repeat (first|(refine sR ?_;simp[c1,c2])|(refine sC ?_;simp[c1,c2])|(refine sX ?_;simp only[AU,↓reduceIte]))
       refine sD (hkc _ _) ?_;simp;try (simp[c1,c2,c3,b5])
       repeat (first|(refine sR ?_;simp[c1,c2,c3,b5])|(refine sC ?_;simp[c1,c2,c3,b5])|(refine sX ?_;simp only[AU,↓reduceIte]))
       refine sE ?_;exact⟨hb,wkA⟩
      .have b5:(f.kind != 1)=true:=by simpa using c5
       by_cases c4:f.name=⟨#[]⟩
       .have hs':=nm_nil.2 c4
        have hb:badF f.kind f.name f.kids.length=false:=by unfold badF;rw[har];simp[c4]
        try (simp[c1,c2])
        repeat (first|(refine sR ?_;simp[c1,c2])|(refine sC ?_;simp[c1,c2])|(refine sX ?_;simp only[AU,↓reduceIte]))
        refine sD (hkc _ _) ?_;simp;try (simp[c1,c2,c3,b5,hs'])
        repeat (first|(refine sR ?_;simp[c1,c2,c3,b5,hs'])|(refine sC ?_;simp[c1,c2,c3,b5,hs'])|(refine sX ?_;simp only[AU,↓reduceIte]))
        refine sE ?_;exact⟨hb,wkA⟩
       .have hs':f.name.toList.isEmpty=false:=by simpa using fun h=>c4 (nm_nil.1 h)
        have hs2:¬f.name.toList=[]:=fun h=>c4 (nm_nil.1 h)
        have hb:badF f.kind f.name f.kids.length=true:=by unfold badF;rw[har];simp[c4,c5]
        simp only[hb,↓reduceIte] at hR;subst hR;try (simp[c1,c2])
        repeat (first|(refine sR ?_;simp[c1,c2])|(refine sC ?_;simp[c1,c2])|(refine sX ?_;simp only[AU,↓reduceIte]))
        refine sD (hkc _ _) ?_;simp;try (simp[c1,c2,c3,b5,hs',hs2])
        repeat (first|(refine sR ?_;simp[c1,c2,c3,b5,hs',hs2])|(refine sC ?_;simp[c1,c2,c3,b5,hs',hs2])|(refine sX ?_;simp only[AU,↓reduceIte]))
        refine sT (sH Hb Ht ?_);simp
  .simp only[hbad,Bool.false_eq_true,↓reduceIte] at hR;simp only[stFoA];refine sN ?_;refine AL.cutP (l:=[_,_]) (stFoA f nb box tok nt) (¬(f.kind=1/\fatB f.name=false)) ?_ fun hat=>?_
   .by_cases c5:f.kind=1
    .have b5:(f.kind==1)=true:=by simpa using c5
     cases hn:nameB f.name
     .have ha:fatB f.name=false:=by simp[fatB,hn]
      rw[if_pos ⟨c5,ha⟩] at hR;subst hR;try (simp[b5])
      repeat (first|(refine sR ?_;simp[b5])|(refine sC ?_;simp[b5])|(refine sX ?_;simp only[AU,↓reduceIte]))
      refine sD (isName01_c f.name hnm _ _) ?_;simp;try (simp[b5,hn])
      repeat (first|(refine sR ?_;simp[b5,hn])|(refine sC ?_;simp[b5,hn])|(refine sX ?_;simp only[AU,↓reduceIte]))
      refine sT (sH Hb Ht ?_);simp
     .cases hm:memS wordsL f.name
      .have ha:fatB f.name=true:=by simp[fatB,hn,hm]
       try (simp[b5])
       repeat (first|(refine sR ?_;simp[b5])|(refine sC ?_;simp[b5])|(refine sX ?_;simp only[AU,↓reduceIte]))
       refine sD (isName01_c f.name hnm _ _) ?_;simp;try (simp[b5,hn])
       repeat (first|(refine sR ?_;simp[b5,hn])|(refine sC ?_;simp[b5,hn])|(refine sX ?_;simp only[AU,↓reduceIte]))
       refine sD (word50_c f.name _ _) ?_;simp;try (simp[b5,hn,hm])
       repeat (first|(refine sR ?_;simp[b5,hn,hm])|(refine sC ?_;simp[b5,hn,hm])|(refine sX ?_;simp only[AU,↓reduceIte]))
       refine sE ?_;exact⟨fun _=>ha,wkA⟩
      .have ha:fatB f.name=false:=by simp[fatB,hn,hm]
       rw[if_pos ⟨c5,ha⟩] at hR;subst hR;try (simp[b5])
       repeat (first|(refine sR ?_;simp[b5])|(refine sC ?_;simp[b5])|(refine sX ?_;simp only[AU,↓reduceIte]))
       refine sD (isName01_c f.name hnm _ _) ?_;simp;try (simp[b5,hn])
       repeat (first|(refine sR ?_;simp[b5,hn])|(refine sC ?_;simp[b5,hn])|(refine sX ?_;simp only[AU,↓reduceIte]))
       refine sD (word50_c f.name _ _) ?_;simp;try (simp[b5,hn,hm])
       repeat (first|(refine sR ?_;simp[b5,hn,hm])|(refine sC ?_;simp[b5,hn,hm])|(refine sX ?_;simp only[AU,↓reduceIte]))
       refine sT (sH Hb Ht ?_);simp
    .have b5:(f.kind==1)=false:=by simpa using c5
     try (simp[b5])
     repeat (first|(refine sR ?_;simp[b5])|(refine sC ?_;simp[b5])|(refine sX ?_;simp only[AU,↓reduceIte]))
     refine sE ?_;exact⟨fun h=>absurd h c5,wkA⟩
   .rw[if_neg hat] at hR;simp only[stFoA];repeat first|simp|refine sR ?_
    refine sN ?_;refine sL (stSh5 f nb box tok nt) (fun i=>i<=f.kids.length/\∀j,j<i->∀hj:j<f.kids.length,f.kids[j].formE=0) (fun i=>f.kids.length-i) 0 ⟨Nat.zero_le _,fun j hj=>absurd hj (Nat.not_lt_zero _)⟩ wkA ?_;rintro i S ⟨hi,h0⟩ hS;simp only[stSh5] at hS;subst hS;have hw:=sW (i:=i) (by omega);repeat first|simp|refine sR ?_|refine sC ?_
    refine⟨fun hlt=>?_,fun hge=>?_⟩
    .have ihx:=ih _ (List.getElem_mem hlt);have htake:=Fo.formL_take hlt h0;repeat first|simp[hlt,Fo.cells_eq]|refine sR ?_
     generalize hx:f.kids[i]=x at *;refine sD (ihx _ _) ?_;simp;by_cases he:x.formE=0
     .try (simp[he,hw])
      repeat (first|(refine sR ?_;simp[he,hw])|(refine sC ?_;simp[he,hw])|(refine sX ?_;simp only[AU,↓reduceIte]))
      refine sE ?_;refine⟨i+1,⟨hlt,fun j hj hj2=>?_⟩,by omega,wkA⟩;rcases Nat.lt_or_ge j i with h|h
      .exact h0 j h hj2
      .have:j=i:=by omega
       subst this;rw[hx];exact he
     .have he':(x.formE != 0)=true:=by simpa using he
      rw[if_pos he] at htake;rw[htake] at hR;subst hR;try (simp[he,he'])
      repeat (first|(refine sR ?_;simp[he,he'])|(refine sC ?_;simp[he,he'])|(refine sX ?_;simp only[AU,↓reduceIte]))
      refine sT (sH Hb Ht ?_);simp
    .refine sX ?_;simp only[AU,↓reduceIte];have hz:Fo.formL f.kids=0:=Fo.formL_none fun j hj=>h0 j (by omega) hj
     rw[hz] at hR;subst hR;repeat first|simp|refine sR ?_
     refine sT (sH Hb Ht ?_);simp
theorem shape50_c(f:Fo)(hb:f.size<=1000000)(hs:f.Sm):DC 86 [f.av] (I (shapeF f)):=by
 intro tok nt box nb;have h1:=form50_c _ f (Nat.lt_succ_self _) hb hs;have h2:=measure50_c _ f (Nat.lt_succ_self _) hb;have hd:=f.depth_le_size _ (Nat.lt_succ_self _);obtain⟨R,hR⟩:∃R,shapeF f=R:=⟨_,rfl⟩
 rw[hR];unfold shapeF at hR;generalize f.formE=e at *;refine sI func86 ntmps86 fun Hb Ht=>?_
 repeat first|simp|refine sR ?_
 refine sD (h1 _ _) ?_;simp;by_cases he:e=0
 .have b0:(e != 0)=false:=by simpa using he
  rw[if_neg (by simpa using he)] at hR;try (simp[b0])
  repeat (first|(refine sR ?_;simp[b0])|(refine sC ?_;simp[b0])|(refine sX ?_;simp only[AU,↓reduceIte]))
  refine sD (h2 _ _) ?_;simp;by_cases c1:(40:Int)<(f.size:Int)
  .rw[if_pos (by omega)] at hR;subst hR;try (simp[c1])
   repeat (first|(refine sR ?_;simp[c1])|(refine sC ?_;simp[c1])|(refine sX ?_;simp only[AU,↓reduceIte]))
   refine sT (sH Hb Ht ?_);simp
  .rw[if_neg (by omega)] at hR;by_cases c2:(8:Int)<(f.depth:Int)
   .rw[if_pos (by omega)] at hR;subst hR;try (simp[c1,c2])
    repeat (first|(refine sR ?_;simp[c1,c2])|(refine sC ?_;simp[c1,c2])|(refine sX ?_;simp only[AU,↓reduceIte]))
    refine sT (sH Hb Ht ?_);simp
   .rw[if_neg (by omega)] at hR;subst hR;try (simp[c1,c2])
    repeat (first|(refine sR ?_;simp[c1,c2])|(refine sC ?_;simp[c1,c2])|(refine sX ?_;simp only[AU,↓reduceIte]))
    refine sT (sH Hb Ht ?_);simp
 .have b0:(e != 0)=true:=by simpa using he
  rw[if_pos he] at hR;subst hR;try (simp[b0])
  repeat (first|(refine sR ?_;simp[b0])|(refine sC ?_;simp[b0])|(refine sX ?_;simp only[AU,↓reduceIte]))
  refine sT (sH Hb Ht ?_);simp
mutual
def Fo.left:Fo->Int->Int
 | .mk _ s c,m=>if 60<s.size then -1 else Fo.leftL c (m-1)
def Fo.leftL:List Fo->Int->Int
 | [],m=>m
 | x::r,m=>if 0<=m then Fo.leftL r (Fo.left x m) else m
end
theorem Fo.left_eq(c:Fo)(m:Int):c.left m=if 60<c.name.size then -1 else Fo.leftL c.kids (m-1):=by cases c;rw[Fo.left];rfl
theorem Fo.leftL_stop{l:List Fo}{m:Int}(h:¬0<=m):Fo.leftL l m=m:=by
 cases l with
 | nil=>rw[Fo.leftL]
 | cons x r=>rw[Fo.leftL,if_neg h]
theorem Fo.leftL_app:∀(l k:List Fo) (m:Int),Fo.leftL (l++k) m=Fo.leftL k (Fo.leftL l m)
 | [],k,m=>by simp[Fo.leftL]
 | x::r,k,m=>by
  by_cases h:0<=m
  .rw[List.cons_append,Fo.leftL,if_pos h,Fo.leftL_app r k,Fo.leftL,if_pos h]
  .rw[Fo.leftL_stop h,Fo.leftL_stop h,Fo.leftL_stop h]
theorem Fo.leftL_take{l:List Fo}{m:Int}{i:Nat}(h:i<l.length)(hg:0<=Fo.leftL (l.take i) m):Fo.leftL (l.take (i+1)) m=l[i].left (Fo.leftL (l.take i) m):=by
 rw[List.take_succ_eq_append_getElem h,Fo.leftL_app,Fo.leftL,if_pos hg,Fo.leftL]
theorem Fo.leftL_end{l:List Fo}{m:Int}{i:Nat}(hg:¬0<=Fo.leftL (l.take i) m):Fo.leftL l m=Fo.leftL (l.take i) m:=by
 conv=>lhs;rw[<-List.take_append_drop i l]
 rw[Fo.leftL_app,Fo.leftL_stop hg]
theorem Fo.left_le:∀(n:Nat) (c:Fo),c.size<n->∀m,0<=m->(-1<=c.left m/\c.left m<m)/\(0<=c.left m->(c.size:Int)<=m-c.left m)
 | 0,c,h=>absurd h (Nat.not_lt_zero _)
 | n+1,c,h=>fun m h0=>by
  have key:∀(l:List Fo) (m:Int),(∀x∈l,x.size<n) -> -1<=m->(-1<=Fo.leftL l m/\Fo.leftL l m<=m)/\(0<=Fo.leftL l m->(Fo.sizeL l:Int)<=m-Fo.leftL l m):=by
   intro l;induction l with
   | nil=>intro m _ h1;simp[Fo.leftL,Fo.sizeL];omega
   | cons x r ih =>
    intro m hx h1;by_cases hm:0<=m
    .rw[Fo.leftL,if_pos hm];have h2:=Fo.left_le n x (hx x (by simp)) m hm;have h3:=ih (x.left m) (fun y hy=>hx y (by simp[hy])) (by omega);simp only[Fo.sizeL];omega
    .rw[Fo.leftL_stop hm];omega
  rw[c.left_eq];have:=key c.kids (m-1) (fun x hx=>by have:=Fo.kid_size hx;omega) (by omega)
  rw[c.size_eq];split
  .omega
  .omega
theorem Fo.leftL_le:∀(l:List Fo) (m:Int), -1<=m->(-1<=Fo.leftL l m/\Fo.leftL l m<=m)/\(0<=Fo.leftL l m->(Fo.sizeL l:Int)<=m-Fo.leftL l m)
 | [],m,h1=>by simp[Fo.leftL,Fo.sizeL];omega
 | x::r,m,h1=>by
  by_cases hm:0<=m
  .rw[Fo.leftL,if_pos hm];have h2:=Fo.left_le _ x (Nat.lt_succ_self _) m hm;have h3:=Fo.leftL_le r (x.left m) (by omega);simp only[Fo.sizeL];omega
  .rw[Fo.leftL_stop hm];omega
def stLf5(c:Fo)(m:Int)(nb:Nat)(box:Bxs)(tok:Tks)(nt:Nat)(i:Nat):AS :=
 ⟨tl [(5,I i),(1,I (Fo.leftL (c.kids.take i) (m-1))),(2,.ptr (nb+2) 0 0)],lb nb box [(2,[c.row])],tok,nt⟩
set_option maxRecDepth 100000 in
theorem left50_c:∀(n:Nat) (c:Fo),c.size<n->c.Sm->∀(m:Int),0<=m->m<=200->∀(tok:Tks) (nt:Nat),DCall prog 115 [c.av,I m] tok nt (I (c.left m)) tok nt
 | 0,c,hn,_,m,_,_,tok,nt=>absurd hn (Nat.not_lt_zero _)
 | n+1,c,hn,hc,m,h0,h1,tok,nt=>by
  intro box nb;have ih:=fun x (hx:x∈c.kids)=>left50_c n x (by have:=Fo.kid_size hx;omega) (hc.kid x hx)
  have hl:=hc.len;have hR:=c.left_eq m;have hwm:IntKind.i64.wrap (m-1)=m-1:=wrap_in (by omega) (by omega)
  have hbd:∀i,Fo.leftL (c.kids.take i) (m-1)<=200:=fun i=>by
   have:=(Fo.leftL_le (c.kids.take i) (m-1) (by omega)).1
   omega
  refine sI func115 ntmps115 fun Hb Ht=>?_
  repeat first|simp|refine sR ?_
  by_cases e1:60<c.name.size
  .have e1':(60:Int)<c.name.size:=by omega
   rw[if_pos e1] at hR;try (simp[e1'])
   repeat (first|(refine sR ?_;simp[e1'])|(refine sC ?_;simp[e1'])|(refine sX ?_;simp only[AU,↓reduceIte]))
   refine sT (sH Hb Ht ?_);simp[hR]
  .have e1':¬(60:Int)<c.name.size:=by omega
   rw[if_neg e1] at hR;try (simp[e1',hwm])
   repeat (first|(refine sR ?_;simp[e1',hwm])|(refine sC ?_;simp[e1',hwm])|(refine sX ?_;simp only[AU,↓reduceIte]))
   refine sN ?_;refine sL (stLf5 c m nb box tok nt) (fun i=>i<=c.kids.length) (fun i=>c.kids.length-i) 0 (Nat.zero_le _) (wM (nr _) rfl (by simp[ToL,lk,Fo.leftL]) (by simp[BoxL,lk])) ?_;rintro i S hi hS;simp only[stLf5] at hS;subst hS;have hw:=sW (i:=i) (by omega);by_cases hlt:i<c.kids.length
   .by_cases hg:0<=Fo.leftL (c.kids.take i) (m-1)
    .have hst:=Fo.leftL_take hlt hg;have ihx:=ih _ (List.getElem_mem hlt) _ hg (hbd i);generalize Fo.leftL (c.kids.take i) (m-1)=y at *;repeat first|simp[hlt,hg]|refine sR ?_
     refine sC ?_;simp;repeat first|simp[hlt,Fo.cells_eq]|refine sR ?_
     generalize c.kids[i]=x at *;refine sD (ihx _ _) ?_;simp;try (simp[hw])
     repeat (first|(refine sR ?_;simp[hw])|(refine sC ?_;simp[hw])|(refine sX ?_;simp only[AU,↓reduceIte]))
     refine sE ?_;exact⟨i+1,hlt,by omega,wM (nr _) rfl (by simp[ToL,lk,hst]) (by simp[BoxL,lk])⟩
    .rw[Fo.leftL_end hg] at hR;repeat first|simp[hlt,hg]|refine sR ?_|refine sC ?_
     refine sX ?_;simp only[AU,↓reduceIte];repeat first|simp|refine sR ?_
     refine sT (sH Hb Ht ?_);simp[hR]
   .have:i=c.kids.length:=by omega
    subst this;rw[List.take_length];repeat first|simp[hlt]|refine sR ?_|refine sC ?_
    refine sX ?_;simp only[AU,↓reduceIte];repeat first|simp|refine sR ?_
    refine sT (sH Hb Ht ?_);simp[hR]
def Fo.few(f:Fo):Bool:=decide (0<=f.left 100)
theorem few50_c(f:Fo)(hs:f.Sm):DC 51 [f.av] (B f.few):=by
 intro tok nt box nb;have h1:=left50_c _ f (Nat.lt_succ_self _) hs 100 (by decide) (by decide);unfold Fo.few;generalize f.left 100=x at *;refine sI func51 ntmps51 fun Hb Ht=>?_
 repeat first|simp|refine sR ?_
 refine sD (h1 _ _) ?_;repeat first|simp|refine sR ?_
 refine sT (sH Hb Ht ?_);simp
theorem few_size{f:Fo}(h:f.few=true):f.size<=100:=by
 have h0:0<=f.left 100:=of_decide_eq_true h
 have:=(Fo.left_le _ f (Nat.lt_succ_self _) 100 (by decide)).2 h0
 omega
def hasCo(L:List Co)(s:ByteArray):Bool:=anyB (fun c:Co=>decide (c.name=s)) L
def plCo(L:List Co)(s:ByteArray):Int:=if hasCo L s=true then (L.findIdx (fun c:Co=>decide (c.name=s)):Nat) else -1
theorem plCo_nn(L:List Co)(s:ByteArray):decide (0<=plCo L s)=hasCo L s:=by
 unfold plCo;cases h:hasCo L s
 .simp
 .simp
 
theorem namedT1_c(q:Co)(s:ByteArray)(box:Bxs)(nb k:Nat)(tok:Tks)(nt:Nat)(h:box k=some [[Sb s]]):
  ACalls prog 151 [q.av,.ptr k 0 0] ⟨box,nb,tok,nt⟩ fun v m=>v=B (decide (q.name=s))/\m=⟨box,nb,tok,nt⟩:=by
 refine sI func151 ntmps151 fun Hb Ht=>?_
 have kn:=key_lt Hb h;have e:=seq_dec q.name s;repeat first|simp[lO kn,h]|refine sR ?_
 refine sT (sH Hb Ht ?_);simp[e]
theorem namedT_c(L:List Co)(s:ByteArray)(hx:L.length<=1000000):DC 84 [.d (cosD L),Sb s] (I (plCo L s)):=by
 intro tok nt box nb;have hi:=fun bx nb' k (hk:bx k=some [[Sb s]])=>indexFuncCo_c L 151 [.ptr k 0 0] (fun q=>decide (q.name=s)) hx bx nb' tok nt (by simp[hk]) (fun x _ box' nb'' he=>namedT1_c x s box' nb'' _ tok nt (he _ _ hk))
 have key:(if anyB (fun q:Co=>decide (q.name=s)) L=true then ((L.findIdx (fun q:Co=>decide (q.name=s)):Nat):Int) else -1)=plCo L s:=rfl
 rw[key] at hi;generalize plCo L s=R at *;refine sI func84 ntmps84 fun Hb Ht=>?_
 repeat first|simp|refine sR ?_
 refine Stop.of_b (hi _ _ _ (by simp[lb_at,lk])) ?_;repeat first|simp|refine sR ?_
 refine sT (sH Hb Ht ?_);simp
abbrev rSt(l:List ByteArray):List (List D):=l.map fun s=>[D.raw (.string s)]
theorem Fo.ats_eq(f:Fo):f.ats=if f.kind=1 then f.name::Fo.atsL f.kids else Fo.atsL f.kids:=by cases f;rw[Fo.ats];rfl
theorem Fo.atsL_app:∀a b:List Fo,Fo.atsL (a++b)=Fo.atsL a++Fo.atsL b
 | [],b=>by simp[Fo.atsL]
 | x::r,b=>by simp[Fo.atsL,Fo.atsL_app r b]
theorem Fo.atsL_take{l:List Fo}{i:Nat}(h:i<l.length):Fo.atsL (l.take (i+1))=Fo.atsL (l.take i)++l[i].ats:=by
 rw[List.take_succ_eq_append_getElem h,Fo.atsL_app];simp[Fo.atsL]
theorem Fo.ats_len:∀(n:Nat) (f:Fo),f.size<n->f.ats.length<=f.size
 | 0,f,h=>absurd h (Nat.not_lt_zero _)
 | n+1,f,h=>by
  have key:∀l:List Fo,Fo.sizeL l<n->(Fo.atsL l).length<=Fo.sizeL l:=by
   intro l;induction l with
   | nil=>intro _;simp[Fo.atsL]
   | cons x r ih =>
    intro hl;simp only[Fo.sizeL] at hl;have h1:=Fo.ats_len n x (by omega);have h2:=ih (by omega);simp only[Fo.sizeL,Fo.atsL,List.length_append];omega
  rw[f.size_eq] at h ⊢;rw[f.ats_eq];have:=key f.kids (by omega)
  split
  .simp;omega
  .omega
def QAt(E:List ByteArray)(box:Bxs)(nb:Nat)(mtok:Tks)(nt0 nt:Nat)(v:AV)(m:AMem):Prop :=
 ∃sz own tok nt',v=.osl sz (rSt E) own/\m=⟨box,nb,tok,nt'⟩/\TK mtok nt0 tok nt' [own]/\nt<=nt'/\(sz=1∨E=[]/\own=.full)
def atX(es:List ByteArray)(l:List Fo)(i:Nat):List ByteArray:=es++Fo.atsL (l.take i)
theorem atX_succ{es:List ByteArray}{l:List Fo}{i:Nat}(h:i<l.length):atX es l (i+1)=atX es l i++l[i].ats:=by
 unfold atX;rw[Fo.atsL_take h,List.append_assoc]
structure AtA where
 i:Nat
 sz:Nat
 own:Own
 tok:Nat->Bool
 nt:Nat
def stAtF(f:Fo)(es:List ByteArray)(nb:Nat)(box:Bxs)(a:AtA):AS :=
 ⟨tl [(16,.d (fos f.kids)),(17,I f.kids.length),(18,I a.i),(1,.osl a.sz (rSt (atX es f.kids a.i)) a.own),(2,.ptr (nb+2) 0 0)],lb nb box [(2,[f.row])],a.tok,a.nt⟩
def stAt0(f:Fo)(es:List ByteArray)(nb:Nat)(box:Bxs)(a:AtA):AS :=
 ⟨tl [(1,.osl a.sz (rSt es) a.own),(2,.ptr (nb+2) 0 0)],lb nb box [(2,[f.row])],a.tok,a.nt⟩
set_option maxRecDepth 100000 in
theorem atomsT_c(mtok:Tks)(nt0:Nat):∀(n:Nat) (f:Fo),f.size<n->f.size<=1000000->∀(es:List ByteArray) (own:Own) (sz:Nat) (tok:Tks) (nt:Nat),TK mtok nt0 tok nt [own]->(sz=1∨es=[]/\own=.full)->es.length+f.size<=2000000 ->
  ∀(box:Bxs) (nb:Nat),ACalls prog 85 [f.av,.osl sz (rSt es) own] ⟨box,nb,tok,nt⟩ (QAt (es++f.ats) box nb mtok nt0 nt)
 | 0,f,hn,_=>absurd hn (Nat.not_lt_zero _)
 | n+1,f,hn,hb=>by
  intro es own sz tok nt htk hsz hle box nb;have ih:=fun x (hx:x∈f.kids)=>atomsT_c mtok nt0 n x (by have:=Fo.kid_size hx;omega) (by have:=Fo.kid_size hx;omega)
  have hkl:=f.kids_len;obtain⟨R,hR⟩:∃R,f.ats=R:=⟨_,rfl⟩
  rw[hR];rw[f.ats_eq] at hR;have hsq:f.size=1+Fo.sizeL f.kids:=f.size_eq
  -- behind the atom's own name
  obtain⟨es0,hes0⟩:∃es0,(if f.kind=1 then es++[f.name] else es)=es0:=⟨_,rfl⟩
  have hR2:es++R=es0++Fo.atsL f.kids:=by
   rw[<-hR,<-hes0];split<;>simp
  rw[hR2];have hlast:atX es0 f.kids f.kids.length=es0++Fo.atsL f.kids:=by rw[atX,List.take_length]
  generalize es0++Fo.atsL f.kids=E1 at *;have hl0:es0.length<=es.length+1:=by rw[<-hes0];split<;>simp
  refine sI func85 ntmps85 fun Hb Ht=>?_
  refine sR ?_;simp;refine sN ?_;refine AL.cut (l:=[_,_]) (stAt0 f es0 nb box) (fun a=>TK mtok nt0 a.tok a.nt [a.own]/\nt<=a.nt/\(a.sz=1∨es0=[]/\a.own=.full)) ?_ ?_
  .by_cases c1:f.kind=1
   .have b1:(f.kind==1)=true:=by simpa using c1
    rw[if_pos c1] at hes0;subst hes0;try (simp[b1])
    repeat (first|(refine sR ?_;simp[b1])|(refine sC ?_;simp[b1])|(refine sX ?_;simp only[AU,↓reduceIte]))
    refine⟨⟨hsz.imp id (fun h=>⟨h.1,h.2⟩),by omega,htk.live⟩,?_⟩;try (simp[b1])
    repeat (first|(refine sR ?_;simp[b1])|(refine sC ?_;simp[b1])|(refine sX ?_;simp only[AU,↓reduceIte]))
    refine sE ?_;exact⟨⟨0,1,.tok nt,_,nt+1⟩,⟨htk.app,Nat.le_succ _,rfl⟩,wM (Nat.le_succ _) rfl (by simp[ToL,lk]) (by simp[BoxL,lk])⟩
   .have b1:(f.kind==1)=false:=by simpa using c1
    rw[if_neg c1] at hes0;subst hes0;try (simp[b1])
    repeat (first|(refine sR ?_;simp[b1])|(refine sC ?_;simp[b1])|(refine sX ?_;simp only[AU,↓reduceIte]))
    refine sE ?_;exact⟨⟨0,sz,own,tok,nt⟩,⟨htk,nr _,hsz⟩,wkA⟩
  .rintro⟨_,sz1,own1,tok1,nt1⟩ ⟨htk1,hle1,hsz1⟩;simp only at htk1 hle1 hsz1;simp only[stAt0];repeat first|simp|refine sR ?_
   refine sN ?_;refine sL (stAtF f es0 nb box) (fun a=>a.i<=f.kids.length/\TK mtok nt0 a.tok a.nt [a.own]/\nt<=a.nt/\(a.sz=1∨atX es0 f.kids a.i=[]/\a.own=.full)) (fun a=>f.kids.length-a.i) ⟨0,sz1,own1,tok1,nt1⟩ ⟨Nat.zero_le _,htk1,hle1,by simpa[atX,Fo.atsL] using hsz1⟩ (wM hle1 rfl (by simp[ToL,lk,atX,Fo.atsL]) (by simp[BoxL,lk])) ?_;rintro⟨i,sz2,own2,tok2,nt2⟩ S ⟨hi,htk2,hle2,hsz2⟩ hS;simp only[stAtF] at hS hi htk2 hle2 hsz2;subst hS;have hw:=sW (i:=i) (by omega);repeat first|simp|refine sR ?_|refine sC ?_
   refine⟨fun hlt=>?_,fun hge=>?_⟩
   .have hst:=atX_succ (es:=es0) hlt;have hal:(Fo.atsL (f.kids.take i)).length+f.kids[i].size<=Fo.sizeL f.kids:=by
     have h1:=Fo.sizeL_take hlt;have h2:=Fo.sizeL_take_le f.kids (i+1);have h3:∀l:List Fo,(Fo.atsL l).length<=Fo.sizeL l:=by
      intro l;induction l with
      | nil=>simp[Fo.atsL]
      | cons x r ih =>
       have:=Fo.ats_len _ x (Nat.lt_succ_self _)
       simp only[Fo.atsL,Fo.sizeL,List.length_append];omega
     have:=h3 (f.kids.take i)
     omega
    have ihx:=ih _ (List.getElem_mem hlt) (atX es0 f.kids i) own2 sz2 tok2 nt2 htk2 hsz2 (by simp only[atX,List.length_append];omega);repeat first|simp[hlt,Fo.cells_eq]|refine sR ?_
    generalize f.kids[i]=x at *;generalize atX es0 f.kids i=E0 at *;refine Stop.of_a (ihx _ _) ?_;rintro v m' ⟨sz3,own3,tok3,nt3,rfl,rfl,htk3,hle3,hsz3⟩;repeat first|simp[hw]|refine sR ?_
    refine sE ?_;refine⟨⟨i+1,sz3,own3,tok3,nt3⟩,⟨hlt,htk3,by simp only;omega,?_⟩,by simp only;omega,wM (Nat.le_trans hle2 hle3) rfl (by simp[ToL,lk,hst]) (by simp[BoxL,lk])⟩;simp only[hst];exact hsz3
   .refine sX ?_;simp only[AU,↓reduceIte];have:i=f.kids.length:=by omega
    subst this;rw[hlast] at hsz2 ⊢;repeat first|simp|refine sR ?_
    refine sT ?_;try simp only[AU]
    exact⟨by simp,(Fin.own (av:=.osl sz2 (rSt E1) own2) (by simp[resAs,resA];rfl) Hb rfl hle2 (by simp)).mono fun v m hq=>⟨sz2,own2,tok2,nt2,hq.1,hq.2,htk2,hle2,hsz2⟩⟩
end Go.AM
