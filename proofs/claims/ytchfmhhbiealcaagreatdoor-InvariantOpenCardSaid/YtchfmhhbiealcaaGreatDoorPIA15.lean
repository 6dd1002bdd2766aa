/-
 Parts of the proof, as merged from many texts: a machine over data, what the functions compute, plain laws.
-/
import Derived.Test.YtchfmhhbiealcaaGreatDoorPIA14
set_option linter.unusedSimpArgs false
set_option linter.unusedVariables false
namespace Go.AM
open Go Go.Proofs
open Go.Proofs.Tryz
theorem aHB{t:Ty}{r:Ru}{o:Ov}(hr:aPN t r)(hm:Emb r.rg o.g o.l):(lV r o).1.Fit:=by
 unfold lV;split
 .exact⟨by simp,by simp⟩
 .rename_i hd;have hd:jF o.g (kpI r) o.l=false:=by simpa using hd
  have hz:VP o.g (eG r o):=Sp.z_vp (s:=r.sp) hr.sp hm hd
  obtain⟨l1,l2⟩:=hz.len;obtain⟨g1,g2⟩:=aIo r o;have c1:=aLX r.k.nodes r.lg.nodes.length;have c2:=aLX r.k.edges r.lg.edges.length;have v1:=(bG hr.hl.va).1;have v2:=(bG hm.vm.vb).1;exact⟨by show (xN r o).nodes.length<=_;omega,by show (xN r o).edges.length<=_;omega⟩
theorem qB{t:Ty}{L:List Ru}{l:List Co}(h:bT t L l)(hT:tyE t=0)(hru:∀r∈L,ruE t r=0)(hL:L.length<=6)(hl:l.length<=8):tL (iX t L l).1:=by
 unfold iX;split
 .exact⟨by simp,fun d hd=>absurd hd (by simp)⟩
 .refine⟨?_,fun d hd=>?_⟩
  .have h1:=aBN h L.length;have h2:L.length*(l.length*1000000)<=6*(8*1000000):=Nat.mul_le_mul hL (Nat.mul_le_mul_right _ hl)
   show (duL t L l L.length).length<=_
   omega
  .obtain⟨i,k,n,hi,hk,hn,rfl⟩:=aMY.1 hd;exact aHB (aJl hT (hru _ (List.getElem_mem hi))) (aBK (xI (List.getElem_mem hn))).1
theorem jL{t:Ty}{L:List Ru}{l:List Co}(h:bT t L l):tL (dX t L l).1:=by
 unfold dX;split
 .exact⟨by simp,fun d hd=>absurd hd (by simp)⟩
 .rename_i h1;obtain⟨hT,hru,_,h6,h8⟩:=kP (by simpa using h1:fL t L l=0);exact qB h hT hru h6 h8
theorem aMW(c:Co)(hc:c.Fit)(hx:c.exts=[]):DC 45 [c.av] c.av:=by
 intro tok nt box nb;have c1:=gI c.g.nodes hc.g.n;have c2:=aBS c.g.edges hc.g.e;refine sI func45 ntmps45 fun Hb Ht=>?_
 repeat first|simp|refine sR ?_
 refine sD (c1 _ _) ?_;repeat first|simp|refine sR ?_
 refine sD (c2 _ _) ?_;simp;have htk:=(TK.start Ht).full.app.full.app;try (simp)
 repeat ((first|refine sR ?_|refine sC ?_|refine sX ?_);simp)
 refine sT (sG Hb Ht htk.old htk.le ?_);simp[hx,xts]
theorem aGT(t:Ty)(ht:t.Fit)(g:Gr)(hg:g.Fit)(c:Co)(hc:c.g.Fit)(box:Bxs)(nb k1 k2:Nat)(tok:Tks)(nt:Nat)(h1:box k1=some [fD t])(h2:box k2=some [aCF g]):
  aD prog 86 [c.av,.ptr k1 0 0,.ptr k2 0 0] ⟨box,nb,tok,nt⟩ fun v m=>v=B (nP t g c)/\m=⟨box,nb,tok,nt⟩:=by
 have hf:=aDf t ht c.g g hc hg true;have hfs:nP t g c=decide ((mX t c.g g true).2=0):=rfl
 rw[hfs];refine sI func86 ntmps86 fun Hb Ht=>?_
 have n1:=bC Hb h1;have n2:=bC Hb h2;try (simp[lO n1,h1,lO n2,h2])
 repeat ((first|refine sR ?_|refine sC ?_|refine sX ?_);simp[lO n1,h1,lO n2,h2])
 refine sD (hf _ _) ?_;simp;generalize mX t c.g g true=F at *;have hb:(F.2==0)=decide (F.2=0):=rfl
 try (simp)
 repeat ((first|refine sR ?_|refine sC ?_|refine sX ?_);simp)
 refine sT (sH Hb Ht ?_);simp[hb]
theorem qG(t:Ty):∀(xs ys:List Ob) (l:List Co),eT t l (xs++ys)=if (eT t l xs).2≠0 then eT t l xs else eT t (eT t l xs).1 ys
 | [],ys,l=>by simp[eT]
 | o::r,ys,l=>by
  rw[List.cons_append,eT,eT];split
  .exact qG t r ys l
  .split
   .simp
   .exact qG t r ys _
theorem qQ{t:Ty}:∀{xs:List Ob} {l:List Co},(eT t l xs).2≠0->eT t l xs=([],3)
 | [],l,h=>absurd rfl h
 | o::r,l,h=>by
  rw[eT] at h ⊢;split at h
  .rename_i h1;rw[if_pos h1];exact qQ h
  .rename_i h1;rw[if_neg h1];split at h
   .rename_i h2;rw[if_pos h2]
   .rename_i h2;rw[if_neg h2];exact qQ h
theorem nK{t:Ty}:∀{xs:List Ob} {l:List Co},l.length<=8->(eT t l xs).1.length<=8
 | [],l,h=>h
 | o::r,l,h=>by
  rw[eT];split
  .exact nK h
  .split
   .simp
   .exact nK (by simp;omega)
theorem nF{t:Ty}:∀{xs:List Ob} {l:List Co},l.length<=8->(∀c∈l,c.Fit)->(∀o∈xs,o.g.Fit)->∀c∈(eT t l xs).1,c.Fit
 | [],l,_,h,_,c,hc=>h c hc
 | o::r,l,hl,h,ho,c,hc=>by
  rw[eT] at hc;split at hc
  .exact nF hl h (fun x hx=>ho x (by simp[hx])) c hc
  .split at hc
   .simp at hc
   .refine nF (by simp;omega) (fun x hx=>?_) (fun x hx=>ho x (by simp[hx])) c hc;rcases List.mem_append.1 hx with hx|hx
    .exact h x hx
    .rw[List.mem_singleton.1 hx];have hs:=(aIx l.length (by omega)).2;exact⟨by show (sNm l.length).size<=_;omega,ho o (by simp),Nat.zero_le _,fun y hy=>absurd hy (by simp[aKq])⟩
def QLo(R:List Co × Int)(box:Bxs)(nb:Nat)(mtok:Tks)(nt0:Nat)(v:AV)(m:bH):Prop :=
 ∃tok nt,m=⟨box,nb,tok,nt⟩/\((R.2=0/\∃own,v=.tup [.osl 5 (rCo R.1) own,I 0]/\TK mtok nt0 tok nt [own])∨R.2≠0/\v=.tup [.osl 0 [] .full,I R.2]/\TK mtok nt0 tok nt [])
def aOD(t:Ty)(l:List Co)(os:List Ob)(nb:Nat)(box:Bxs)(x:DuA):AS :=
 ⟨tl [(13,I x.i),(12,I os.length),(11,.d (sQ os)),(1,.osl 5 (rCo (eT t l (os.take x.i)).1) x.o),(3,.ptr (nb+3) 0 0)],lb nb box [(3,[fD t])],x.tok,x.nt⟩
def aPR(t:Ty)(L:List Ru)(l:List Co)(nb:Nat)(box:Bxs)(tok:Tks)(nt:Nat)(i:Nat):AS :=
 ⟨tl [(9,I i),(1,.d (eS L)),(2,.d (bS l)),(3,.ptr (nb+3) 0 0)],lb nb box [(3,[fD t])],tok,nt⟩
def aPO(t:Ty)(l:List Co)(nb:Nat)(box:Bxs)(tok:Tks)(nt:Nat)(i:Nat):AS :=
 ⟨tl [(11,I i),(2,.d (bS l)),(3,.ptr (nb+3) 0 0)],lb nb box [(3,[fD t])],tok,nt⟩
set_option maxRecDepth 100000 in
theorem zO(t:Ty)(L:List Ru)(l:List Co)(h:bT t L l)(hL:L.length<=1000000)(hl:l.length<=1000000):DC 39 [t.av,.d (eS L),.d (bS l)] (I (fL t L l)):=by
 intro tok nt box nb;have hv:=kD t h.t h.t.hM;obtain⟨R,hR⟩:∃R,fL t L l=R:=⟨_,rfl⟩
 rw[hR];refine sI func39 ntmps39 fun Hb Ht=>?_
 repeat first|simp|refine sR ?_
 refine sD (hv _ _) ?_;simp;by_cases e0:tyE t=0
 case neg =>
  have:R=tyE t:=by rw[<-hR];unfold fL;rw[if_pos e0]
  subst this;try (simp[e0])
  repeat ((first|refine sR ?_|refine sC ?_|refine sX ?_);simp[e0])
  refine sT (sH Hb Ht ?_);simp
 by_cases c1:6<L.length
 .have:R=3:=by rw[<-hR];unfold fL;rw[if_neg (by simp[e0]),if_pos (.inl c1)]
  subst this;have b1:(6:Int)<L.length:=by omega
  try (simp[e0,b1])
  repeat ((first|refine sR ?_|refine sC ?_|refine sX ?_);simp[e0,b1])
  refine sT (sH Hb Ht ?_);simp
 by_cases c2:8<l.length
 .have:R=3:=by rw[<-hR];unfold fL;rw[if_neg (by simp[e0]),if_pos (.inr c2)]
  subst this;have b1:¬(6:Int)<L.length:=by omega
  have b2:(8:Int)<l.length:=by omega
  try (simp[e0,b1,b2])
  repeat ((first|refine sR ?_|refine sC ?_|refine sX ?_);simp[e0,b1,b2])
  refine sT (sH Hb Ht ?_);simp
 have b1:¬(6:Int)<L.length:=by omega
 have b2:¬(8:Int)<l.length:=by omega
 have hc:¬(6<L.length∨8<l.length):=by omega
 try (simp[e0,b1,b2])
 repeat ((first|refine sR ?_|refine sC ?_|refine sX ?_);simp[e0,b1,b2])
 refine sN ?_;refine sL (aPR t L l nb box tok nt) (fun i=>i<=L.length/\aA (rL t L) i=0) (fun i=>L.length-i) 0 ⟨Nat.zero_le _,rfl⟩ wkA ?_;rintro i S ⟨hi,hok⟩ hS;simp only[aPR] at hS;subst hS;have hw:=sW (i:=i) (by omega);by_cases hlt:i<L.length
 .have hg:=fun {e:Int} he hne=>aHk (l:=l) (e:=e) e0 hc hok hlt he hne
  have hfr:=h.L _ (List.getElem_mem hlt);have hat:rL t L i=ruE t L[i]:=by unfold rL;rw[List.getElem?_eq_getElem hlt]
  have hget:=xQ hlt;obtain⟨r,hr⟩:∃r,L[i]=r:=⟨_,rfl⟩
  rw[hr] at hfr hat hget;simp only[hr] at hg;have hst:=fT r hfr;try (simp[hlt,hget,Ru.rowK,hr])
  repeat ((first|refine sR ?_|refine sC ?_|refine sX ?_);simp[hlt,hget,Ru.rowK,hr])
  refine sD (hst _ _) ?_;simp;by_cases e1:cN r=0
  case neg =>
   have:=hg (show ruE t r=cN r by unfold ruE;rw[if_pos e1]) e1
   rw[hR] at this;subst this;have hb:(cN r != 0)=true:=by simp[e1]
   try (simp[hb])
   repeat ((first|refine sR ?_|refine sC ?_|refine sX ?_);simp[hb])
   refine sT (sH Hb Ht ?_);simp
  obtain⟨s1,s2,s3⟩:=gD e1;have hl1:=aAh t h.t r.lg hfr.lg (fun e he=>aE s2 e he);have hl2:=aAh t h.t r.rg hfr.rg (fun e he=>aE s3 e he);try (simp[e1,hlt,hget,hr,Ru.rowK])
  repeat ((first|refine sR ?_|refine sC ?_|refine sX ?_);simp[e1,hlt,hget,hr,Ru.rowK])
  refine sD (hl1 _ _) ?_;simp;cases g1:dB t r.lg
  .have:=hg (show ruE t r=13 by unfold ruE;rw[if_neg (by simp[e1]),if_neg (by simp[g1])]) (by decide)
   rw[hR] at this;subst this;try (simp)
   repeat ((first|refine sR ?_|refine sC ?_|refine sX ?_);simp)
   refine sT (sH Hb Ht ?_);simp
  try (simp[hlt,hget,hr,Ru.rowK])
  repeat ((first|refine sR ?_|refine sC ?_|refine sX ?_);simp[hlt,hget,hr,Ru.rowK])
  refine sD (hl2 _ _) ?_;simp;cases g2:dB t r.rg
  .have:=hg (show ruE t r=13 by unfold ruE;rw[if_neg (by simp[e1]),if_pos g1,if_neg (by simp[g2])]) (by decide)
   rw[hR] at this;subst this;try (simp)
   repeat ((first|refine sR ?_|refine sC ?_|refine sX ?_);simp)
   refine sT (sH Hb Ht ?_);simp
  have hz:ruE t r=0:=by unfold ruE;rw[if_neg (by simp[e1]),if_pos g1,if_pos g2]
  try (simp[hw])
  repeat ((first|refine sR ?_|refine sC ?_|refine sX ?_);simp[hw])
  refine sE ?_;refine⟨i+1,⟨hlt,?_⟩,by omega,wkA⟩;simp only[aA,hok,hat,↓reduceIte,hz]
 .have:i=L.length:=by omega
  subst this;try (simp)
  repeat ((first|refine sR ?_|refine sC ?_|refine sX ?_);simp)
  refine sN ?_;refine sL (aPO t l nb box tok nt) (fun i=>i<=l.length/\aA (wL t l) i=0) (fun i=>l.length-i) 0 ⟨Nat.zero_le _,rfl⟩ wkA ?_;rintro j S ⟨hj,hokc⟩ hS;simp only[aPO] at hS;subst hS;have hw:=sW (i:=j) (by omega);by_cases hlt:j<l.length
  .have hg:=fun {e:Int} he hne=>aHU (e:=e) e0 hc hok hokc hlt he hne
   have hfc:=h.l _ (List.getElem_mem hlt);have hat:wL t l j=coE t l[j]:=by unfold wL;rw[List.getElem?_eq_getElem hlt]
   have hget:l[j]?=some l[j]:=List.getElem?_eq_getElem hlt
   obtain⟨c,hcc⟩:∃c,l[j]=c:=⟨_,rfl⟩
   rw[hcc] at hfc hat hget;simp only[hcc] at hg;have hcv:=aCS t h.t c hfc;try (simp[hlt,hget,hcc])
   repeat ((first|refine sR ?_|refine sC ?_|refine sX ?_);simp[hlt,hget,hcc])
   refine sD (hcv _ _) ?_;simp;by_cases e1:cnE t c=0
   .by_cases e2:c.kind=1
    .have hz:coE t c=0:=by unfold coE;rw[if_neg (by simp[e1]),if_pos e2]
     try (simp[e1,e2,hw,hlt,hget,hcc])
     repeat ((first|refine sR ?_|refine sC ?_|refine sX ?_);simp[e1,e2,hw,hlt,hget,hcc])
     refine sE ?_;refine⟨j+1,⟨hlt,?_⟩,by omega,wkA⟩;simp only[aA,hokc,hat,↓reduceIte,hz]
    .have b3:(c.kind != 1)=true:=by simp[e2]
     have:=hg (show coE t c=8 by unfold coE;rw[if_neg (by simp[e1]),if_neg e2]) (by decide)
     rw[hR] at this;subst this;try (simp[e1,b3,hlt,hget,hcc])
     repeat ((first|refine sR ?_|refine sC ?_|refine sX ?_);simp[e1,b3,hlt,hget,hcc])
     refine sT (sH Hb Ht ?_);simp
   .have b3:(cnE t c != 0)=true:=by simp[e1]
    have:=hg (show coE t c=cnE t c by unfold coE;rw[if_pos e1]) e1
    rw[hR] at this;subst this;try (simp[b3])
    repeat ((first|refine sR ?_|refine sC ?_|refine sX ?_);simp[b3])
    refine sT (sH Hb Ht ?_);simp
  .have:j=l.length:=by omega
   subst this;have:R=0:=by
    rw[<-hR];unfold fL;rw[if_neg (by simp[e0]),if_neg hc,if_neg (by simp[hok]),hokc]
   subst this;try (simp)
   repeat ((first|refine sR ?_|refine sC ?_|refine sX ?_);simp)
   refine sT (sH Hb Ht ?_);simp
def aCb(t:Ty)(L:List Ru)(l:List Co)(nb:Nat)(box:Bxs)(x:DuA):AS :=
 ⟨tl [(9,I x.i),(8,.osl 6 (duR (duL t L l x.i)) x.o),(1,.d (eS L)),(2,.d (bS l)),(3,.ptr (nb+3) 0 0)],lb nb box [(3,[fD t])],x.tok,x.nt⟩
def aB5(t:Ty)(L:List Ru)(l:List Co)(i:Nat)(X:List Du)(nb:Nat)(box:Bxs)(x:DuA):AS :=
 ⟨tl [(10,I x.i),(9,I i),(8,.osl 6 (duR (X++duK t L l i x.i)) x.o),(1,.d (eS L)),(2,.d (bS l)),(3,.ptr (nb+3) 0 0)],lb nb box [(3,[fD t])],x.tok,x.nt⟩
def aPK(t:Ty)(L:List Ru)(l:List Co)(r:Ru)(i k:Nat)(W:List Ov)(X:List Du)(nb:Nat)(box:Bxs)(x:DuA):AS :=
 ⟨tl [(13,I x.i),(11,.d (ovs W)),(10,I k),(9,I i),(8,.osl 6 (duR (X++duN r i k W x.i)) x.o),(1,.d (eS L)),(2,.d (bS l)),(3,.ptr (nb+3) 0 0)],lb nb box [(3,[fD t])],x.tok,x.nt⟩
set_option maxRecDepth 100000 in
theorem xA(t:Ty)(L:List Ru)(l:List Co)(h:bT t L l)(hT:tyE t=0)(hru:∀r∈L,ruE t r=0)(hL:L.length<=6)(hl:l.length<=8):DC 51 [t.av,.d (eS L),.d (bS l)] (.tup [.d (rK (iX t L l).1),I (iX t L l).2]):=by
 intro tok nt box nb;obtain⟨R,hR⟩:∃R,iX t L l=R:=⟨_,rfl⟩
 rw[hR];refine sI func51 ntmps51 fun Hb Ht=>?_
 repeat first|simp|refine sR ?_
 refine sN ?_;refine sL (aCb t L l nb box) (fun x=>x.i<=L.length/\aA (duE t L l) x.i=0/\TK tok nt x.tok x.nt [x.o]) (fun x=>L.length-x.i) ⟨0,.full,tok,nt⟩ ⟨Nat.zero_le _,rfl,(TK.start Ht).full⟩ (wM (nr0 _) rfl (by simp[ToL,lk,duL]) (by simp[aC,lk])) ?_;rintro⟨i,o1,tok1,nt1⟩ S ⟨hi,hok,htk⟩ hS;simp only[aCb] at hS hi hok htk;subst hS;have hw:=sW (i:=i) (by omega);have hXl:=aBN h i;by_cases hlt:i<L.length
 .have hri:=List.getElem_mem hlt;have hfr:=h.L _ hri;have hre:=hru _ hri;have hget:=xQ hlt;have hsu:=aDh t L l i;have hat:∀k (hk:k<l.length),duW t L l i k=cF t L[i] l[k]/\duC t L l i k=duN L[i] i k (cF t L[i] l[k]).1 (cF t L[i] l[k]).1.length:=fun k hk=>aDK hlt hk
  have herr:∀k (hk:k<l.length) e,aA (fun k=>(duW t L l i k).2) k=0->(duW t L l i k).2=e->e≠0->R=([],e):=fun k hk e h2 h3 h4=>hR.symm.trans (aFj hlt hk hok h2 h3 h4)
  have hin:=aJl hT hre;have hva:=hin.hl.va;obtain⟨r,hr⟩:∃r,L[i]=r:=⟨_,rfl⟩
  rw[hr] at hri hfr hre hget hin hva;simp only[hr] at hat;have hXl2:(duL t L l i).length<=48000000:=by
   have:i*(l.length*1000000)<=6*(8*1000000):=Nat.mul_le_mul (by omega) (Nat.mul_le_mul_right _ hl)
   omega
  generalize hX:duL t L l i=X at *;try (simp[hlt])
  repeat ((first|refine sR ?_|refine sC ?_|refine sX ?_);simp[hlt])
  refine sN ?_;refine sL (aB5 t L l i X nb box) (fun x=>x.i<=l.length/\aA (fun k=>(duW t L l i k).2) x.i=0/\TK tok nt x.tok x.nt [x.o]) (fun x=>l.length-x.i) ⟨0,o1,tok1,nt1⟩ ⟨Nat.zero_le _,rfl,htk⟩ (wM htk.le rfl (by simp[ToL,lk,duK]) (by simp[aC,lk])) ?_;rintro⟨k,o2,tok2,nt2⟩ S ⟨hk,hok2,htk2⟩ hS;simp only[aB5] at hS hk hok2 htk2;subst hS;have hwk:=sW (i:=k) (by omega);have hYl:=aBa h i k;by_cases hkl:k<l.length
  .have hck:=List.getElem_mem hkl;have hfc:=h.l _ hck;obtain⟨w1,w2⟩:=hat k hkl;have hgk:l[k]?=some l[k]:=List.getElem?_eq_getElem hkl
   have hsk:=aCj t L l i k;rw[w2] at hsk;have he:=herr k hkl;rw[w1] at he;obtain⟨c,hc⟩:∃c,l[k]=c:=⟨_,rfl⟩
   rw[hc] at hck hfc hgk w1 w2 hsk he;have hwy:=aKc t h.t r hfr c hfc;have hwo:=aBj (t:=t) hfr hfc;have hws:=fun o (ho:o∈(cF t r c).1)=>(aBK (xI ho)).1
   obtain⟨W,hW⟩:∃W,cF t r c=W:=⟨_,rfl⟩
   obtain⟨wn,wf⟩:=hwo;rw[hW] at hwy wn wf hws w1 hsk he;obtain⟨W,e⟩:=W;simp only at hwy wn wf hws w1 hsk he;try (simp[hkl,hgk,hc,hlt,hget,hr,Ru.rowK])
   repeat ((first|refine sR ?_|refine sC ?_|refine sX ?_);simp[hkl,hgk,hc,hlt,hget,hr,Ru.rowK])
   refine sD (hwy _ _) ?_;simp;by_cases e1:e=0
   case neg =>
    have:=he e hok2 rfl e1
    subst this;have hb:(e != 0)=true:=by simp[e1]
    try (simp[hb])
    repeat ((first|refine sR ?_|refine sC ?_|refine sX ?_);simp[hb])
    refine sT (sG Hb Ht htk2.old htk2.le ?_);simp[rK]
   subst e1;generalize hY:X++duK t L l i k=Y at *;have hYl2:Y.length<=56000000:=by
    rw[<-hY,List.length_append];have:k*1000000<=8*1000000:=Nat.mul_le_mul_right _ (by omega)
    omega
   try (simp)
   repeat ((first|refine sR ?_|refine sC ?_|refine sX ?_);simp)
   refine sN ?_;refine sL (aPK t L l r i k W Y nb box) (fun x=>x.i<=W.length/\TK tok nt x.tok x.nt [x.o]) (fun x=>W.length-x.i) ⟨0,o2,tok2,nt2⟩ ⟨Nat.zero_le _,htk2⟩ (wM htk2.le rfl (by simp[ToL,lk,duN,<-hY]) (by simp[aC,lk])) ?_;rintro⟨n,o3,tok3,nt3⟩ S ⟨hn,htk3⟩ hS;simp only[aPK] at hS hn htk3;subst hS;have hwn:=sW (i:=n) (by omega);have hnl:=aBh r i k W n;by_cases hnlt:n<W.length
   .have hon:=List.getElem_mem hnlt;have hov:=aLV hnlt;have hsn:=aBQ r i k W hnlt;have hem:=hws _ hon;have hof:=wf _ hon;obtain⟨o,ho⟩:∃o,W[n]=o:=⟨_,rfl⟩
    rw[ho] at hon hov hsn hem hof;have hbf:=aD0 r hfr o hof hin.sp hva hem;obtain⟨B0,hB0⟩:∃B0,lV r o=B0:=⟨_,rfl⟩
    rw[hB0] at hbf hsn;try (simp[hnlt,hov,ho,hlt,hget,hr,Ru.rowK])
    repeat ((first|refine sR ?_|refine sC ?_|refine sX ?_);simp[hnlt,hov,ho,hlt,hget,hr,Ru.rowK])
    refine sD (hbf _ _) ?_;simp;try (simp)
    repeat ((first|refine sR ?_|refine sC ?_|refine sX ?_);simp)
    refine⟨⟨by omega,htk3.live⟩,?_⟩;try (simp[hwn])
    repeat ((first|refine sR ?_|refine sC ?_|refine sX ?_);simp[hwn])
    refine sE ?_;exact⟨⟨n+1,_,_,_⟩,⟨hnlt,htk3.app⟩,by simp only;omega,wM htk3.app.le rfl (by simp[ToL,lk,hsn]) (by simp[aC,lk])⟩
   .have:n=W.length:=by omega
    subst this;have hfin:X++duK t L l i (k+1)=Y++duN r i k W W.length:=by rw[hsk,<-List.append_assoc,hY]
    have hfin2:X.map Du.cells++(duK t L l i (k+1)).map Du.cells=Y.map Du.cells++(duN r i k W W.length).map Du.cells:=by rw[<-List.map_append,<-List.map_append,hfin]
    try (simp[hwk])
    repeat ((first|refine sR ?_|refine sC ?_|refine sX ?_);simp[hwk])
    refine sE ?_;refine⟨⟨k+1,o3,tok3,nt3⟩,⟨hkl,?_,htk3⟩,by simp only;omega,wM htk3.le rfl (by simp[ToL,lk,hfin2]) (by simp[aC,lk])⟩;show (if aA (fun k=>(duW t L l i k).2) k=0 then (duW t L l i k).2 else aA (fun k=>(duW t L l i k).2) k)=0
    rw[if_pos hok2,w1]
  .have:k=l.length:=by omega
   subst this;try (simp[hw])
   repeat ((first|refine sR ?_|refine sC ?_|refine sX ?_);simp[hw])
   refine sE ?_;refine⟨⟨i+1,o2,tok2,nt2⟩,⟨hlt,?_,htk2⟩,by simp only;omega,wM htk2.le rfl (by simp[ToL,lk,hsu]) (by simp[aC,lk])⟩;show (if aA (duE t L l) i=0 then duE t L l i else aA (duE t L l) i)=0
   rw[if_pos hok];exact hok2
 .have:i=L.length:=by omega
  subst this;have:R=(duL t L l L.length,0):=by
   rw[<-hR];unfold iX;rw[if_neg];exact fun hne=>hne hok
  subst this;try (simp)
  repeat ((first|refine sR ?_|refine sC ?_|refine sX ?_);simp)
  refine sT (sG Hb Ht htk.old htk.le ?_);simp
def yD(t:Ty)(l:List Co)(g:Gr):Int × Mo:=if h:vK t l g<l.length then (((vK t l g:Nat):Int),(mX t l[vK t l g].g g true).1) else (-1,⟨[],[]⟩)
theorem aHY{t:Ty}{l:List Co}{d:Du}(h:d.step=true):((iI t l d).2=true->iI t l d=(⟨d.o,(yD t l d.o.g).1,(yD t l d.o.g).2⟩,true)/\0<=(yD t l d.o.g).1)/\((iI t l d).2=false->(yD t l d.o.g).1<0):=by
 unfold iI yD;rw[if_pos h];by_cases h2:vK t l d.o.g<l.length
 .rw[dif_pos h2,dif_pos h2];exact⟨fun _=>⟨rfl,by simp only;omega⟩,fun h=>by cases h⟩
 .rw[dif_neg h2,dif_neg h2];exact⟨fun h=>(by cases h),fun _=>(by simp only;omega)⟩
def aOw(t:Ty)(l:List Co)(g:Gr)(nb:Nat)(box:Bxs)(tok:Tks)(nt:Nat)(i:Nat):AS :=
 ⟨tl [(8,I i),(1,.d (bS l)),(7,.ptr (nb+7) 0 0),(5,.ptr (nb+5) 0 0),(3,.ptr (nb+3) 0 0)],lb nb box [(7,[[cQ,cQ]]),(5,[aCF g]),(3,[fD t])],tok,nt⟩
set_option maxRecDepth 100000 in
theorem aGm(t:Ty)(ht:t.Fit)(l:List Co)(hl:l.length<=1000000)(hc:∀c∈l,c.g.Fit)(g:Gr)(hg:g.Fit):DC 48 [t.av,.d (bS l),g.av] (.tup [I (yD t l g).1,(yD t l g).2.av]):=by
 intro tok nt box nb;obtain⟨R,hR⟩:∃R,yD t l g=R:=⟨_,rfl⟩
 rw[hR];unfold yD at hR;refine sI func48 ntmps48 fun Hb Ht=>?_
 repeat first|simp|refine sR ?_
 refine sN ?_;refine sL (aOw t l g nb box tok nt) (fun i=>i<=l.length/\∀c∈l.take i,nP t g c=false) (fun i=>l.length-i) 0 ⟨Nat.zero_le _,by simp⟩ wkA ?_;rintro i S ⟨hi,hno⟩ hS;simp only[aOw] at hS;subst hS;have hw:=sW (i:=i) (by omega);by_cases hlt:i<l.length
 .have hcf:=hc _ (List.getElem_mem hlt);have heq:=aFy (t:=t) (g:=g) hlt hno;have hget:l[i]?=some l[i]:=List.getElem?_eq_getElem hlt
  have hts:=List.take_succ_eq_append_getElem hlt;obtain⟨c,hcc⟩:∃c,l[i]=c:=⟨_,rfl⟩
  have hf:=aF7 t ht c.g g (by rw[<-hcc];exact hcf) hg true;rw[hcc] at heq hget hts;have hfs:nP t g c=decide ((mX t c.g g true).2=0):=rfl
  obtain⟨F,hF⟩:∃F,mX t c.g g true=F:=⟨_,rfl⟩
  rw[hF] at hf hfs;try (simp[hlt,hget,hcc])
  repeat ((first|refine sR ?_|refine sC ?_|refine sX ?_);simp[hlt,hget,hcc])
  refine sD (hf _ _) ?_;simp;by_cases e:F.2=0
  .have hm:=heq (by rw[hfs,e];rfl);rw[dif_pos (by rw[hm];exact hlt)] at hR;have hR2:R=((i:Int),F.1):=by
    rw[<-hR];simp only[hm,hcc,hF]
   subst hR2;try (simp[e])
   repeat ((first|refine sR ?_|refine sC ?_|refine sX ?_);simp[e])
   refine sT (sH Hb Ht ?_);simp[ints]
  .have hb:(F.2==0)=false:=by simp[e]
   try (simp[hb,hw])
   repeat ((first|refine sR ?_|refine sC ?_|refine sX ?_);simp[hb,hw])
   refine sE ?_;refine⟨i+1,⟨hlt,fun x hx=>?_⟩,by omega,wkA⟩;rw[hts] at hx;rcases List.mem_append.1 hx with hx|hx
   .exact hno x hx
   .rw[List.mem_singleton.1 hx,hfs];simp[e]
 .have:i=l.length:=by omega
  subst this;rw[List.take_length] at hno;rw[dif_neg (aAx hno)] at hR;subst hR;try (simp)
  repeat ((first|refine sR ?_|refine sC ?_|refine sX ?_);simp)
  refine sT (sH Hb Ht ?_);simp[ints]
def aHT(t:Ty)(L:List Ru)(l:List Co):List Ob × Int:=if (iX t L l).2≠0 then ([],(iX t L l).2) else (jQ t l (iX t L l).1,0)
def aP2(t:Ty)(l:List Co)(D:List Du)(nb:Nat)(box:Bxs)(x:DuA):AS :=
 ⟨tl [(11,I x.i),(8,.d (rK D)),(10,.osl 5 (obR (opK t l D x.i)) x.o),(2,.d (bS l)),(3,.ptr (nb+3) 0 0)],lb nb box [(3,[fD t])],x.tok,x.nt⟩
set_option maxRecDepth 100000 in
theorem aIk(t:Ty)(L:List Ru)(l:List Co)(h:bT t L l)(hT:tyE t=0)(hru:∀r∈L,ruE t r=0)(hL:L.length<=6)(hl:l.length<=8):DC 40 [t.av,.d (eS L),.d (bS l)] (.tup [.d (sQ (aHT t L l).1),I (aHT t L l).2]):=by
 intro tok nt box nb;have hdu:=xA t L l h hT hru hL hl;have hD:=qB h hT hru hL hl;obtain⟨R,hR⟩:∃R,aHT t L l=R:=⟨_,rfl⟩
 rw[hR];unfold aHT at hR;obtain⟨⟨D,e⟩,hE⟩:∃E,iX t L l=E:=⟨_,rfl⟩
 rw[hE] at hR hdu hD;simp only at hR hdu hD;have hDn:=hD.n;refine sI func40 ntmps40 fun Hb Ht=>?_
 repeat first|simp|refine sR ?_
 refine sD (hdu _ _) ?_;simp;by_cases e1:e=0
 case neg =>
  rw[if_pos e1] at hR;subst hR;have hb:(e != 0)=true:=by simp[e1]
  try (simp[hb])
  repeat ((first|refine sR ?_|refine sC ?_|refine sX ?_);simp[hb])
  refine sT (sH Hb Ht ?_);simp[sQ]
 rw[if_neg (by simp[e1])] at hR;subst e1;subst hR;try (simp)
 repeat ((first|refine sR ?_|refine sC ?_|refine sX ?_);simp)
 refine sN ?_;refine sL (aP2 t l D nb box) (fun x=>x.i<=D.length/\TK tok nt x.tok x.nt [x.o]) (fun x=>D.length-x.i) ⟨0,.full,tok,nt⟩ ⟨Nat.zero_le _,(TK.start Ht).full⟩ (wM (nr0 _) rfl (by simp[ToL,lk,opK]) (by simp[aC,lk])) ?_;rintro⟨i,o1,tok1,nt1⟩ S ⟨hi,htk⟩ hS;simp only[aP2] at hS hi htk;subst hS;have hw:=sW (i:=i) (by omega);have hpl:=aFF t l D i;by_cases hlt:i<D.length
 .have hget:=aEY hlt;have hsu:=aBR (t:=t) (l:=l) hlt;have hdg:=hD.g _ (List.getElem_mem hlt);obtain⟨d,hd9⟩:∃d,D[i]=d:=⟨_,rfl⟩
  rw[hd9] at hget hsu hdg;have hmt:=aGm t h.t l (by omega) (fun c hc=>(h.l c hc).g) d.o.g hdg;try (simp[hlt,hget,hd9])
  repeat ((first|refine sR ?_|refine sC ?_|refine sX ?_);simp[hlt,hget,hd9])
  refine sD (hmt _ _) ?_;simp;cases hs:d.step
  .have hm:(iI t l d).2=true:=by unfold iI;rw[hs];rfl
   rw[if_pos hm,List.append_nil] at hsu;try (simp[hlt,hget,hd9,hs,hw])
   repeat ((first|refine sR ?_|refine sC ?_|refine sX ?_);simp[hlt,hget,hd9,hs,hw])
   refine sE ?_;exact⟨⟨i+1,_,_,_⟩,⟨hlt,htk⟩,by simp only;omega,wM htk.le rfl (by simp[ToL,lk,hsu]) (by simp[aC,lk])⟩
  .obtain⟨m1,m2⟩:=aHY (t:=t) (l:=l) hs;cases hm:(iI t l d).2
   .have q:=m2 hm;rw[if_neg (by simp[hm])] at hsu;try (simp[hlt,hget,hd9,hs,q])
    repeat ((first|refine sR ?_|refine sC ?_|refine sX ?_);simp[hlt,hget,hd9,hs,q])
    refine⟨⟨by omega,htk.live⟩,?_⟩;try (simp[hw])
    repeat ((first|refine sR ?_|refine sC ?_|refine sX ?_);simp[hw])
    refine sE ?_;exact⟨⟨i+1,_,_,_⟩,⟨hlt,htk.app⟩,by simp only;omega,wM htk.app.le rfl (by simp[ToL,lk,hsu]) (by simp[aC,lk])⟩
   .have q:=(m1 hm).2;have q2:¬(yD t l d.o.g).1<0:=by omega
    rw[if_pos hm,List.append_nil] at hsu;try (simp[hlt,hget,hd9,hs,q2,hw])
    repeat ((first|refine sR ?_|refine sC ?_|refine sX ?_);simp[hlt,hget,hd9,hs,q2,hw])
    refine sE ?_;exact⟨⟨i+1,_,_,_⟩,⟨hlt,htk⟩,by simp only;omega,wM htk.le rfl (by simp[ToL,lk,hsu]) (by simp[aC,lk])⟩
 .have:i=D.length:=by omega
  subst this;rw[aFi];try (simp)
  repeat ((first|refine sR ?_|refine sC ?_|refine sX ?_);simp)
  refine sT (sG Hb Ht htk.old htk.le ?_);simp
theorem aHL(t:Ty)(L:List Ru)(l:List Co)(h:bT t L l)(hL:L.length<=1000000)(hl:l.length<=1000000):DC 14 [t.av,.d (eS L),.d (bS l)] (.tup [.d (sQ (gG t L l).1),I (gG t L l).2]):=by
 intro tok nt box nb;have hg:=zO t L l h hL hl;obtain⟨R,hR⟩:∃R,gG t L l=R:=⟨_,rfl⟩
 rw[hR];unfold gG dX at hR;refine sI func14 ntmps14 fun Hb Ht=>?_
 repeat first|simp|refine sR ?_
 refine sD (hg _ _) ?_;simp;by_cases e:fL t L l=0
 .simp only[e,ne_eq,not_true_eq_false,↓reduceIte] at hR;obtain⟨hT,hru,_,h6,h8⟩:=kP e;have ho:=aIk t L l h hT hru h6 h8;have hR2:aHT t L l=R:=hR
  rw[hR2] at ho;try (simp[e])
  repeat ((first|refine sR ?_|refine sC ?_|refine sX ?_);simp[e])
  refine sD (ho _ _) ?_;simp;try (simp)
  repeat ((first|refine sR ?_|refine sC ?_|refine sX ?_);simp)
  refine sT (sH Hb Ht ?_);simp
 .simp only[e,ne_eq,not_false_eq_true,↓reduceIte] at hR;have hb:(fL t L l != 0)=true:=by simp[e]
  subst hR;try (simp[hb])
  repeat ((first|refine sR ?_|refine sC ?_|refine sX ?_);simp[hb])
  refine sT (sH Hb Ht ?_);simp[sQ]
end Go.AM
namespace Go.Proofs.YtchfmhhbiealcaaGreatDoor.values
open Go Go.Proofs Go.RowKit Go.Shelf Go.Sort
open Go.Proofs.Tryz
end Go.Proofs.YtchfmhhbiealcaaGreatDoor.values
namespace Go.AM
open Go Go.Proofs Go.RowKit
open Go.Proofs.Tryz
def aLw(l:List Int)(nb:Nat)(box:Bxs)(tok:Tks)(nt:Nat)(i:Nat):AS:=⟨tl [(0,.d (ints l)),(3,I i)],lb nb box [],tok,nt⟩
def aH8(l:List Int)(i:Nat)(nb:Nat)(box:Bxs)(tok:Tks)(nt:Nat)(k:Nat):AS:=⟨tl [(0,.d (ints l)),(3,I i),(4,I k)],lb nb box [],tok,nt⟩
theorem qE(l:List Int)(hl:l.length<=1000000):DC 216 [.d (ints l)] (B (decide l.Nodup)):=by
 intro tok nt box nb;obtain⟨R,hR⟩:∃R,decide l.Nodup=R:=⟨_,rfl⟩
 rw[hR];have hnd:=@iF l;refine sI func216 ntmps216 fun Hb Ht=>?_
 repeat first|simp|refine sR ?_
 refine sN ?_;refine sL (aLw l nb box tok nt) (fun i=>i<=l.length/\∀a b,a<b->b<i->l.getD a 0≠l.getD b 0) (fun i=>l.length-i) 0 ⟨Nat.zero_le _,fun a b _ h=>absurd h (Nat.not_lt_zero _)⟩ wkA ?_;rintro i S ⟨hi,hno⟩ hS;simp only[aLw] at hS;subst hS;have hw:=sW (i:=i) (by omega);by_cases hlt:i<l.length
 .try (simp[hlt])
  repeat ((first|refine sR ?_|refine sC ?_|refine sX ?_);simp[hlt])
  refine sN ?_;refine sL (aH8 l i nb box tok nt) (fun k=>k<=i/\∀a,a<k->l.getD a 0≠l.getD i 0) (fun k=>i-k) 0 ⟨Nat.zero_le _,fun a h=>absurd h (Nat.not_lt_zero _)⟩ wkA ?_;rintro k S ⟨hk,hno2⟩ hS;simp only[aH8] at hS;subst hS;have hwk:=sW (i:=k) (by omega);by_cases hkl:k<i
  .have hk2:k<l.length:=by omega
   have g1:l.getD k 0=l[k]:=by simp[hk2]
   have g2:l.getD i 0=l[i]:=by simp[hlt]
   by_cases e:l[i]=l[k]
   .have b:(l[i]==l[k])=true:=by simp[e]
    have:¬l.Nodup:=fun h=>hnd.1 h k i hkl hlt (by rw[g1,g2,e])
    rw[decide_eq_false this] at hR;try (simp[hlt,hk2,hkl,b])
    repeat ((first|refine sR ?_|refine sC ?_|refine sX ?_);simp[hlt,hk2,hkl,b])
    refine sT (sH Hb Ht ?_);simp[<-hR]
   .have b:(l[i]==l[k])=false:=by simp[e]
    try (simp[hlt,hk2,hkl,b,hwk])
    repeat ((first|refine sR ?_|refine sC ?_|refine sX ?_);simp[hlt,hk2,hkl,b,hwk])
    refine sE ?_;refine⟨k+1,⟨hkl,fun a ha=>?_⟩,by omega,wkA⟩;by_cases e2:a=k
    .subst e2;simp only[List.getElem?_eq_getElem hk2,Option.getD_some];exact fun h=>e h.symm
    .have h9:=hno2 a (by omega);rw[g2] at h9;simpa[List.getD_eq_getElem?_getD] using h9
  .have:k=i:=by omega
   subst this;try (simp[hkl,hw])
   repeat ((first|refine sR ?_|refine sC ?_|refine sX ?_);simp[hkl,hw])
   refine sE ?_;refine⟨k+1,⟨hlt,fun a b hab hb=>?_⟩,by omega,wkA⟩;by_cases e2:b=k
   .subst e2;exact hno2 a hab
   .exact hno a b hab (by omega)
 .have:i=l.length:=by omega
  subst this;rw[decide_eq_true (hnd.2 hno)] at hR;try (simp)
  repeat ((first|refine sR ?_|refine sC ?_|refine sX ?_);simp)
  refine sT (sH Hb Ht ?_);simp[<-hR]
def aLR(t:Ty)(p g:Gr)(m:Mo)(inj:Bool)(nb:Nat)(box:Bxs)(tok:Tks)(nt:Nat)(i:Nat):AS :=
 ⟨tl [(11,I i),(8,.ptr (nb+8) 0 0),(7,.ptr (nb+7) 0 0),(6,.ptr (nb+6) 0 0),(5,.ptr (nb+5) 0 0),(4,B inj)],lb nb box [(8,[[.d (ints m.nodes),.d (ints m.edges)]]),(7,[[.d (ints g.nodes),.d (AM.edges g.edges)]]),(6,[[.d (ints p.nodes),.d (AM.edges p.edges)]]),(5,[[.d (nts t.nodes),.d (ets t.edges)]])],tok,nt⟩
def aMg(t:Ty)(p g:Gr)(m:Mo)(inj:Bool)(nb:Nat)(box:Bxs)(tok:Tks)(nt:Nat)(i:Nat):AS :=
 ⟨tl [(12,I i),(8,.ptr (nb+8) 0 0),(7,.ptr (nb+7) 0 0),(6,.ptr (nb+6) 0 0),(5,.ptr (nb+5) 0 0),(4,B inj)],lb nb box [(8,[[.d (ints m.nodes),.d (ints m.edges)]]),(7,[[.d (ints g.nodes),.d (AM.edges g.edges)]]),(6,[[.d (ints p.nodes),.d (AM.edges p.edges)]]),(5,[[.d (nts t.nodes),.d (ets t.edges)]])],tok,nt⟩
theorem aMm{t:Ty}{p g:Gr}{m:Mo}{i:Nat}(l1:m.nodes.length=p.nodes.length)(l2:m.edges.length=p.edges.length)(h0:aA (qH t p g m) i=0)(hi:i<m.nodes.length)(h:qH t p g m i≠0):qJ t p g m=qH t p g m i:=by
 have:=aL h0 h m.nodes.length hi
 unfold qJ;rw[if_neg (by omega),this,if_pos h]
theorem aM7{t:Ty}{p g:Gr}{m:Mo}{i:Nat}(l1:m.nodes.length=p.nodes.length)(l2:m.edges.length=p.edges.length)(hn:aA (qH t p g m) m.nodes.length=0)(h0:aA (qM p g m) i=0)(hi:i<m.edges.length)(h:qM p g m i≠0):qJ t p g m=qM p g m i:=by
 have:=aL h0 h m.edges.length hi
 unfold qJ;rw[if_neg (by omega),if_neg (by simp[hn]),this]
theorem rD{t:Ty}{p g:Gr}{m:Mo}{inj:Bool}(h:qJ t p g m≠0):yV t p g m inj=qJ t p g m:=by unfold yV;rw[if_pos h]
set_option maxRecDepth 100000 in
theorem aF8(t:Ty)(ht:t.Fit)(p g:Gr)(hp:p.Fit)(hg:g.Fit)(h0:lW t p g=0)(m:Mo)(inj:Bool):DC 153 [t.av,p.av,g.av,m.av,B inj] (I (yV t p g m inj)):=by
 intro tok nt box nb;have hpn:=hp.n;have hpe:=hp.e;have hgn:=hg.n;have hge:=hg.e;obtain⟨hT,hvp,hvg,typ,tyg⟩:=sV h0;have hxp:=aE hvp;have hpt:=lF typ;have hgt:=lF tyg;have hpar:=jH hT;refine sI func153 ntmps153 fun Hb Ht=>?_
 by_cases l1:m.nodes.length=p.nodes.length
 case neg =>
  have hR:yV t p g m inj=20:=by
   have:qJ t p g m=20:=by unfold qJ;rw[if_pos (.inl l1)]
   rw[rD (by rw[this];decide),this]
  have b1:((m.nodes.length:Int) != (p.nodes.length:Int))=true:=by simp;omega
  rw[hR];try (simp[b1])
  repeat ((first|refine sR ?_|refine sC ?_|refine sX ?_);simp[b1])
  refine sT (sH Hb Ht ?_);simp
 by_cases l2:m.edges.length=p.edges.length
 case neg =>
  have hR:yV t p g m inj=20:=by
   have:qJ t p g m=20:=by unfold qJ;rw[if_pos (.inr l2)]
   rw[rD (by rw[this];decide),this]
  have b1:((m.nodes.length:Int) != (p.nodes.length:Int))=false:=by simp;omega
  have b2:((m.edges.length:Int) != (p.edges.length:Int))=true:=by simp;omega
  rw[hR];try (simp[b1,b2])
  repeat ((first|refine sR ?_|refine sC ?_|refine sX ?_);simp[b1,b2])
  refine sT (sH Hb Ht ?_);simp
 have b1:((m.nodes.length:Int) != (p.nodes.length:Int))=false:=by simp;omega
 have b2:((m.edges.length:Int) != (p.edges.length:Int))=false:=by simp;omega
 try (simp[b1,b2])
 repeat ((first|refine sR ?_|refine sC ?_|refine sX ?_);simp[b1,b2])
 refine sN ?_;have hRn:∀i,i<m.nodes.length->aA (qH t p g m) i=0->∀e,qH t p g m i=e->e≠0->yV t p g m inj=e:=fun i hi h1 e h2 h3=>by
  have:=aMm l1 l2 h1 hi (by rw[h2];exact h3)
  rw[rD (by rw[this,h2];exact h3),this,h2]
 refine sL (aLR t p g m inj nb box tok nt) (fun i=>i<=m.nodes.length/\aA (qH t p g m) i=0) (fun i=>m.nodes.length-i) 0 ⟨Nat.zero_le _,rfl⟩ wkA ?_;rintro i S ⟨hi,hok⟩ hS;simp only[aLR] at hS;subst hS;have hw:=sW (i:=i) (by omega);by_cases hlt:i<m.nodes.length
 .have hia:i<p.nodes.length:=by omega
  have hgm:m.nodes.getD i 0=m.nodes[i]:=by simp[hlt]
  have hga:p.nodes.getD i 0=p.nodes[i]:=by simp[hia]
  have hpi:=hpt _ (List.getElem_mem hia);obtain⟨v,hv⟩:∃v,m.nodes[i]=v:=⟨_,rfl⟩
  obtain⟨u,hu⟩:∃u,p.nodes[i]=u:=⟨_,rfl⟩
  rw[hv] at hgm;rw[hu] at hga hpi;by_cases hneg:v<0
  .have hR:=hRn i hlt hok 6 (by simp only[qH,hgm];rw[if_pos (.inl hneg)]) (by decide);rw[hR];try (simp[hlt,hv,hneg])
   repeat ((first|refine sR ?_|refine sC ?_|refine sX ?_);simp[hlt,hv,hneg])
   refine sT (sH Hb Ht ?_);simp
  by_cases hbig:(g.nodes.length:Int)<=v
  .have hR:=hRn i hlt hok 6 (by simp only[qH,hgm];rw[if_pos (.inr hbig)]) (by decide);rw[hR];try (simp[hlt,hv,hneg,hbig])
   repeat ((first|refine sR ?_|refine sC ?_|refine sX ?_);simp[hlt,hv,hneg,hbig])
   refine sT (sH Hb Ht ?_);simp
  have hkb:v.toNat<g.nodes.length:=by omega
  have hv0:0<=v:=by omega
  have hvl:v<(g.nodes.length:Int):=by omega
  have hgb:g.nodes.getD v.toNat 0=g.nodes[v.toNat]:=by simp[hkb]
  have hgi:=hgt _ (List.getElem_mem hkb);have hB:=mO t u hpi.1 hpar (t.nodes.length) g.nodes[v.toNat] hgi.2 hgi.2;try (simp[hlt,hv,hneg,hbig,hkb,hv0,hvl,hia,hu])
  repeat ((first|refine sR ?_|refine sC ?_|refine sX ?_);simp[hlt,hv,hneg,hbig,hkb,hv0,hvl,hia,hu])
  refine sD (hB _ _) ?_;simp;cases hb:isB t g.nodes[v.toNat] u
  .have hR:=hRn i hlt hok 13 (by simp only[qH,hgm,hga,hgb];rw[if_neg (by omega),if_neg (by simp[hb])]) (by decide);rw[hR];try (simp)
   repeat ((first|refine sR ?_|refine sC ?_|refine sX ?_);simp)
   refine sT (sH Hb Ht ?_);simp
  .have hN:qH t p g m i=0:=by simp only[qH,hgm,hga,hgb];rw[if_neg (by omega),if_pos hb]
   try (simp[hw])
   repeat ((first|refine sR ?_|refine sC ?_|refine sX ?_);simp[hw])
   refine sE ?_;refine⟨i+1,⟨hlt,?_⟩,by omega,wkA⟩;simp only[aA,hok,hN,↓reduceIte]
 .have hin:i=m.nodes.length:=by omega
  subst hin;try (simp)
  repeat ((first|refine sR ?_|refine sC ?_|refine sX ?_);simp)
  refine sN ?_;have hRe:∀i,i<m.edges.length->aA (qM p g m) i=0->∀e,qM p g m i=e->e≠0->yV t p g m inj=e:=fun i hi h1 e h2 h3=>by
   have:=aM7 l1 l2 hok h1 hi (by rw[h2];exact h3)
   rw[rD (by rw[this,h2];exact h3),this,h2]
  refine sL (aMg t p g m inj nb box tok nt) (fun i=>i<=m.edges.length/\aA (qM p g m) i=0) (fun i=>m.edges.length-i) 0 ⟨Nat.zero_le _,rfl⟩ wkA ?_;rintro i S ⟨hi,hoke⟩ hS;simp only[aMg] at hS;subst hS;have hw:=sW (i:=i) (by omega);by_cases hlt:i<m.edges.length
  .have hia:i<p.edges.length:=by omega
   have hgm:m.edges.getD i 0=m.edges[i]:=by simp[hlt]
   have hga:p.edges.getD i default=p.edges[i]:=by simp[hia]
   obtain⟨x1,x2,x3,x4⟩:=hxp _ (List.getElem_mem hia);obtain⟨v,hv⟩:∃v,m.edges[i]=v:=⟨_,rfl⟩
   obtain⟨x,hx⟩:∃x,p.edges[i]=x:=⟨_,rfl⟩
   rw[hv] at hgm;rw[hx] at hga x1 x2 x3 x4;rw[<-l1] at x2 x4;have y1:x.fr.toNat<m.nodes.length:=by omega
   have y2:x.to.toNat<m.nodes.length:=by omega
   have hg1:m.nodes.getD x.fr.toNat 0=m.nodes[x.fr.toNat]:=by simp[y1]
   have hg2:m.nodes.getD x.to.toNat 0=m.nodes[x.to.toNat]:=by simp[y2]
   by_cases hneg:v<0
   .have hR:=hRe i hlt hoke 6 (by simp only[qM,hgm];rw[if_pos (.inl hneg)]) (by decide);rw[hR];try (simp[hlt,hv,hneg])
    repeat ((first|refine sR ?_|refine sC ?_|refine sX ?_);simp[hlt,hv,hneg])
    refine sT (sH Hb Ht ?_);simp
   by_cases hbig:(g.edges.length:Int)<=v
   .have hR:=hRe i hlt hoke 6 (by simp only[qM,hgm];rw[if_pos (.inr hbig)]) (by decide);rw[hR];try (simp[hlt,hv,hneg,hbig])
    repeat ((first|refine sR ?_|refine sC ?_|refine sX ?_);simp[hlt,hv,hneg,hbig])
    refine sT (sH Hb Ht ?_);simp
   have hkb:v.toNat<g.edges.length:=by omega
   have hv0:0<=v:=by omega
   have hvl:v<(g.edges.length:Int):=by omega
   have hgb:g.edges.getD v.toNat default=g.edges[v.toNat]:=by simp[hkb]
   have hnn:¬(v<0∨(g.edges.length:Int)<=v):=by omega
   obtain⟨y,hy⟩:∃y,g.edges[v.toNat]=y:=⟨_,rfl⟩
   rw[hy] at hgb;refine sR ?_;simp[hlt,hv,hneg,hbig];refine sC ?_;simp;refine sR ?_;simp[hlt,hv,hneg,hbig];refine sC ?_;simp;refine sN ?_;refine AL.region2 cA (nr0 _) (by kernel_rfl) (oO.of (by simp)) ?_;simp[hkb,hv0,hvl,hia,hlt,hv,hx,hy];refine sR ?_;simp;refine sC ?_;simp;refine⟨fun hty=>?_,fun hty=>?_⟩
   .have hR:=hRe i hlt hoke 13 (by simp only[qM,hgm,hga,hgb];rw[if_neg hnn,if_pos hty]) (by decide);rw[hR];try (simp)
    repeat ((first|refine sR ?_|refine sC ?_|refine sX ?_);simp)
    refine sT (sH Hb Ht ?_);simp
   .by_cases hfr:m.nodes[x.fr.toNat]=y.fr
    .have hb1:(m.nodes[x.fr.toNat] != y.fr)=false:=by simp[hfr]
     by_cases hto:m.nodes[x.to.toNat]=y.to
     .have hb2:(m.nodes[x.to.toNat] != y.to)=false:=by simp[hto]
      have hN:qM p g m i=0:=by simp only[qM,hgm,hga,hgb,hg1,hg2];rw[if_neg hnn,if_neg (by simpa using hty),if_neg (by simp[hfr,hto])]
      try (simp[x1,x2,x3,x4,y1,y2,hb1,hb2,hw])
      repeat ((first|refine sR ?_|refine sC ?_|refine sX ?_);simp[x1,x2,x3,x4,y1,y2,hb1,hb2,hw])
      refine sE ?_;refine⟨i+1,⟨hlt,?_⟩,by omega,wkA⟩;simp only[aA,hoke,hN,↓reduceIte]
     .have hb2:(m.nodes[x.to.toNat] != y.to)=true:=by simp[hto]
      have hR:=hRe i hlt hoke 11 (by simp only[qM,hgm,hga,hgb,hg1,hg2];rw[if_neg hnn,if_neg (by simpa using hty),if_pos (.inr hto)]) (by decide);rw[hR];try (simp[x1,x2,x3,x4,y1,y2,hb1,hb2])
      repeat ((first|refine sR ?_|refine sC ?_|refine sX ?_);simp[x1,x2,x3,x4,y1,y2,hb1,hb2])
      refine sT (sH Hb Ht ?_);simp
    .have hb1:(m.nodes[x.fr.toNat] != y.fr)=true:=by simp[hfr]
     have hR:=hRe i hlt hoke 11 (by simp only[qM,hgm,hga,hgb,hg1,hg2];rw[if_neg hnn,if_neg (by simpa using hty),if_pos (.inl hfr)]) (by decide);rw[hR];try (simp[x1,x2,x3,x4,y1,y2,hb1])
     repeat ((first|refine sR ?_|refine sC ?_|refine sX ?_);simp[x1,x2,x3,x4,y1,y2,hb1])
     refine sT (sH Hb Ht ?_);simp
  .have hin:i=m.edges.length:=by omega
   subst hin;have hsh:qJ t p g m=0:=by
    unfold qJ;rw[if_neg (by omega),if_neg (by simp[hok]),hoke]
   have d1:=qE m.nodes (by omega);have d2:=qE m.edges (by omega);obtain⟨R,hR⟩:∃R,yV t p g m inj=R:=⟨_,rfl⟩
   rw[hR];unfold yV at hR;rw[if_neg (by simp[hsh])] at hR;cases inj
   .rw[if_neg (by simp)] at hR;try (simp)
    repeat ((first|refine sR ?_|refine sC ?_|refine sX ?_);simp)
    refine sT (sH Hb Ht ?_);simp[<-hR]
   .try (simp)
    repeat ((first|refine sR ?_|refine sC ?_|refine sX ?_);simp)
    refine sD (d1 _ _) ?_;simp;by_cases n1:m.nodes.Nodup
    .try (simp[n1])
     repeat ((first|refine sR ?_|refine sC ?_|refine sX ?_);simp[n1])
     refine sD (d2 _ _) ?_;simp;by_cases n2:m.edges.Nodup
     .rw[if_neg (by simp[n1,n2])] at hR;try (simp[n2])
      repeat ((first|refine sR ?_|refine sC ?_|refine sX ?_);simp[n2])
      refine sT (sH Hb Ht ?_);simp[<-hR]
     .rw[if_pos ⟨rfl,.inr n2⟩] at hR;try (simp[n2])
      repeat ((first|refine sR ?_|refine sC ?_|refine sX ?_);simp[n2])
      refine sT (sH Hb Ht ?_);simp[<-hR]
    .rw[if_pos ⟨rfl,.inl n1⟩] at hR;try (simp[n1])
     repeat ((first|refine sR ?_|refine sC ?_|refine sX ?_);simp[n1])
     refine sT (sH Hb Ht ?_);simp[<-hR]
theorem aFZ(t:Ty)(ht:t.Fit)(p g:Gr)(hp:p.Fit)(hg:g.Fit)(m:Mo)(inj:Bool):DC 96 [t.av,p.av,g.av,m.av,B inj] (I (aGX t p g m inj)):=by
 intro tok nt box nb;have hgv:=aAt t ht p g hp hg;obtain⟨R,hR⟩:∃R,aGX t p g m inj=R:=⟨_,rfl⟩
 rw[hR];unfold aGX at hR;refine sI func96 ntmps96 fun Hb Ht=>?_
 repeat first|simp|refine sR ?_
 refine sD (hgv _ _) ?_;simp;by_cases c1:lW t p g=0
 .rw[if_neg (by simp[c1])] at hR;have hm:=aF8 t ht p g hp hg c1 m inj;rw[hR] at hm;try (simp[c1])
  repeat ((first|refine sR ?_|refine sC ?_|refine sX ?_);simp[c1])
  refine sD (hm _ _) ?_;simp;try (simp)
  repeat ((first|refine sR ?_|refine sC ?_|refine sX ?_);simp)
  refine sT (sH Hb Ht ?_);simp
 .rw[if_pos c1] at hR;try (simp[c1])
  repeat ((first|refine sR ?_|refine sC ?_|refine sX ?_);simp[c1])
  refine sT (sH Hb Ht ?_);simp[<-hR]
def aMb(xs ys:List Int)(nb:Nat)(box:Bxs)(tok:Tks)(nt:Nat)(i:Nat):AS :=
 ⟨tl [(0,.d (ints xs)),(1,.d (ints ys)),(12,I xs.length),(13,I i)],lb nb box [],tok,nt⟩
set_option maxRecDepth 100000 in
theorem aH1(xs ys:List Int)(hx:xs.length<=1000000):DC 36 [.d (ints xs),.d (ints ys)] (B (decide (xs=ys))):=by
 intro tok nt box nb;refine sI func36 ntmps36 fun Hb Ht=>?_
 by_cases hl:xs.length=ys.length
 .have hl':(xs.length:Int)=ys.length:=by omega
  try (simp[hl'])
  repeat ((first|refine sR ?_|refine sC ?_|refine sX ?_);simp[hl'])
  refine sN ?_;refine sL (aMb xs ys nb box tok nt) (fun i=>i<=xs.length/\xs.take i=ys.take i) (fun i=>xs.length-i) 0 ⟨Nat.zero_le _,by simp⟩ (wM (nr0 _) rfl (by simp[ToL,lk,hl]) trivial) ?_;rintro i S' ⟨hi,htk⟩ hS;simp only[aMb] at hS;subst hS;have hw:=sW (i:=i) (by omega);by_cases hlt:i<xs.length
  .have hlt2:i<ys.length:=by omega
   by_cases he:xs[i]=ys[i]
   .have b2:(xs[i] != ys[i])=false:=by simp[he]
    try (simp[hlt,hlt2,b2,he,hw])
    repeat ((first|refine sR ?_|refine sC ?_|refine sX ?_);simp[hlt,hlt2,b2,he,hw])
    refine sE ?_;refine⟨i+1,⟨hlt,?_⟩,by omega,wM (nr0 _) rfl (by simp[ToL,lk]) trivial⟩;rw[List.take_succ_eq_append_getElem hlt,List.take_succ_eq_append_getElem hlt2,htk,he]
   .have b2:(xs[i] != ys[i])=true:=by simp[he]
    have hne:¬xs=ys:=fun e=>he (by subst e;rfl)
    try (simp[hlt,hlt2,b2,he])
    repeat ((first|refine sR ?_|refine sC ?_|refine sX ?_);simp[hlt,hlt2,b2,he])
    refine sT (sH Hb Ht ?_);simp[hne]
  .have hxy:xs=ys:=by rw[List.take_of_length_le (by omega),List.take_of_length_le (by omega)] at htk;exact htk
   try (simp[hlt])
   repeat ((first|refine sR ?_|refine sC ?_|refine sX ?_);simp[hlt])
   refine sT (sH Hb Ht ?_);simp[hxy]
 .have hl':¬(xs.length:Int)=ys.length:=by omega
  have hne:¬xs=ys:=fun e=>hl (by rw[e])
  have b2:((xs.length:Int) != ys.length)=true:=by simp[hl']
  try (simp[hl',b2,hl])
  repeat ((first|refine sR ?_|refine sC ?_|refine sX ?_);simp[hl',b2,hl])
  refine sT (sH Hb Ht ?_);simp[hne]
theorem aPP{D:List Dc}{i:Nat}(h:i<D.length):(D.map Dc.cells)[i]?=some D[i].cells:=by simp[h]
theorem aHR(t:Ty)(l:List Co)(o:Ob):eT t l [o]=if l.any (nP t o.g)=true then (l,0) else if l.length=8∨6<o.g.nodes.length∨8<o.g.edges.length then ([],3) else (l++[aKq l.length o.g],0):=rfl
theorem aHV{D:List Ob}{i:Nat}(h:i<D.length):(D.map Ob.cells)[i]?=some D[i].cells:=by simp[h]
set_option maxRecDepth 100000 in
theorem aHa(t:Ty)(ht:t.Fit)(l:List Co)(hl:l.length<=8)(hlf:∀c∈l,c.Fit)(os:List Ob)(hos:os.length<=100000000)(hog:∀o∈os,o.g.Fit)(own:Own)(box:Bxs)(nb:Nat)(mtok:Tks)(nt0:Nat)(tok:Tks)(nt:Nat)(htk:TK mtok nt0 tok nt [own]):
  aD prog 46 [t.av,.osl 5 (rCo l) own,.d (sQ os)] ⟨box,nb,tok,nt⟩ (QLo (eT t l os) box nb mtok nt0):=by
 obtain⟨R,hR⟩:∃R,eT t l os=R:=⟨_,rfl⟩
 rw[hR];refine sI func46 ntmps46 fun Hb Ht=>?_
 repeat first|simp|refine sR ?_
 refine sN ?_;refine sL (aOD t l os nb box) (fun x=>x.i<=os.length/\(eT t l (os.take x.i)).2=0/\TK mtok nt0 x.tok x.nt [x.o]/\nt<=x.nt) (fun x=>os.length-x.i) ⟨0,own,tok,nt⟩ ⟨Nat.zero_le _,rfl,htk,nr0 _⟩ (wM (nr0 _) rfl (by simp[ToL,lk,eT]) (by simp[aC,lk])) ?_;rintro⟨i,o1,tok1,nt1⟩ S ⟨hi,hok,htk1,hle1⟩ hS;simp only[aOD] at hS hi hok htk1 hle1;subst hS;have hw:=sW (i:=i) (by omega);by_cases hlt:i<os.length
 .have hget:=aHV hlt;have hts:=List.take_succ_eq_append_getElem hlt;have hof:=hog _ (List.getElem_mem hlt);obtain⟨o,ho⟩:∃o,os[i]=o:=⟨_,rfl⟩
  rw[ho] at hget hts hof;have hstep:=qG t (os.take i) [o] l;rw[if_neg (by simp[hok]),<-hts,aHR] at hstep;have hXl:=nK (t:=t) (xs:=os.take i) hl;have hXf:=nF (t:=t) (xs:=os.take i) hl hlf (fun o h=>hog o (List.mem_of_mem_take h));have hbad:(eT t l (os.take (i+1))).2≠0->R=([],3):=fun h=>by
   have h2:=qG t (os.take (i+1)) (os.drop (i+1)) l;rw[List.take_append_drop,if_pos h,qQ h,hR] at h2;exact h2
  generalize (eT t l (os.take i)).1=X at *;have hany:bB (nP t o.g) X=X.any (nP t o.g):=rfl
  try (simp[hlt,hget,ho])
  repeat ((first|refine sR ?_|refine sC ?_|refine sX ?_);simp[hlt,hget,ho])
  refine aN.sub (args':=[.d (bS X),.fn (.func 86) [.ptr (nb+3) 0 0,.ptr (nb+10) 0 0]]) ⟨Sub.data _ _ _,Sub.refl _,trivial⟩ ?_;refine aN.of_b (sY X 86 [.ptr (nb+3) 0 0,.ptr (nb+10) 0 0] (nP t o.g) (by omega) _ _ _ _ (by intro c hc;simp only[List.mem_cons,List.not_mem_nil,or_false] at hc;rcases hc with rfl|rfl<;>simp[aQ]) (fun x hx box' nb' he=>aGT t ht o.g hof x (hXf x hx).g box' nb' (nb+3) (nb+10) _ _ (he _ _ (by simp[aQ])) (he _ _ (by simp[aQ])))) ?_;rw[hany];cases e:X.any (nP t o.g)
  case true =>
   rw[if_pos e] at hstep;try (simp[hw])
   repeat ((first|refine sR ?_|refine sC ?_|refine sX ?_);simp[hw])
   refine sE ?_;exact⟨⟨i+1,o1,tok1,nt1⟩,⟨hlt,by rw[hstep],htk1,hle1⟩,by simp only;omega,wM hle1 rfl (by simp[ToL,lk,hstep]) (by simp[aC,lk])⟩
  rw[if_neg (by simp[e])] at hstep;have herr:X.length=8∨6<o.g.nodes.length∨8<o.g.edges.length->R=([],3):=fun h=>by
   rw[if_pos h] at hstep;exact hbad (by rw[hstep];decide)
  by_cases d1:X.length=8
  .have:=herr (.inl d1)
   subst this;have f1:(X.length:Int)=8:=by omega
   have g1:((X.length:Int)==8)=true:=by simpa using f1
   try (simp[f1,g1])
   repeat ((first|refine sR ?_|refine sC ?_|refine sX ?_);simp[f1,g1])
   refine sT ?_;try simp only[AU]
   exact⟨by simp,(Fin.gen (av:=.tup [.osl 0 [] .full,I 3]) (by simp[aP,bI];rfl) Hb hle1 (nr0 _) (fun t h=>⟨h,.inl rfl⟩) (fun k rows _ h=>.inl h) (by simp)).mono fun v m hq=>⟨tok1,nt1,hq.2,.inr ⟨by decide,hq.1,htk1.tail⟩⟩⟩
  have f1:¬(X.length:Int)=8:=by omega
  have g1:((X.length:Int)==8)=false:=by simpa using f1
  by_cases d2:6<o.g.nodes.length
  .have:=herr (.inr (.inl d2))
   subst this;have f2:(6:Int)<o.g.nodes.length:=by omega
   try (simp[f1,g1,f2])
   repeat ((first|refine sR ?_|refine sC ?_|refine sX ?_);simp[f1,g1,f2])
   refine sT ?_;try simp only[AU]
   exact⟨by simp,(Fin.gen (av:=.tup [.osl 0 [] .full,I 3]) (by simp[aP,bI];rfl) Hb hle1 (nr0 _) (fun t h=>⟨h,.inl rfl⟩) (fun k rows _ h=>.inl h) (by simp)).mono fun v m hq=>⟨tok1,nt1,hq.2,.inr ⟨by decide,hq.1,htk1.tail⟩⟩⟩
  have f2:¬(6:Int)<o.g.nodes.length:=by omega
  by_cases d3:8<o.g.edges.length
  .have:=herr (.inr (.inr d3))
   subst this;have f3:(8:Int)<o.g.edges.length:=by omega
   try (simp[f1,g1,f2,f3])
   repeat ((first|refine sR ?_|refine sC ?_|refine sX ?_);simp[f1,g1,f2,f3])
   refine sT ?_;try simp only[AU]
   exact⟨by simp,(Fin.gen (av:=.tup [.osl 0 [] .full,I 3]) (by simp[aP,bI];rfl) Hb hle1 (nr0 _) (fun t h=>⟨h,.inl rfl⟩) (fun k rows _ h=>.inl h) (by simp)).mono fun v m hq=>⟨tok1,nt1,hq.2,.inr ⟨by decide,hq.1,htk1.tail⟩⟩⟩
  have f3:¬(8:Int)<o.g.edges.length:=by omega
  rw[if_neg (by omega)] at hstep;have hit:=aKF X.length (by omega);have hsz:=(aIx X.length (by omega)).2;have hd:dgB X.length=dgB X.length:=rfl
  try (simp[f1,g1,f2,f3])
  repeat ((first|refine sR ?_|refine sC ?_|refine sX ?_);simp[f1,g1,f2,f3])
  refine sD (hit _ _) ?_;simp;try (simp)
  repeat ((first|refine sR ?_|refine sC ?_|refine sX ?_);simp)
  have hsz2:(⟨#[115]⟩:ByteArray).size+(dgB X.length).size=2:=by rw[<-ByteArray.size_append];exact hsz
  refine⟨by omega,⟨by omega,htk1.live⟩,?_⟩;try (simp[hw])
  repeat ((first|refine sR ?_|refine sC ?_|refine sX ?_);simp[hw])
  refine sE ?_;exact⟨⟨i+1,_,_,nt1+1⟩,⟨hlt,by rw[hstep],htk1.app,by simp only;omega⟩,by simp only;omega,wM (by omega) rfl (by simp[ToL,lk,hstep];exact aKB (by simp[aKq,sNm,ints,AM.edges];exact .emp) _) (by simp[aC,lk])⟩
 .have:i=os.length:=by omega
  subst this;rw[List.take_length] at hok;rw[List.take_length,hR];try (simp)
  repeat ((first|refine sR ?_|refine sC ?_|refine sX ?_);simp)
  refine sT ?_;try simp only[AU]
  rw[hR] at hok;exact⟨by simp,(Fin.gen (av:=.tup [.osl 5 (rCo R.1) o1,I 0]) (by simp[aP,bI];rfl) Hb hle1 (nr0 _) (fun t h=>⟨h,.inl rfl⟩) (fun k rows _ h=>.inl h) (by simp)).mono fun v m hq=>⟨tok1,nt1,hq.2,.inl ⟨hok,o1,hq.1,htk1⟩⟩⟩
def aCs(t:Ty)(L:List Ru)(l:List Co)(rounds:Int)(D:List Du)(nb:Nat)(box:Bxs)(x:DuA):AS :=
 ⟨tl [(34,I x.i),(33,I l.length),(32,.d (bS l)),(12,.osl 5 (rCo (l.take x.i)) x.o),(11,I 0),(10,.d (rK D)),(3,I rounds),(2,.d (bS l)),(1,.d (eS L)),(4,.ptr (nb+4) 0 0)],lb nb box [(4,[fD t])],x.tok,x.nt⟩
structure SgA where
 n:Nat
 l:List Co
 D:List Du
 o:Own
 tok:Nat->Bool
 nt:Nat
def aCL(t:Ty)(L:List Ru)(nb:Nat)(box:Bxs)(x:SgA):AS :=
 ⟨tl [(12,.osl 5 (rCo x.l) x.o),(11,I 0),(10,.d (rK x.D)),(3,I x.n),(1,.d (eS L)),(4,.ptr (nb+4) 0 0)],lb nb box [(4,[fD t])],x.tok,x.nt⟩
theorem aMp{t:Ty}{c:Co}(h:cnE t c=0)(hk:c.kind=1):c.exts=[]:=by
 unfold cnE at h;split at h
 .rename_i h1;exact absurd h h1
 .split at h
  .rename_i h1 h2;exact absurd h h2
  .rename_i h1 h2;have hs:lA c=0:=by simpa using h2
   have:=(rR hs).2.1
   unfold kdE at this;rw[if_pos hk] at this;split at this
   .assumption
   .cases this
theorem aBw{t:Ty}{l:List Co}{D:List Du}(h:tL D):(jQ t l D).length<=100000000/\∀o∈jQ t l D,o.g.Fit:=by
 unfold jQ;refine⟨?_,fun o ho=>?_⟩
 .rw[List.length_map];exact Nat.le_trans (List.length_filter_le _ _) h.n
 .obtain⟨d,hd,rfl⟩:=List.mem_map.1 ho;exact h.g d (List.mem_filter.1 hd).1
set_option maxRecDepth 100000 in
theorem yU(t:Ty)(L:List Ru)(l:List Co)(h:bT t L l)(hL:L.length<=1000000)(hl:l.length<=1000000)(n:Int):DC 18 [t.av,.d (eS L),.d (bS l),I n] (.tup [.d (bS (jI t L l n).1),I (jI t L l n).2]):=by
 intro tok nt box nb;have ha:=aEh t L l h hL hl;obtain⟨R,hR⟩:∃R,jI t L l n=R:=⟨_,rfl⟩
 rw[hR];unfold jI at hR;refine sI func18 ntmps18 fun Hb Ht=>?_
 repeat first|simp|refine sR ?_
 refine sD (ha _ _) ?_;simp;by_cases e1:(dX t L l).2=0
 case neg =>
  rw[if_pos e1] at hR;subst hR;have hb:((dX t L l).2 != 0)=true:=by simp[e1]
  try (simp[hb])
  repeat ((first|refine sR ?_|refine sC ?_|refine sX ?_);simp[hb])
  refine sT (sH Hb Ht ?_);simp[bS]
 rw[if_neg (by simp[e1])] at hR;have hD:=jL h;have hgv:fL t L l=0:=Classical.byContradiction fun hne=>by
  unfold dX at e1;rw[if_pos hne] at e1;exact hne e1
 obtain⟨hT,hru,hco,h6,h8⟩:=kP hgv;generalize (dX t L l).1=D at *;by_cases e2:n<0
 .rw[if_pos (.inl e2)] at hR;subst hR;have g2:decide (n<0)=true:=by simp[e2]
  try (simp[e1,e2])
  repeat ((first|refine sR ?_|refine sC ?_|refine sX ?_);simp[e1,e2])
  refine sT (sH Hb Ht ?_);simp[bS]
 by_cases e3:4<n
 .rw[if_pos (.inr e3)] at hR;subst hR;have g2:decide (n<0)=false:=by simp;omega
  try (simp[e1,e2,e3])
  repeat ((first|refine sR ?_|refine sC ?_|refine sX ?_);simp[e1,e2,e3])
  refine sT (sH Hb Ht ?_);simp[bS]
 rw[if_neg (by omega)] at hR;obtain⟨k,rfl⟩:∃k:Nat,n=k:=⟨n.toNat,by omega⟩
 rw[Int.toNat_natCast] at hR;try (simp[e1,e2,e3])
 repeat ((first|refine sR ?_|refine sC ?_|refine sX ?_);simp[e1,e2,e3])
 refine sN ?_;refine sL (aCs t L l k D nb box) (fun x=>x.i<=l.length/\TK tok nt x.tok x.nt [x.o]) (fun x=>l.length-x.i) ⟨0,.full,tok,nt⟩ ⟨Nat.zero_le _,(TK.start Ht).full⟩ wkA ?_;rintro⟨i,o1,tok1,nt1⟩ S ⟨hi,htk1⟩ hS;simp only[aCs] at hS hi htk1;subst hS;have hw:=sW (i:=i) (by omega);by_cases hlt:i<l.length
 .have hget:l[i]?=some l[i]:=List.getElem?_eq_getElem hlt
  have hts:=List.take_succ_eq_append_getElem hlt;have hcf:=h.l _ (List.getElem_mem hlt);have hck:=hco _ (List.getElem_mem hlt);obtain⟨c,hc⟩:∃c,l[i]=c:=⟨_,rfl⟩
  rw[hc] at hget hts hcf hck;have hown:=aMW c hcf (aMp hck.1 hck.2);try (simp[hlt,hget,hc])
  repeat ((first|refine sR ?_|refine sC ?_|refine sX ?_);simp[hlt,hget,hc])
  refine sD (hown _ _) ?_;simp;try (simp)
  repeat ((first|refine sR ?_|refine sC ?_|refine sX ?_);simp)
  refine⟨⟨by omega,htk1.live⟩,?_⟩;try (simp[hw])
  repeat ((first|refine sR ?_|refine sC ?_|refine sX ?_);simp[hw])
  refine sE ?_;exact⟨⟨i+1,_,_,_⟩,⟨hlt,htk1.app⟩,by simp only;omega,wM htk1.app.le rfl (by simp[ToL,lk,hts]) (by simp[aC,lk])⟩
 .have:i=l.length:=by omega
  subst this;try (simp)
  repeat ((first|refine sR ?_|refine sC ?_|refine sX ?_);simp)
  refine sN ?_;refine sL (aCL t L nb box) (fun x=>x.n<=4/\yC t L x.n x.l x.D=R/\x.l.length<=8/\(∀c∈x.l,c.Fit)/\tL x.D/\TK tok nt x.tok x.nt [x.o]) (fun x=>x.n) ⟨k,l,D,o1,tok1,nt1⟩ ⟨by simp only;omega,by simpa using hR,h8,h.l,hD,htk1⟩ (wM htk1.le rfl (by simp[ToL,lk]) (by simp[aC,lk])) ?_;rintro⟨n,l2,D2,o2,tok2,nt2⟩ S ⟨hn,hR2,hl2,hf2,hD2,htk2⟩ hS;simp only[aCL] at hS hn hR2 hl2 hf2 hD2 htk2;subst hS;have hop:=aJq t h.t l2 (by omega) (fun c hc=>(hf2 c hc).g) D2 hD2;obtain⟨hol,hog⟩:=aBw (t:=t) (l:=l2) hD2;obtain⟨O,hO⟩:∃O,jQ t l2 D2=O:=⟨_,rfl⟩
  rw[hO] at hop hol hog;try (simp)
  repeat ((first|refine sR ?_|refine sC ?_|refine sX ?_);simp)
  refine aN.sub (args':=[t.av,.d (bS l2),.d (rK D2)]) ⟨Sub.refl _,Sub.data _ _ _,Sub.refl _,trivial⟩ ?_;refine sD (hop _ _) ?_;simp;by_cases c1:O=[]
  .have:R=(l2,0):=by
    rw[<-hR2];cases n<;>rw[yC,if_pos (by rw[hO,c1])]
   subst this;subst c1;try (simp)
   repeat ((first|refine sR ?_|refine sC ?_|refine sX ?_);simp)
   refine sT (sG Hb Ht htk2.old htk2.le ?_);simp[bS]
  have c2:¬(O.length:Int)=0:=fun e=>c1 (List.eq_nil_of_length_eq_zero (by omega))
  have c3:((O.length:Int)==0)=false:=by simpa using c2
  cases n with
  | zero =>
   have:R=([],10):=by rw[<-hR2,yC,if_neg (by rw[hO];exact c1)]
   subst this;try (simp[c1,c2,c3])
   repeat ((first|refine sR ?_|refine sC ?_|refine sX ?_);simp[c1,c2,c3])
   refine sT (sG Hb Ht htk2.old htk2.le ?_);simp[bS]
  | succ n =>
   rw[yC,if_neg (by rw[hO];exact c1),hO] at hR2;have c4:¬(n:Int)+1=0:=by omega
   have c5:((n:Int)+1==0)=false:=by simpa using c4
   have hlo:=fun box' nb'=>aHa t h.t l2 hl2 hf2 O hol hog o2 box' nb' tok nt tok2 nt2 htk2
   have hl3:=nK (t:=t) (xs:=O) hl2;have hf3:=nF (t:=t) (xs:=O) hl2 hf2 hog;have hbd:=qQ (t:=t) (xs:=O) (l:=l2);obtain⟨⟨l3,e⟩,hP⟩:∃P,eT t l2 O=P:=⟨_,rfl⟩
   rw[hP] at hR2 hlo hl3 hf3 hbd;simp only at hR2 hlo hl3 hf3 hbd;try (simp[c1,c2,c3,c4,c5])
   repeat ((first|refine sR ?_|refine sC ?_|refine sX ?_);simp[c1,c2,c3,c4,c5])
   refine aN.of_a (hlo _ _) ?_;rintro v m' ⟨tok3,nt3,rfl,⟨he,own3,rfl,htk3⟩|⟨he,rfl,htk3⟩⟩
   .simp only at he;subst he;rw[if_neg (by simp)] at hR2;have h3:bT t L l3:=⟨h.t,h.L,hf3⟩
    have hdu:=zA t L l3 h3 hT hru h6 hl3;have hdf:=qB h3 hT hru h6 hl3;obtain⟨⟨D3,e⟩,hE⟩:∃E,iX t L l3=E:=⟨_,rfl⟩
    rw[hE] at hR2 hdu hdf;simp only at hR2 hdu hdf;try (simp)
    repeat ((first|refine sR ?_|refine sC ?_|refine sX ?_);simp)
    refine aN.sub (args':=[t.av,.d (eS L),.d (bS l3)]) ⟨Sub.refl _,Sub.refl _,Sub.data _ _ _,trivial⟩ ?_;refine sD (hdu _ _) ?_;simp;by_cases d1:e=0
    .rw[if_neg (by simp[d1])] at hR2;subst d1;have hw:IntKind.i64.wrap (n:Int)=(n:Int):=aM (by omega) (by omega)
     try (simp[hw])
     repeat ((first|refine sR ?_|refine sC ?_|refine sX ?_);simp[hw])
     refine sE ?_;exact⟨⟨n,l3,D3,own3,tok3,nt3⟩,⟨by simp only;omega,hR2,hl3,hf3,hdf,htk3⟩,by simp only;omega,wM htk3.le rfl (by simp[ToL,lk]) (by simp[aC,lk])⟩
    .rw[if_pos d1] at hR2;subst hR2;have hb:(e != 0)=true:=by simp[d1]
     try (simp[hb])
     repeat ((first|refine sR ?_|refine sC ?_|refine sX ?_);simp[hb])
     refine sT (sG Hb Ht htk3.old htk3.le ?_);simp[bS]
   .simp only at he;have h3:=hbd he;rw[if_pos he] at hR2;subst hR2;have:e=3:=congrArg Prod.snd h3
    subst this;try (simp)
    repeat ((first|refine sR ?_|refine sC ?_|refine sX ?_);simp)
    refine sT (sG Hb Ht htk3.old htk3.le ?_);simp[bS]
set_option maxRecDepth 100000 in
theorem aB1(a b:Ob)(ha:a.g.Fit):DC 41 [a.av,b.av] (B (obE a b)):=by
 intro tok nt box nb;have hs:=aH4 a.g b.g ha;obtain⟨R,hR⟩:∃R,obE a b=R:=⟨_,rfl⟩
 rw[hR];unfold obE at hR;refine sI func41 ntmps41 fun Hb Ht=>?_
 by_cases e1:a.ru=b.ru
 case neg =>
  have b1:(a.ru==b.ru)=false:=by simp[e1]
  rw[decide_eq_false e1] at hR;simp at hR;subst hR;try (simp[b1])
  repeat ((first|refine sR ?_|refine sC ?_|refine sX ?_);simp[b1])
  refine sT (sH Hb Ht ?_);simp
 have b1:(a.ru==b.ru)=true:=by simp[e1]
 by_cases e2:a.con=b.con
 case neg =>
  have b2:(a.con==b.con)=false:=by simp[e2]
  rw[decide_eq_false e2] at hR;simp at hR;subst hR;try (simp[b1,b2])
  repeat ((first|refine sR ?_|refine sC ?_|refine sX ?_);simp[b1,b2])
  refine sT (sH Hb Ht ?_);simp
 have b2:(a.con==b.con)=true:=by simp[e2]
 by_cases e3:a.way=b.way
 case neg =>
  have b3:(a.way==b.way)=false:=by simp[e3]
  rw[decide_eq_false e3] at hR;simp at hR;subst hR;try (simp[b1,b2,b3])
  repeat ((first|refine sR ?_|refine sC ?_|refine sX ?_);simp[b1,b2,b3])
  refine sT (sH Hb Ht ?_);simp
 have b3:(a.way==b.way)=true:=by simp[e3]
 rw[decide_eq_true e1,decide_eq_true e2,decide_eq_true e3,Bool.true_and,Bool.true_and,Bool.true_and] at hR;try (simp[b1,b2,b3])
 repeat ((first|refine sR ?_|refine sC ?_|refine sX ?_);simp[b1,b2,b3])
 refine sD (hs _ _) ?_;simp;rw[hR];try (simp)
 repeat ((first|refine sR ?_|refine sC ?_|refine sX ?_);simp)
 refine sT (sH Hb Ht ?_);simp
set_option maxRecDepth 100000 in
theorem aKa(t:Ty)(ht:t.Fit)(l:List Co)(hl:l.length<=1000000)(hc:∀c∈l,c.g.Fit)(d:Du)(hd:d.o.g.Fit)(x:Dc)(hx:x.Fit):DC 56 [t.av,.d (bS l),d.av,x.av] (B (aGo t l d x)):=by
 intro tok nt box nb;have hsg:=aB1 d.o x.o hd;have hmn:=hx.m.n;have hme:=hx.m.e;have hcm:obE x.o d.o=obE d.o x.o:=by
  unfold obE;simp only[eq_comm]
 obtain⟨R,hR⟩:∃R,aGo t l d x=R:=⟨_,rfl⟩
 rw[hR];unfold aGo at hR;rw[hcm] at hR;refine sI func56 ntmps56 fun Hb Ht=>?_
 try (simp)
 repeat ((first|refine sR ?_|refine sC ?_|refine sX ?_);simp)
 refine sD (hsg _ _) ?_;simp;cases e1:obE d.o x.o
 .rw[e1,Bool.false_and] at hR;subst hR;try (simp)
  repeat ((first|refine sR ?_|refine sC ?_|refine sX ?_);simp)
  refine sT (sH Hb Ht ?_);simp
 rw[e1,Bool.true_and] at hR;cases hs:d.step
 .rw[hs,if_neg (by simp)] at hR;have hw:IntKind.i64.wrap ((x.m.nodes.length:Int)+(x.m.edges.length:Int))=((x.m.nodes.length+x.m.edges.length:Nat):Int):=by rw[aM (by omega) (by omega)];rfl
  by_cases e5:x.con = -1
  .have b5:(x.con == -1)=true:=by simp[e5]
   rw[decide_eq_true e5,Bool.true_and] at hR;have hb0:((x.m.nodes.length:Int)+(x.m.edges.length:Int)==0)=(decide (x.m.nodes=[])&&decide (x.m.edges=[])):=by
    rw[Bool.eq_iff_iff,beq_iff_eq,Bool.and_eq_true,decide_eq_true_eq,decide_eq_true_eq,<-List.length_eq_zero_iff,<-List.length_eq_zero_iff];omega
   try (simp[hs,b5,hw])
   repeat ((first|refine sR ?_|refine sC ?_|refine sX ?_);simp[hs,b5,hw])
   refine sT (sH Hb Ht ?_);simp[<-hR,hb0]
  .have b5:(x.con == -1)=false:=by simp[e5]
   rw[decide_eq_false e5,Bool.false_and] at hR;subst hR;try (simp[hs,b5])
   repeat ((first|refine sR ?_|refine sC ?_|refine sX ?_);simp[hs,b5])
   refine sT (sH Hb Ht ?_);simp
 .rw[hs,if_pos rfl] at hR;by_cases e5:0<=x.con
  case neg =>
   rw[decide_eq_false (fun h=>e5 h.1),Bool.false_and] at hR;subst hR;try (simp[hs,e5])
   repeat ((first|refine sR ?_|refine sC ?_|refine sX ?_);simp[hs,e5])
   refine sT (sH Hb Ht ?_);simp
  by_cases e6:x.con<l.length
  case neg =>
   rw[decide_eq_false (fun h=>e6 h.2),Bool.false_and] at hR;subst hR;try (simp[hs,e5,e6])
   repeat ((first|refine sR ?_|refine sC ?_|refine sX ?_);simp[hs,e5,e6])
   refine sT (sH Hb Ht ?_);simp
  rw[decide_eq_true ⟨e5,e6⟩,Bool.true_and] at hR;have hk:x.con.toNat<l.length:=by omega
  have hget:l[x.con.toNat]?=some l[x.con.toNat]:=List.getElem?_eq_getElem hk
  rw[hget] at hR;have hcf:=hc _ (List.getElem_mem hk);obtain⟨c,hcc⟩:∃c,l[x.con.toNat]=c:=⟨_,rfl⟩
  rw[hcc] at hR hcf hget;have hch:=aFZ t ht c.g d.o.g hcf hd x.m true;try (simp[hs,e5,e6,hk,hget,hcc])
  repeat ((first|refine sR ?_|refine sC ?_|refine sX ?_);simp[hs,e5,e6,hk,hget,hcc])
  refine sD (hch _ _) ?_;simp;have hb0:(aGX t c.g d.o.g x.m true==0)=decide (aGX t c.g d.o.g x.m true=0):=rfl
  try (simp)
  repeat ((first|refine sR ?_|refine sC ?_|refine sX ?_);simp)
  refine sT (sH Hb Ht ?_);simp[<-hR,hb0]
def aNC(t:Ty)(l:List Co)(D:List Du)(p:List Dc)(nb:Nat)(box:Bxs)(tok:Tks)(nt:Nat)(i:Nat):AS :=
 ⟨tl [(11,I i),(9,.d (rK D)),(7,.ptr (nb+7) 0 0),(2,.d (bS l)),(4,.ptr (nb+4) 0 0)],lb nb box [(7,[[.d (aHQ p)]]),(4,[fD t])],tok,nt⟩
set_option maxRecDepth 100000 in
theorem aNi(t:Ty)(L:List Ru)(l:List Co)(h:bT t L l)(hL:L.length<=1000000)(hl:l.length<=1000000)(p:List Dc)(hp:∀x∈p,x.Fit):DC 25 [t.av,.d (eS L),.d (bS l),.agg [.d (aHQ p)]] (B (aMn t L l p)):=by
 intro tok nt box nb;have hg:=zO t L l h hL hl;obtain⟨R,hR⟩:∃R,aMn t L l p=R:=⟨_,rfl⟩
 rw[hR];unfold aMn dX at hR;refine sI func25 ntmps25 fun Hb Ht=>?_
 repeat first|simp|refine sR ?_
 refine sD (hg _ _) ?_;simp;by_cases e:fL t L l=0
 case neg =>
  have hb:(fL t L l != 0)=true:=by simp[e]
  rw[if_pos e,decide_eq_false e,Bool.false_and,Bool.false_and] at hR;subst hR;try (simp[hb])
  repeat ((first|refine sR ?_|refine sC ?_|refine sX ?_);simp[hb])
  refine sT (sH Hb Ht ?_);simp
 rw[if_neg (by simp[e])] at hR;obtain⟨hT,hru,_,h6,h8⟩:=kP e;have hdu:=xA t L l h hT hru h6 h8;have hD:=qB h hT hru h6 h8;obtain⟨⟨D,e7⟩,hE⟩:∃E,iX t L l=E:=⟨_,rfl⟩
 rw[hE] at hR hdu hD;simp only at hR hdu hD;have hDn:=hD.n;try (simp[e])
 repeat ((first|refine sR ?_|refine sC ?_|refine sX ?_);simp[e])
 refine sD (hdu _ _) ?_;simp;by_cases e1:e7=0
 case neg =>
  have hb:(e7 != 0)=true:=by simp[e1]
  rw[decide_eq_false e1,Bool.false_and,Bool.false_and] at hR;subst hR;try (simp[hb])
  repeat ((first|refine sR ?_|refine sC ?_|refine sX ?_);simp[hb])
  refine sT (sH Hb Ht ?_);simp
 subst e1;rw[decide_eq_true rfl,Bool.true_and] at hR;by_cases e2:D.length=p.length
 case neg =>
  have hb:((D.length:Int) != (p.length:Int))=true:=by simp;omega
  rw[decide_eq_false e2,Bool.false_and] at hR;subst hR;try (simp[hb])
  repeat ((first|refine sR ?_|refine sC ?_|refine sX ?_);simp[hb])
  refine sT (sH Hb Ht ?_);simp
 have hb:((D.length:Int) != (p.length:Int))=false:=by simp;omega
 rw[decide_eq_true e2,Bool.true_and] at hR;try (simp[hb])
 repeat ((first|refine sR ?_|refine sC ?_|refine sX ?_);simp[hb])
 refine sN ?_;refine sL (aNC t l D p nb box tok nt) (fun i=>i<=D.length/\∀j,j<i->(match D[j]?,p[j]? with|some d,some x=>aGo t l d x|_,_=>false)=true) (fun i=>D.length-i) 0 ⟨Nat.zero_le _,fun j hj=>absurd hj (Nat.not_lt_zero _)⟩ wkA ?_;rintro i S ⟨hi,hok⟩ hS;simp only[aNC] at hS;subst hS;have hw:=sW (i:=i) (by omega);by_cases hlt:i<D.length
 .have hlp:i<p.length:=by omega
  have hget:=aEY hlt;have hgp:=aPP hlp;have hg1:D[i]?=some D[i]:=List.getElem?_eq_getElem hlt
  have hg2:p[i]?=some p[i]:=List.getElem?_eq_getElem hlp
  have hdg:=hD.g _ (List.getElem_mem hlt);have hxf:=hp _ (List.getElem_mem hlp);obtain⟨d,hd9⟩:∃d,D[i]=d:=⟨_,rfl⟩
  obtain⟨x,hx9⟩:∃x,p[i]=x:=⟨_,rfl⟩
  rw[hd9] at hget hg1 hdg;rw[hx9] at hgp hg2 hxf;have hr:=aKa t h.t l hl (fun c hc=>(h.l c hc).g) d hdg x hxf;try (simp[hlt,hget,hlp,hgp,hd9,hx9])
  repeat ((first|refine sR ?_|refine sC ?_|refine sX ?_);simp[hlt,hget,hlp,hgp,hd9,hx9])
  refine sD (hr _ _) ?_;simp;cases e3:aGo t l d x
  .have:R=false:=by
    rw[<-hR,List.all_eq_false];exact⟨i,List.mem_range.2 hlp,by simp only[hg1,hg2,e3];simp⟩
   subst this;try (simp)
   repeat ((first|refine sR ?_|refine sC ?_|refine sX ?_);simp)
   refine sT (sH Hb Ht ?_);simp
  .try (simp[hw])
   repeat ((first|refine sR ?_|refine sC ?_|refine sX ?_);simp[hw])
   refine sE ?_;refine⟨i+1,⟨hlt,fun j hj=>?_⟩,by omega,wkA⟩;by_cases ej:j=i
   .subst ej;simp only[hg1,hg2,e3]
   .exact hok j (by omega)
 .have:i=D.length:=by omega
  subst this;have:R=true:=by
   rw[<-hR,List.all_eq_true];exact fun j hj=>hok j (by rw[e2];exact List.mem_range.1 hj)
  subst this;try (simp)
  repeat ((first|refine sR ?_|refine sC ?_|refine sX ?_);simp)
  refine sT (sH Hb Ht ?_);simp
def obL(a b:List Ob):Bool:=decide (a.length=b.length)&&(List.range a.length).all fun i=>match a[i]?,b[i]? with|some x,some y=>obE x y|_,_=>false
theorem aG4(a:Ob):obE a a=true:=by simp[obE]
theorem aH0(a:List Ob):obL a a=true:=by
 unfold obL;rw[decide_eq_true rfl,Bool.true_and,List.all_eq_true];intro i hi;rw[List.getElem?_eq_getElem (List.mem_range.1 hi)];exact aG4 _
def aPc(a b:List Ob)(nb:Nat)(box:Bxs)(tok:Tks)(nt:Nat)(i:Nat):AS :=
 ⟨tl [(5,I i),(0,.d (sQ a)),(1,.d (sQ b))],lb nb box [],tok,nt⟩
set_option maxRecDepth 100000 in
theorem aF2(a b:List Ob)(ha:a.length<=100000000)(hf:∀o∈a,o.g.Fit):DC 15 [.d (sQ a),.d (sQ b)] (B (obL a b)):=by
 intro tok nt box nb;obtain⟨R,hR⟩:∃R,obL a b=R:=⟨_,rfl⟩
 rw[hR];unfold obL at hR;refine sI func15 ntmps15 fun Hb Ht=>?_
 by_cases e2:a.length=b.length
 case neg =>
  have hb:((a.length:Int) != (b.length:Int))=true:=by simp;omega
  rw[decide_eq_false e2,Bool.false_and] at hR;subst hR;try (simp[hb])
  repeat ((first|refine sR ?_|refine sC ?_|refine sX ?_);simp[hb])
  refine sT (sH Hb Ht ?_);simp
 have hb:((a.length:Int) != (b.length:Int))=false:=by simp;omega
 rw[decide_eq_true e2,Bool.true_and] at hR;try (simp[hb])
 repeat ((first|refine sR ?_|refine sC ?_|refine sX ?_);simp[hb])
 refine sN ?_;refine sL (aPc a b nb box tok nt) (fun i=>i<=a.length/\∀j,j<i->(match a[j]?,b[j]? with|some x,some y=>obE x y|_,_=>false)=true) (fun i=>a.length-i) 0 ⟨Nat.zero_le _,fun j hj=>absurd hj (Nat.not_lt_zero _)⟩ wkA ?_;rintro i S ⟨hi,hok⟩ hS;simp only[aPc] at hS;subst hS;have hw:=sW (i:=i) (by omega);by_cases hlt:i<a.length
 .have hlp:i<b.length:=by omega
  have hget:=aHV hlt;have hgp:=aHV hlp;have hg1:a[i]?=some a[i]:=List.getElem?_eq_getElem hlt
  have hg2:b[i]?=some b[i]:=List.getElem?_eq_getElem hlp
  have hxf:=hf _ (List.getElem_mem hlt);obtain⟨x,hx9⟩:∃x,a[i]=x:=⟨_,rfl⟩
  obtain⟨y,hy9⟩:∃y,b[i]=y:=⟨_,rfl⟩
  rw[hx9] at hget hg1 hxf;rw[hy9] at hgp hg2;have hr:=aB1 x y hxf;try (simp[hlt,hget,hlp,hgp,hx9,hy9])
  repeat ((first|refine sR ?_|refine sC ?_|refine sX ?_);simp[hlt,hget,hlp,hgp,hx9,hy9])
  refine sD (hr _ _) ?_;simp;cases e3:obE x y
  .have:R=false:=by
    rw[<-hR,List.all_eq_false];exact⟨i,List.mem_range.2 hlt,by simp only[hg1,hg2,e3];simp⟩
   subst this;try (simp)
   repeat ((first|refine sR ?_|refine sC ?_|refine sX ?_);simp)
   refine sT (sH Hb Ht ?_);simp
  .try (simp[hw])
   repeat ((first|refine sR ?_|refine sC ?_|refine sX ?_);simp[hw])
   refine sE ?_;refine⟨i+1,⟨hlt,fun j hj=>?_⟩,by omega,wkA⟩;by_cases ej:j=i
   .subst ej;simp only[hg1,hg2,e3]
   .exact hok j (by omega)
 .have:i=a.length:=by omega
  subst this;have:R=true:=by
   rw[<-hR,List.all_eq_true];exact fun j hj=>hok j (List.mem_range.1 hj)
  subst this;try (simp)
  repeat ((first|refine sR ?_|refine sC ?_|refine sX ?_);simp)
  refine sT (sH Hb Ht ?_);simp
def aGj(x:Xt):Bool:=if qW x.g=true then uA x.m 140 else false
def aEk(c:Co):Bool:=if 60<c.name.size then false else if 10<c.exts.length then false else if qW c.g=true then cI aGj c.exts else false
theorem aIZ{α:Type}{p:α->Bool}{l:List α}(h:cI p l=true):∀x∈l,p x=true:=List.all_eq_true.1 h
theorem aBZ{c:Co}(h:aEk c=true):c.Fit/\c.exts.length<=10:=by
 unfold aEk at h;split at h
 .cases h
 rename_i h1;split at h
 .cases h
 rename_i h2;split at h
 .rename_i h3;refine⟨⟨by omega,qP h3,by omega,fun x hx=>?_⟩,by omega⟩;have:=aIZ h x hx
  unfold aGj at this;split at this
  .rename_i h4;exact⟨sA this,qP h4⟩
  .cases this
 .cases h
def aJ5(c:Co)(nb:Nat)(box:Bxs)(tok:Tks)(nt:Nat)(i:Nat):AS :=
 ⟨tl [(3,I i),(1,.ptr (nb+1) 0 0)],lb nb box [(1,[c.row])],tok,nt⟩
theorem aK4(c:Co)(hc:c.Big):DC 107 [c.av] (B (aEk c)):=by
 intro tok nt box nb;have hn:=hc.n;rw[bM] at hn;have hnm:=hc.name;have h1:=uP c.g;obtain⟨N,hN⟩:∃N,aEk c=N:=⟨_,rfl⟩
 rw[hN];unfold aEk at hN;by_cases e1:60<c.name.size
 .have e1':(60:Int)<c.name.size:=by omega
  rw[if_pos e1] at hN;refine sI func107 ntmps107 fun Hb Ht=>?_
  try (simp[e1,e1'])
  repeat ((first|refine sR ?_|refine sC ?_|refine sX ?_);simp[e1,e1'])
  refine sT (sH Hb Ht ?_);simp[<-hN]
 .have e1':¬(60:Int)<c.name.size:=by omega
  rw[if_neg e1] at hN;by_cases e2:10<c.exts.length
  .have e2':(10:Int)<c.exts.length:=by omega
   rw[if_pos e2] at hN;refine sI func107 ntmps107 fun Hb Ht=>?_
   try (simp[e1,e1',e2,e2'])
   repeat ((first|refine sR ?_|refine sC ?_|refine sX ?_);simp[e1,e1',e2,e2'])
   refine sT (sH Hb Ht ?_);simp[<-hN]
  .have e2':¬(10:Int)<c.exts.length:=by omega
   rw[if_neg e2] at hN;refine sI func107 ntmps107 fun Hb Ht=>?_
   try (simp[e1,e1',e2,e2'])
   repeat ((first|refine sR ?_|refine sC ?_|refine sX ?_);simp[e1,e1',e2,e2'])
   refine sD (h1 _ _) ?_;simp;cases e3:qW c.g
   .rw[e3,if_neg (by simp)] at hN;try (simp)
    repeat ((first|refine sR ?_|refine sC ?_|refine sX ?_);simp)
    refine sT (sH Hb Ht ?_);simp[<-hN]
   .rw[e3,if_pos rfl] at hN;try (simp)
    repeat ((first|refine sR ?_|refine sC ?_|refine sX ?_);simp)
    refine sN ?_;refine sL (aJ5 c nb box tok nt) (fun i=>i<=c.exts.length/\cI aGj (c.exts.take i)=true) (fun i=>c.exts.length-i) 0 ⟨Nat.zero_le _,by simp[cI]⟩ wkA ?_;rintro i S' ⟨hi,hok⟩ hS;simp only[aJ5] at hS;subst hS;have hw:=sW (i:=i) (by omega);repeat first|simp|refine sR ?_|refine sC ?_
    refine⟨fun hlt=>?_,fun hge=>?_⟩
    .have hno:=fun h=>fP (p:=aGj) hlt h
     have hyes:=fun h=>cY (p:=aGj) hlt hok h
     have hb:=hc.exts _ (List.getElem_mem hlt);have b1:=hb.mn;have b2:=hb.me;rw[bM] at b1 b2;have c1:=uP c.exts[i].g;have c2:=aFL c.exts[i].m 140 (by omega) (by omega);have hd:aGj c.exts[i]=if qW c.exts[i].g=true then uA c.exts[i].m 140 else false:=rfl
     repeat first|simp[hlt]|refine sR ?_
     refine sD (c1 _ _) ?_;simp;cases e4:qW c.exts[i].g
     .rw[e4,if_neg (by simp)] at hd;rw[hno hd] at hN;try (simp)
      repeat ((first|refine sR ?_|refine sC ?_|refine sX ?_);simp)
      refine sT (sH Hb Ht ?_);simp[<-hN]
     .rw[e4,if_pos rfl] at hd;try (simp[hlt])
      repeat ((first|refine sR ?_|refine sC ?_|refine sX ?_);simp[hlt])
      refine sD (c2 _ _) ?_;simp;cases e5:uA c.exts[i].m 140
      .rw[e5] at hd;rw[hno hd] at hN;try (simp)
       repeat ((first|refine sR ?_|refine sC ?_|refine sX ?_);simp)
       refine sT (sH Hb Ht ?_);simp[<-hN]
      .rw[e5] at hd;try (simp[hw])
       repeat ((first|refine sR ?_|refine sC ?_|refine sX ?_);simp[hw])
       refine sE ?_;exact⟨i+1,⟨hlt,hyes hd⟩,by omega,wkA⟩
    .refine sX ?_;simp only[AU,↓reduceIte];have:i=c.exts.length:=by omega
     subst this;rw[List.take_length] at hok;rw[hok] at hN;repeat first|simp|refine sR ?_
     refine sT (sH Hb Ht ?_);simp[<-hN]
def aIv(x:Xt):Bool:=if 3<x.g.nodes.length then false else if 3<x.g.edges.length then false else true
def aDl(c:Co):Bool:=if aEk c=true then (if lA c≠0 then true else if 3<c.g.nodes.length then false else if 2<c.g.edges.length then false else if 2<c.exts.length then false else cI aIv c.exts) else false
theorem aGk(c:Co)(hb:c.Big):DC 64 [c.av] (B (aDl c)):=by
 intro tok nt box nb;have h1:=aK4 c hb;obtain⟨N,hN⟩:∃N,aDl c=N:=⟨_,rfl⟩
 rw[hN];unfold aDl at hN;have hf:=@aBZ c;refine sI func64 ntmps64 fun Hb Ht=>?_
 repeat first|simp|refine sR ?_
 refine sD (h1 _ _) ?_;simp;cases e0:aEk c
 .rw[e0,if_neg (by simp)] at hN;try (simp)
  repeat ((first|refine sR ?_|refine sC ?_|refine sX ?_);simp)
  refine sT (sH Hb Ht ?_);simp[<-hN]
 .rw[e0,if_pos rfl] at hN;obtain⟨hc,hx10⟩:=hf e0;have h2:=aHp c hc;have hgn:=hc.g.n;have hge:=hc.g.e;try (simp)
  repeat ((first|refine sR ?_|refine sC ?_|refine sX ?_);simp)
  refine sD (h2 _ _) ?_;simp;by_cases e1:lA c=0
  .rw[if_neg (by simp[e1])] at hN;by_cases s1:3<c.g.nodes.length
   .have s1':(3:Int)<c.g.nodes.length:=by omega
    rw[if_pos s1] at hN;try (simp[e1,s1,s1'])
    repeat ((first|refine sR ?_|refine sC ?_|refine sX ?_);simp[e1,s1,s1'])
    refine sT (sH Hb Ht ?_);simp[<-hN]
   .have s1':¬(3:Int)<c.g.nodes.length:=by omega
    rw[if_neg s1] at hN;by_cases s2:2<c.g.edges.length
    .have s2':(2:Int)<c.g.edges.length:=by omega
     rw[if_pos s2] at hN;try (simp[e1,s1,s1',s2,s2'])
     repeat ((first|refine sR ?_|refine sC ?_|refine sX ?_);simp[e1,s1,s1',s2,s2'])
     refine sT (sH Hb Ht ?_);simp[<-hN]
    .have s2':¬(2:Int)<c.g.edges.length:=by omega
     rw[if_neg s2] at hN;by_cases s3:2<c.exts.length
     .have s3':(2:Int)<c.exts.length:=by omega
      rw[if_pos s3] at hN;try (simp[e1,s1,s1',s2,s2',s3,s3'])
      repeat ((first|refine sR ?_|refine sC ?_|refine sX ?_);simp[e1,s1,s1',s2,s2',s3,s3'])
      refine sT (sH Hb Ht ?_);simp[<-hN]
     .have s3':¬(2:Int)<c.exts.length:=by omega
      rw[if_neg s3] at hN;try (simp[e1,s1,s1',s2,s2',s3,s3'])
      repeat ((first|refine sR ?_|refine sC ?_|refine sX ?_);simp[e1,s1,s1',s2,s2',s3,s3'])
      refine sN ?_;refine sL (aJ5 c nb box tok nt) (fun i=>i<=c.exts.length/\cI aIv (c.exts.take i)=true) (fun i=>c.exts.length-i) 0 ⟨Nat.zero_le _,by simp[cI]⟩ wkA ?_;rintro i S' ⟨hi,hok⟩ hS;simp only[aJ5] at hS;subst hS;have hw:=sW (i:=i) (by omega);repeat first|simp|refine sR ?_|refine sC ?_
      refine⟨fun hlt=>?_,fun hge=>?_⟩
      .have hno:=fun h=>fP (p:=aIv) hlt h
       have hyes:=fun h=>cY (p:=aIv) hlt hok h
       have hd:aIv c.exts[i]=if 3<c.exts[i].g.nodes.length then false else if 3<c.exts[i].g.edges.length then false else true:=rfl
       by_cases t1:3<c.exts[i].g.nodes.length
       .have t1':(3:Int)<c.exts[i].g.nodes.length:=by omega
        rw[if_pos t1] at hd;rw[hno hd] at hN;try (simp[hlt,t1,t1'])
        repeat ((first|refine sR ?_|refine sC ?_|refine sX ?_);simp[hlt,t1,t1'])
        refine sT (sH Hb Ht ?_);simp[<-hN]
       .have t1':¬(3:Int)<c.exts[i].g.nodes.length:=by omega
        rw[if_neg t1] at hd;by_cases t2:3<c.exts[i].g.edges.length
        .have t2':(3:Int)<c.exts[i].g.edges.length:=by omega
         rw[if_pos t2] at hd;rw[hno hd] at hN;try (simp[hlt,t1,t1',t2,t2'])
         repeat ((first|refine sR ?_|refine sC ?_|refine sX ?_);simp[hlt,t1,t1',t2,t2'])
         refine sT (sH Hb Ht ?_);simp[<-hN]
        .have t2':¬(3:Int)<c.exts[i].g.edges.length:=by omega
         rw[if_neg t2] at hd;try (simp[hlt,t1,t1',t2,t2',hw])
         repeat ((first|refine sR ?_|refine sC ?_|refine sX ?_);simp[hlt,t1,t1',t2,t2',hw])
         refine sE ?_;exact⟨i+1,⟨hlt,hyes hd⟩,by omega,wkA⟩
      .refine sX ?_;simp only[AU,↓reduceIte];have:i=c.exts.length:=by omega
       subst this;rw[List.take_length] at hok;rw[hok] at hN;repeat first|simp|refine sR ?_
       refine sT (sH Hb Ht ?_);simp[<-hN]
  .have b1:(lA c != 0)=true:=by simp[e1]
   rw[if_pos e1] at hN;try (simp[b1])
   repeat ((first|refine sR ?_|refine sC ?_|refine sX ?_);simp[b1])
   refine sT (sH Hb Ht ?_);simp[<-hN]
def aEc(r:Ru):Bool:=if aBJ r=true then (if cN r=0 then (if r.lg.nodes.length<=4 then (if r.lg.edges.length<=4 then (if r.rg.nodes.length<=4 then decide (r.rg.edges.length<=4) else false) else false) else false) else true) else false
theorem aDw{r:Ru}(hb:r.Big)(h:aEc r=true):r.Fit:=by
 unfold aEc at h;split at h
 .rename_i h1;exact aCw hb h1
 .cases h
theorem aGt(r:Ru)(hb:r.Big):DC 62 [r.av] (B (aEc r)):=by
 intro tok nt box nb;have h1:=aK6 r hb;have hf:=@aCw r hb;obtain⟨N,hN⟩:∃N,aEc r=N:=⟨_,rfl⟩
 rw[hN];unfold aEc at hN;refine sI func62 ntmps62 fun Hb Ht=>?_
 repeat first|simp|refine sR ?_
 refine sD (h1 _ _) ?_;simp;cases e0:aBJ r
 .rw[e0,if_neg (by simp)] at hN;try (simp)
  repeat ((first|refine sR ?_|refine sC ?_|refine sX ?_);simp)
  refine sT (sH Hb Ht ?_);simp[<-hN]
 .rw[e0,if_pos rfl] at hN;have h2:=fT r (hf e0);try (simp)
  repeat ((first|refine sR ?_|refine sC ?_|refine sX ?_);simp)
  refine sD (h2 _ _) ?_;simp;by_cases e1:cN r=0
  .rw[if_pos e1] at hN;have w:∀n:Nat,((n:Int)<=4)↔n<=4:=fun n=>by omega
   by_cases s1:r.lg.nodes.length<=4
   .have s1':=(w _).2 s1
    rw[if_pos s1] at hN;by_cases s2:r.lg.edges.length<=4
    .have s2':=(w _).2 s2
     rw[if_pos s2] at hN;by_cases s3:r.rg.nodes.length<=4
     .have s3':=(w _).2 s3
      rw[if_pos s3] at hN;by_cases s4:r.rg.edges.length<=4
      .have s4':=(w _).2 s4
       rw[decide_eq_true s4] at hN;try (simp[e1,s1,s1',s2,s2',s3,s3',s4,s4'])
       repeat ((first|refine sR ?_|refine sC ?_|refine sX ?_);simp[e1,s1,s1',s2,s2',s3,s3',s4,s4'])
       refine sT (sH Hb Ht ?_);simp[<-hN,s4']
      .have s4':¬(r.rg.edges.length:Int)<=4:=fun h=>s4 ((w _).1 h)
       rw[decide_eq_false s4] at hN;try (simp[e1,s1,s1',s2,s2',s3,s3',s4,s4'])
       repeat ((first|refine sR ?_|refine sC ?_|refine sX ?_);simp[e1,s1,s1',s2,s2',s3,s3',s4,s4'])
       refine sT (sH Hb Ht ?_);simp[<-hN,s4']
     .have s3':¬(r.rg.nodes.length:Int)<=4:=fun h=>s3 ((w _).1 h)
      rw[if_neg s3] at hN;try (simp[e1,s1,s1',s2,s2',s3,s3'])
      repeat ((first|refine sR ?_|refine sC ?_|refine sX ?_);simp[e1,s1,s1',s2,s2',s3,s3'])
      refine sT (sH Hb Ht ?_);simp[<-hN]
    .have s2':¬(r.lg.edges.length:Int)<=4:=fun h=>s2 ((w _).1 h)
     rw[if_neg s2] at hN;try (simp[e1,s1,s1',s2,s2'])
     repeat ((first|refine sR ?_|refine sC ?_|refine sX ?_);simp[e1,s1,s1',s2,s2'])
     refine sT (sH Hb Ht ?_);simp[<-hN]
   .have s1':¬(r.lg.nodes.length:Int)<=4:=fun h=>s1 ((w _).1 h)
    rw[if_neg s1] at hN;try (simp[e1,s1,s1'])
    repeat ((first|refine sR ?_|refine sC ?_|refine sX ?_);simp[e1,s1,s1'])
    refine sT (sH Hb Ht ?_);simp[<-hN]
  .have b1:(cN r != 0)=true:=by simp[e1]
   rw[if_neg e1] at hN;try (simp[b1,e1])
   repeat ((first|refine sR ?_|refine sC ?_|refine sX ?_);simp[b1,e1])
   refine sT (sH Hb Ht ?_);simp[<-hN]
theorem aJr{c:Co}(h:aDl c=true):c.Fit:=by
 unfold aDl at h;split at h
 .rename_i h1;exact(aBZ h1).1
 .cases h
theorem AL.cut_aux{P:Program}{cx:Cx}{nt0:Nat}{K K':Exit->AS->Prop}{R:List CI}(hn:∀S,K' .normal S->AL P cx nt0 K R S)(he:∀e S,e≠.normal->K' e S->AU P cx nt0 K R e S):
  ∀l:List CI,(∀S,AL P cx nt0 K' l S->AL P cx nt0 K (l++R) S)/\∀e S,e≠.normal->AU P cx nt0 K' l e S->AU P cx nt0 K (l++R) e S
 | []=>⟨fun S h=>hn S (by simpa only[AL] using h),fun e S h1 h=>he e S h1 (by simpa only[AU] using h)⟩
 | .c c::l=>by
  obtain⟨i1,i2⟩:=AL.cut_aux hn he l;refine⟨fun S h=>?_,fun e S h1 h=>?_⟩
  .simp only[AL,List.cons_append] at h ⊢;refine h.mono fun e S' h=>?_
   cases e with
   | normal=>exact i1 S' h
   | _=>exact i2 _ _ (by simp) h
  .simp only[AU,List.cons_append] at h ⊢;exact i2 e S h1 h
 | .blk id::l=>by
  obtain⟨i1,i2⟩:=AL.cut_aux hn he l;refine⟨fun S h=>?_,fun e S h1 h=>?_⟩
  .simp only[AL,List.cons_append] at h ⊢;exact i1 S h
  .cases e with
   | normal=>exact absurd rfl h1
   | exit j =>
    simp only[AU,List.cons_append] at h ⊢;split
    .rename_i hj;rw[if_pos hj] at h;exact i1 S h
    .rename_i hj;rw[if_neg hj] at h;exact i2 _ S h1 h
   | _ =>
    simp only[AU,List.cons_append] at h ⊢;exact i2 _ S h1 h
theorem AL.cut{P:Program}{cx:Cx}{nt0:Nat}{K:Exit->AS->Prop}{l r:List CI}{S:AS}{y:Code}{α:Type}(T:α->AS)(inv:α->Prop)(h1:AL P cx nt0 (fun e S'=>match e with
   | .normal=>∃a,inv a/\aS cx nt0 S' (T a)
   | e=>AU P cx nt0 K (.c y::r) e S') l S)(h2:∀a,inv a->AL P cx nt0 K (.c y::r) (T a)):AL P cx nt0 K (l++.c y::r) S:=by
 refine(AL.cut_aux ?_ ?_ l).1 S h1
 .rintro S ⟨a,ha,hw⟩;exact AL.weak hw (h2 a ha)
 .intro e S hne h;cases e with
  | normal=>exact absurd rfl hne
  | _=>exact h
theorem AL.cutP{P:Program}{cx:Cx}{nt0:Nat}{K:Exit->AS->Prop}{l r:List CI}{S:AS}{y:Code}(T:AS)(p:Prop)(h1:AL P cx nt0 (fun e S'=>match e with
   | .normal=>p/\aS cx nt0 S' T
   | e=>AU P cx nt0 K (.c y::r) e S') l S)(h2:p->AL P cx nt0 K (.c y::r) T):AL P cx nt0 K (l++.c y::r) S:=by
 refine(AL.cut_aux ?_ ?_ l).1 S h1
 .rintro S ⟨ha,hw⟩;exact AL.weak hw (h2 ha)
 .intro e S hne h;cases e with
  | normal=>exact absurd rfl hne
  | _=>exact h
def yY(r:Ru):Bool:=aEc r&&!(decide (cN r=0)&&decide (5<r.rg.nodes.length+r.rg.edges.length))
def xP(n a b c:Nat):Bool:=(decide (a<n)&&decide (n<=b))||decide (c<n)
def aEe(t:Ty)(L:List Ru)(l:List Co):Bool:=aDy t&&(!xP L.length 3 6 8&&(!xP l.length 3 8 10&&(L.all yY&&l.all aDl)))
structure qU (t:Ty) (L:List Ru) (l:List Co):Prop where
 nL:L.length<=2000000000000
 nl:l.length<=2000000000000
 t:t.Big
 L:∀r∈L,r.Big
 l:∀c∈l,c.Big
theorem aHH{t:Ty}{L:List Ru}{l:List Co}(h:qU t L l)(hl:aEe t L l=true):bT t L l/\L.length<=8/\l.length<=10:=by
 unfold aEe at hl;simp only[Bool.and_eq_true,Bool.not_eq_true',xP,Bool.or_eq_false_iff,decide_eq_false_iff_not,List.all_eq_true] at hl;obtain⟨h1,⟨_,h2⟩,⟨_,h3⟩,h4,h5⟩:=hl;refine⟨⟨aG7 h1,fun r hr=>?_,fun c hc=>aJr (h5 c hc)⟩,by omega,by omega⟩;have:=h4 r hr
 unfold yY at this;rw[Bool.and_eq_true] at this;exact aDw (h.L r hr) this.1
def yS(t:Ty)(L:List Ru)(l:List Co)(nb:Nat)(box:Bxs)(tok:Tks)(nt:Nat):AS:=⟨tl [(1,.d (eS L)),(2,.d (bS l))],lb nb box [],tok,nt⟩
def aOx(t:Ty)(L:List Ru)(l:List Co)(nb:Nat)(box:Bxs)(tok:Tks)(nt:Nat)(i:Nat):AS:=⟨tl [(7,I i),(1,.d (eS L)),(2,.d (bS l))],lb nb box [],tok,nt⟩
def aC7(l:List Co)(nb:Nat)(box:Bxs)(tok:Tks)(nt:Nat)(i:Nat):AS:=⟨tl [(8,I i),(2,.d (bS l))],lb nb box [],tok,nt⟩
set_option maxRecDepth 100000 in
theorem aGI(t:Ty)(L:List Ru)(l:List Co)(h:qU t L l):DC 27 [t.av,.d (eS L),.d (bS l)] (B (aEe t L l)):=by
 intro tok nt box nb;have h1:=aKY t h.t;have hnL:=h.nL;have hnl:=h.nl;obtain⟨N,hN⟩:∃N,aEe t L l=N:=⟨_,rfl⟩
 rw[hN];unfold aEe at hN;refine sI func27 ntmps27 fun Hb Ht=>?_
 by_cases e1:aDy t=true
 case neg =>
  have e1:aDy t=false:=by simpa using e1
  rw[e1,Bool.false_and] at hN;try (simp)
  repeat ((first|refine sR ?_|refine sC ?_|refine sX ?_);simp)
  refine sD (h1 _ _) ?_;simp;rw[e1];try (simp)
  repeat ((first|refine sR ?_|refine sC ?_|refine sX ?_);simp)
  refine sT (sH Hb Ht ?_);simp[<-hN]
 rw[e1,Bool.true_and] at hN;refine sR ?_;simp;refine sN ?_;refine AL.cutP (l:=[_,_]) (yS t L l nb box tok nt) (xP L.length 3 6 8=false/\xP l.length 3 8 10=false) ?_ fun hp=>?_
 .skip
  have hout:xP L.length 3 6 8=true->N=false:=fun h=>by rw[<-hN,h];rfl
  have hout2:xP l.length 3 8 10=true->N=false:=fun h=>by rw[<-hN,h];simp
  have dec:∀{n a b c:Nat},xP n a b c=true↔(a<n/\n<=b)∨c<n:=by intros;simp[xP]
  have lst:∀F:Prop,(¬(3<l.length/\l.length<=8)->¬10<l.length->F)->((3<l.length/\l.length<=8)∨10<l.length->F)->F:=fun F f g=>by
   by_cases c1:3<l.length/\l.length<=8
   .exact g (.inl c1)
   .by_cases c2:10<l.length
    .exact g (.inr c2)
    .exact f c1 c2
  by_cases a1:3<L.length
  .have f1:(3:Int)<L.length:=by omega
   by_cases a2:L.length<=6
   .have f2:(L.length:Int)<=6:=by omega
    have:=hout (dec.2 (.inl ⟨a1,a2⟩))
    subst this;try (simp)
    repeat ((first|refine sR ?_|refine sC ?_|refine sX ?_);simp)
    refine sD (h1 _ _) ?_;simp;rw[e1];try (simp[f1,f2])
    repeat ((first|refine sR ?_|refine sC ?_|refine sX ?_);simp[f1,f2])
    refine sT (sH Hb Ht ?_);simp
   have f2:¬(L.length:Int)<=6:=by omega
   by_cases a3:8<L.length
   .have f3:(8:Int)<L.length:=by omega
    have:=hout (dec.2 (.inr a3))
    subst this;try (simp)
    repeat ((first|refine sR ?_|refine sC ?_|refine sX ?_);simp)
    refine sD (h1 _ _) ?_;simp;rw[e1];try (simp[f1,f2,f3])
    repeat ((first|refine sR ?_|refine sC ?_|refine sX ?_);simp[f1,f2,f3])
    refine sT (sH Hb Ht ?_);simp
   have f3:¬(8:Int)<L.length:=by omega
   by_cases b1:3<l.length
   .have g1:(3:Int)<l.length:=by omega
    by_cases b2:l.length<=8
    .have g2:(l.length:Int)<=8:=by omega
     have:=hout2 (dec.2 (.inl ⟨b1,b2⟩))
     subst this;try (simp)
     repeat ((first|refine sR ?_|refine sC ?_|refine sX ?_);simp)
     refine sD (h1 _ _) ?_;simp;rw[e1];try (simp[f1,f2,f3,g1,g2])
     repeat ((first|refine sR ?_|refine sC ?_|refine sX ?_);simp[f1,f2,f3,g1,g2])
     refine sT (sH Hb Ht ?_);simp
    have g2:¬(l.length:Int)<=8:=by omega
    by_cases b3:10<l.length
    .have g3:(10:Int)<l.length:=by omega
     have:=hout2 (dec.2 (.inr b3))
     subst this;try (simp)
     repeat ((first|refine sR ?_|refine sC ?_|refine sX ?_);simp)
     refine sD (h1 _ _) ?_;simp;rw[e1];try (simp[f1,f2,f3,g1,g2,g3])
     repeat ((first|refine sR ?_|refine sC ?_|refine sX ?_);simp[f1,f2,f3,g1,g2,g3])
     refine sT (sH Hb Ht ?_);simp
    have g3:¬(10:Int)<l.length:=by omega
    try (simp)
    repeat ((first|refine sR ?_|refine sC ?_|refine sX ?_);simp)
    refine sD (h1 _ _) ?_;simp;rw[e1];try (simp[f1,f2,f3,g1,g2,g3])
    repeat ((first|refine sR ?_|refine sC ?_|refine sX ?_);simp[f1,f2,f3,g1,g2,g3])
    refine sE ?_;exact⟨⟨by rw[<-Bool.not_eq_true,dec];omega,by rw[<-Bool.not_eq_true,dec];omega⟩,wM (nr0 _) rfl (by simp[yS,ToL,lk]) (by simp[yS,aC,lk])⟩
   have g1:¬(3:Int)<l.length:=by omega
   have g3:¬(10:Int)<l.length:=by omega
   try (simp)
   repeat ((first|refine sR ?_|refine sC ?_|refine sX ?_);simp)
   refine sD (h1 _ _) ?_;simp;rw[e1];try (simp[f1,f2,f3,g1,g3])
   repeat ((first|refine sR ?_|refine sC ?_|refine sX ?_);simp[f1,f2,f3,g1,g3])
   refine sE ?_;exact⟨⟨by rw[<-Bool.not_eq_true,dec];omega,by rw[<-Bool.not_eq_true,dec];omega⟩,wM (nr0 _) rfl (by simp[yS,ToL,lk]) (by simp[yS,aC,lk])⟩
  have f1:¬(3:Int)<L.length:=by omega
  have f3:¬(8:Int)<L.length:=by omega
  by_cases b1:3<l.length
  .have g1:(3:Int)<l.length:=by omega
   by_cases b2:l.length<=8
   .have g2:(l.length:Int)<=8:=by omega
    have:=hout2 (dec.2 (.inl ⟨b1,b2⟩))
    subst this;try (simp)
    repeat ((first|refine sR ?_|refine sC ?_|refine sX ?_);simp)
    refine sD (h1 _ _) ?_;simp;rw[e1];try (simp[f1,f3,g1,g2])
    repeat ((first|refine sR ?_|refine sC ?_|refine sX ?_);simp[f1,f3,g1,g2])
    refine sT (sH Hb Ht ?_);simp
   have g2:¬(l.length:Int)<=8:=by omega
   by_cases b3:10<l.length
   .have g3:(10:Int)<l.length:=by omega
    have:=hout2 (dec.2 (.inr b3))
    subst this;try (simp)
    repeat ((first|refine sR ?_|refine sC ?_|refine sX ?_);simp)
    refine sD (h1 _ _) ?_;simp;rw[e1];try (simp[f1,f3,g1,g2,g3])
    repeat ((first|refine sR ?_|refine sC ?_|refine sX ?_);simp[f1,f3,g1,g2,g3])
    refine sT (sH Hb Ht ?_);simp
   have g3:¬(10:Int)<l.length:=by omega
   try (simp)
   repeat ((first|refine sR ?_|refine sC ?_|refine sX ?_);simp)
   refine sD (h1 _ _) ?_;simp;rw[e1];try (simp[f1,f3,g1,g2,g3])
   repeat ((first|refine sR ?_|refine sC ?_|refine sX ?_);simp[f1,f3,g1,g2,g3])
   refine sE ?_;exact⟨⟨by rw[<-Bool.not_eq_true,dec];omega,by rw[<-Bool.not_eq_true,dec];omega⟩,wM (nr0 _) rfl (by simp[yS,ToL,lk]) (by simp[yS,aC,lk])⟩
  have g1:¬(3:Int)<l.length:=by omega
  have g3:¬(10:Int)<l.length:=by omega
  try (simp)
  repeat ((first|refine sR ?_|refine sC ?_|refine sX ?_);simp)
  refine sD (h1 _ _) ?_;simp;rw[e1];try (simp[f1,f3,g1,g3])
  repeat ((first|refine sR ?_|refine sC ?_|refine sX ?_);simp[f1,f3,g1,g3])
  refine sE ?_;exact⟨⟨by rw[<-Bool.not_eq_true,dec];omega,by rw[<-Bool.not_eq_true,dec];omega⟩,wM (nr0 _) rfl (by simp[yS,ToL,lk]) (by simp[yS,aC,lk])⟩
 .obtain⟨p2,p3⟩:=hp;rw[p2,p3,Bool.not_false,Bool.true_and,Bool.true_and] at hN;have hL8:L.length<=8:=by simp[xP] at p2;omega
  have hl8:l.length<=10:=by simp[xP] at p3;omega
  simp only[yS];try (simp)
  repeat ((first|refine sR ?_|refine sC ?_|refine sX ?_);simp)
  refine sN ?_;refine sL (aOx t L l nb box tok nt) (fun i=>i<=L.length/\∀r∈L.take i,yY r=true) (fun i=>L.length-i) 0 ⟨Nat.zero_le _,by simp⟩ wkA ?_;rintro i S ⟨hi,hok⟩ hS;simp only[aOx] at hS;subst hS;have hw:=sW (i:=i) (by omega);by_cases hlt:i<L.length
  .have hrm:=List.getElem_mem hlt;have hget:=xQ hlt;have hts:=List.take_succ_eq_append_getElem hlt;obtain⟨r,hr⟩:∃r,L[i]=r:=⟨_,rfl⟩
   rw[hr] at hrm hget hts;have hbad:yY r=false->N=false:=fun h=>by
    rw[<-hN,Bool.and_eq_false_iff];refine .inl ?_;rw[List.all_eq_false];exact⟨r,hrm,by simp[h]⟩
   have hmore:yY r=true->∀y∈L.take (i+1),yY y=true:=fun hm y hy=>by
    rw[hts] at hy;rcases List.mem_append.1 hy with hy|hy
    .exact hok y hy
    .rw[List.mem_singleton.1 hy,hm]
   have q1:=aGt r (h.L r hrm);try (simp[hlt,hget,hr,Ru.rowK])
   repeat ((first|refine sR ?_|refine sC ?_|refine sX ?_);simp[hlt,hget,hr,Ru.rowK])
   refine sD (q1 _ _) ?_;simp;cases e2:aEc r
   .have:=hbad (by unfold yY;rw[e2];rfl)
    subst this;try (simp)
    repeat ((first|refine sR ?_|refine sC ?_|refine sX ?_);simp)
    refine sT (sH Hb Ht ?_);simp
   have hfr:=aDw (h.L r hrm) e2;have q2:=fT r hfr;have hrn:=hfr.rg.n;have hre:=hfr.rg.e;try (simp[hlt,hget,hr,Ru.rowK])
   repeat ((first|refine sR ?_|refine sC ?_|refine sX ?_);simp[hlt,hget,hr,Ru.rowK])
   refine sD (q2 _ _) ?_;simp;by_cases e3:cN r=0
   .have b3:(cN r==0)=true:=by simp[e3]
    have hws:IntKind.i64.wrap ((r.rg.nodes.length:Int)+(r.rg.edges.length:Int))=(r.rg.nodes.length:Int)+(r.rg.edges.length:Int):=aM (by omega) (by omega)
    by_cases e4:5<r.rg.nodes.length+r.rg.edges.length
    .have b4:(5:Int)<(r.rg.nodes.length:Int)+(r.rg.edges.length:Int):=by omega
     have:=hbad (by unfold yY;rw[e2,decide_eq_true e3,decide_eq_true e4];rfl)
     subst this;try (simp[b3,b4,hlt,hget,hr,Ru.rowK,hws])
     repeat ((first|refine sR ?_|refine sC ?_|refine sX ?_);simp[b3,b4,hlt,hget,hr,Ru.rowK,hws])
     refine sT (sH Hb Ht ?_);simp
    .have b4:¬(5:Int)<(r.rg.nodes.length:Int)+(r.rg.edges.length:Int):=by omega
     try (simp[b3,b4,hlt,hget,hr,Ru.rowK,hws,hw])
     repeat ((first|refine sR ?_|refine sC ?_|refine sX ?_);simp[b3,b4,hlt,hget,hr,Ru.rowK,hws,hw])
     refine sE ?_;exact⟨i+1,⟨hlt,hmore (by unfold yY;rw[e2,decide_eq_false e4];simp)⟩,by omega,wkA⟩
   .have b3:(cN r==0)=false:=by simp[e3]
    try (simp[b3,hw])
    repeat ((first|refine sR ?_|refine sC ?_|refine sX ?_);simp[b3,hw])
    refine sE ?_;exact⟨i+1,⟨hlt,hmore (by unfold yY;rw[e2,decide_eq_false e3];rfl)⟩,by omega,wkA⟩
  .have:i=L.length:=by omega
   subst this;rw[List.take_length] at hok;rw[List.all_eq_true.2 hok,Bool.true_and] at hN;try (simp)
   repeat ((first|refine sR ?_|refine sC ?_|refine sX ?_);simp)
   refine sN ?_;refine sL (aC7 l nb box tok nt) (fun i=>i<=l.length/\∀c∈l.take i,aDl c=true) (fun i=>l.length-i) 0 ⟨Nat.zero_le _,by simp⟩ wkA ?_;rintro j S ⟨hj,hokc⟩ hS;simp only[aC7] at hS;subst hS;have hw:=sW (i:=j) (by omega);by_cases hlt:j<l.length
   .have hcm:=List.getElem_mem hlt;have hget:l[j]?=some l[j]:=List.getElem?_eq_getElem hlt
    have hts:=List.take_succ_eq_append_getElem hlt;obtain⟨c,hc⟩:∃c,l[j]=c:=⟨_,rfl⟩
    rw[hc] at hcm hget hts;have q1:=aGk c (h.l c hcm);try (simp[hlt,hget,hc])
    repeat ((first|refine sR ?_|refine sC ?_|refine sX ?_);simp[hlt,hget,hc])
    refine sD (q1 _ _) ?_;simp;cases e2:aDl c
    .have:N=false:=by
      rw[<-hN,List.all_eq_false];exact⟨c,hcm,by simp[e2]⟩
     subst this;try (simp)
     repeat ((first|refine sR ?_|refine sC ?_|refine sX ?_);simp)
     refine sT (sH Hb Ht ?_);simp
    .try (simp[hw])
     repeat ((first|refine sR ?_|refine sC ?_|refine sX ?_);simp[hw])
     refine sE ?_;refine⟨j+1,⟨hlt,fun y hy=>?_⟩,by omega,wkA⟩;rw[hts] at hy;rcases List.mem_append.1 hy with hy|hy
     .exact hokc y hy
     .rw[List.mem_singleton.1 hy,e2]
   .have:j=l.length:=by omega
    subst this;rw[List.take_length] at hokc;rw[List.all_eq_true.2 hokc] at hN;try (simp)
    repeat ((first|refine sR ?_|refine sC ?_|refine sX ?_);simp)
    refine sT (sH Hb Ht ?_);simp[<-hN]
theorem aEq(xs:List Co)(hx:xs.length<=1000000)(tok:Tks)(nt:Nat):dI prog 13 [.d (bS xs)] tok nt (.osl 5 (rCo xs) (.tok nt)) (upd tok nt true) (nt+1):=by
 intro box nb;have main:aD prog 13 [.d (bS xs)] ⟨box,nb,tok,nt⟩ fun v m=>(v=.osl 5 (rCo xs) (.tok nt)/\m=⟨box,nb,upd tok nt true,nt+1⟩)∨(xs=[]/\v=.osl 0 [] .full/\m=⟨box,nb,tok,nt⟩):=by
  refine sI func13 ntmps13 fun Hb Ht=>?_
  refine sR ?_;simp;refine sR ?_;simp;refine⟨?_,fun h=>?_⟩
  .refine sC ?_;simp;refine sR ?_;simp;refine⟨by omega,?_⟩;refine sN ?_;refine AL.ret ?_;try simp only[AU]
   refine⟨by simp,(Fin.own (by simp[aP,bI];rfl) Hb rfl (by simp) ?_).mono fun v m hq=>.inl hq⟩;simp
  .refine sC ?_;simp;refine sR ?_;simp;refine sN ?_;refine AL.ret ?_;try simp only[AU]
   refine⟨by simp,(Fin.own (by simp[aP,bI];rfl) Hb rfl (nr0 _) ?_).mono fun v m hq=>.inr ⟨h,hq.1,hq.2⟩⟩;simp
 refine main.conv fun v m h=>?_
 rcases h with ⟨rfl,rfl⟩|⟨rfl,rfl,rfl⟩
 .exact⟨_,_,Conv.refl _ _,rfl,rfl⟩
 .exact⟨_,_,Conv.newtok 0 5 box nb tok nt,rfl,rfl⟩
theorem aEn(xs:List Ru)(hx:xs.length<=1000000)(tok:Tks)(nt:Nat):dI prog 12 [.d (eS xs)] tok nt (.osl 25 (xs.map Ru.rowK) (.tok nt)) (upd tok nt true) (nt+1):=by
 intro box nb;have main:aD prog 12 [.d (eS xs)] ⟨box,nb,tok,nt⟩ fun v m=>(v=.osl 25 (xs.map Ru.rowK) (.tok nt)/\m=⟨box,nb,upd tok nt true,nt+1⟩)∨(xs=[]/\v=.osl 0 [] .full/\m=⟨box,nb,tok,nt⟩):=by
  refine sI func12 ntmps12 fun Hb Ht=>?_
  refine sR ?_;simp;refine sR ?_;simp;refine⟨?_,fun h=>?_⟩
  .refine sC ?_;simp;refine sR ?_;simp;refine⟨by omega,?_⟩;refine sN ?_;refine AL.ret ?_;try simp only[AU]
   refine⟨by simp,(Fin.own (by simp[aP,bI];rfl) Hb rfl (by simp) ?_).mono fun v m hq=>.inl hq⟩;simp
  .refine sC ?_;simp;refine sR ?_;simp;refine sN ?_;refine AL.ret ?_;try simp only[AU]
   refine⟨by simp,(Fin.own (by simp[aP,bI];rfl) Hb rfl (nr0 _) ?_).mono fun v m hq=>.inr ⟨h,hq.1,hq.2⟩⟩;simp
 refine main.conv fun v m h=>?_
 rcases h with ⟨rfl,rfl⟩|⟨rfl,rfl,rfl⟩
 .exact⟨_,_,Conv.refl _ _,rfl,rfl⟩
 .exact⟨_,_,Conv.newtok 0 25 box nb tok nt,rfl,rfl⟩
def lpR:Ru:=⟨⟨#[114]⟩,⟨[1],[]⟩,[],0,[],⟨[1],[⟨1,0,0⟩]⟩,[],0,[],⟨[0],[]⟩,⟨[0],[]⟩,true,sM 1 []⟩
def lpC:Co:=⟨⟨#[99]⟩,1,⟨[1],[⟨1,0,0⟩]⟩,[]⟩
theorem aN5:(lZ exT [lpR] [lpC]).2=10/\(gG exT [lpR] [lpC]).2=0/\(gG exT [lpR] [lpC]).1.length=1/\(gG exT [lpR] [lpC]).1.map (fun o=>o.g.nodes)=[[1]]:=by decide +kernel
theorem aOE:(jI exT [lpR] [lpC] 1).2=0/\(jI exT [lpR] [lpC] 1).1.map (fun c=>c.name.data.toList)=[[99],[115,49]]:=by decide +kernel
theorem aNP:(lZ exT [lpR] (jI exT [lpR] [lpC] 1).1).2=0/\(lZ exT [lpR] (jI exT [lpR] [lpC] 1).1).1.map (fun d=>d.con)=[1]:=by decide +kernel
theorem aK8:lpR.Fit:=⟨⟨by decide,by decide⟩,⟨by decide,by decide⟩,⟨by decide,by decide⟩,⟨by decide,by decide⟩,by rw[bM];simp[lpR],by rw[bM];simp[lpR],by rw[bM];simp[lpR],by rw[bM];simp[lpR]⟩
theorem aJD:lpC.Fit:=⟨by decide,⟨by decide,by decide⟩,by decide,by simp[lpC]⟩
theorem aKg:bT exT [lpR] [lpC]:=⟨aK0,fun r hr=>by rw[List.mem_singleton.1 hr];exact aK8,fun c hc=>by rw[List.mem_singleton.1 hc];exact aJD⟩
set_option maxRecDepth 100000 in
theorem aGg:DC 35 [] (.tup [.d (eS [lpR]),.d (bS [lpC])]):=by
 intro tok nt box nb;refine sI func35 ntmps35 fun Hb Ht=>?_
 repeat first|simp|refine sR ?_
 try refine⟨rfl,?_⟩
 repeat first|simp|refine sR ?_
 try refine⟨rfl,?_⟩
 repeat first|simp|refine sR ?_
 try refine⟨rfl,?_⟩
 repeat first|simp|refine sR ?_
 refine sT (sH Hb Ht ?_);simp[eS,bS,Ru.rowK,lpR,lpC,xts,sM,aAE,ints,AM.edges,gS,gR,Cd.kind,Cd.kids,Cd.m,Cd.g,Cd.sl,Cd.vars,Cd.te,E.cells];exact⟨aDO (by simp[xG,aAK,vT]),aDO (by simp[xG,aAK,vT,xts])⟩
theorem aBV{t:Ty}{L:List Ru}(ht:t.Fit)(hLf:∀r∈L,r.Fit)(hT:tyE t=0)(hru:∀r∈L,ruE t r=0)(hL:L.length<=6):∀(n:Nat) (l:List Co) (D:List Du),l.length<=8->(∀c∈l,c.Fit)->tL D->(yC t L n l D).1.length<=8/\∀c∈(yC t L n l D).1,c.Fit
 | 0,l,D,hl,hf,hD=>by
  rw[yC];split
  .exact⟨hl,hf⟩
  .exact⟨by simp,fun c hc=>absurd hc (by simp)⟩
 | n+1,l,D,hl,hf,hD=>by
  rw[yC];split
  .exact⟨hl,hf⟩
  .split
   .exact⟨by simp,fun c hc=>absurd hc (by simp)⟩
   .split
    .exact⟨by simp,fun c hc=>absurd hc (by simp)⟩
    .have h3:=nK (t:=t) (xs:=jQ t l D) hl;have h4:=nF (t:=t) (xs:=jQ t l D) hl hf (aBw hD).2;exact aBV ht hLf hT hru hL n _ _ h3 h4 (qB ⟨ht,hLf,h4⟩ hT hru hL h3)
theorem aIn{t:Ty}{L:List Ru}{l:List Co}(h:bT t L l)(n:Int):bT t L (jI t L l n).1/\(jI t L l n).1.length<=8:=by
 have nil:bT t L ([]:List Co):=⟨h.t,h.L,fun c hc=>absurd hc (by simp)⟩
 unfold jI;split
 .exact⟨nil,by simp⟩
 .rename_i h0;split
  .exact⟨nil,by simp⟩
  .have hgv:fL t L l=0:=Classical.byContradiction fun hne=>by
    unfold dX at h0;rw[if_pos hne] at h0;exact h0 hne
   obtain⟨hT,hru,_,h6,h8⟩:=kP hgv;obtain⟨a,b⟩:=aBV h.t h.L hT hru h6 n.toNat l _ h8 h.l (jL h);exact⟨⟨h.t,h.L,b⟩,a⟩
set_option maxRecDepth 100000 in
theorem zY:DC 9 [] (B true):=by
 intro tok nt box nb;have hE:=aDn;have hL:=aGg;have hf:=aKg;have h1:=wF exT [lpR] [lpC] hf (by decide) (by decide) (jL hf);have h2:=aFG exT [lpR] [lpC] hf (by decide) (by decide) (jL hf);have h3:=yU exT [lpR] [lpC] hf (by decide) (by decide) 1;obtain⟨a1,a2,a3,a4⟩:=aN5;obtain⟨b1,b2⟩:=aOE;obtain⟨c1,c2⟩:=aNP;obtain⟨hf2,hl2⟩:=aIn hf 1;have h4:=wF exT [lpR] (jI exT [lpR] [lpC] 1).1 hf2 (by decide) (by omega) (jL hf2);obtain⟨Q,hQ⟩:∃Q,lZ exT [lpR] (jI exT [lpR] [lpC] 1).1=Q:=⟨_,rfl⟩
 obtain⟨S,hS⟩:∃S,jI exT [lpR] [lpC] 1=S:=⟨_,rfl⟩
 obtain⟨O,hO⟩:∃O,gG exT [lpR] [lpC]=O:=⟨_,rfl⟩
 obtain⟨P,hP⟩:∃P,lZ exT [lpR] [lpC]=P:=⟨_,rfl⟩
 rw[hQ] at c1 c2 h4;rw[hS] at b1 b2 h3 h4 hl2;rw[hO] at a2 a3 a4 h2;rw[hP] at a1 h1;obtain⟨O1,O2⟩:=O;obtain⟨S1,S2⟩:=S;obtain⟨Q1,Q2⟩:=Q;simp only at a2 a3 a4 b1 b2 c1 c2 h2 h3 h4 hl2;obtain⟨o,rfl⟩:=List.length_eq_one_iff.1 a3;have a4:o.g.nodes=[1]:=by simpa using a4
 subst a2 b1 c1;have hq1:Q1.length=1:=by have:=congrArg List.length c2;simpa using this
 obtain⟨q,rfl⟩:=List.length_eq_one_iff.1 hq1;have c2:q.con=1:=by simpa using c2
 have hs1:S1.length=2:=by have:=congrArg List.length b2;simpa using this
 obtain⟨s0,s1,rfl⟩:∃a b,S1=[a,b]:=by
  match S1,hs1 with
  | [a,b],_=>exact⟨a,b,rfl⟩
 have b2:s1.name=⟨#[115,49]⟩:=by
  simp at b2;have h5:=b2.2;obtain⟨⟨⟨w⟩⟩,k,g,x⟩:=s1;simp at h5;simp[h5]
 have heq:=aH1 o.g.nodes [1] (by rw[a4];decide);rw[a4] at heq;clear hQ hS hO hP;refine sI func9 ntmps9 fun Hb Ht=>?_
 repeat first|simp|refine sR ?_
 refine sD (hE _ _) ?_;repeat first|simp|refine sR ?_
 refine sD (hL _ _) ?_;repeat first|simp|refine sR ?_
 refine sD (h1 _ _) ?_;repeat first|simp|refine sR ?_
 refine sD (h2 _ _) ?_;repeat first|simp|refine sR ?_
 refine sD (h3 _ _) ?_;repeat first|simp|refine sR ?_
 refine sD (h4 _ _) ?_;simp;try (simp[a1,a4,b2,c2])
 repeat ((first|refine sR ?_|refine sC ?_|refine sX ?_);simp[a1,a4,b2,c2])
 refine aN.sub (args':=[.d (ints [1]),.d (ints [1])]) ⟨Sub.refl _,Sub.data _ _ _,trivial⟩ ?_;refine sD (heq _ _) ?_;simp;try (simp[b2,c2])
 repeat ((first|refine sR ?_|refine sC ?_|refine sX ?_);simp[b2,c2])
 refine sT (sH Hb Ht ?_);simp[b2,c2]
abbrev aHS(t:Ty)(L:List Ru)(l:List Co):AV:=.agg [.d (nts t.nodes),.d (ets t.edges),.d (eS L),.d (bS l)]
theorem aIc(t:Ty)(L:List Ru)(l:List Co)(h:qU t L l):DC 10 [aHS t L l] (B (aEe t L l)):=by
 intro tok nt box nb;have h1:=aGI t L l h;refine sI func10 ntmps10 fun Hb Ht=>?_
 repeat first|simp|refine sR ?_
 refine sD (h1 _ _) ?_;simp;try (simp)
 repeat ((first|refine sR ?_|refine sC ?_|refine sX ?_);simp)
 refine sT (sH Hb Ht ?_);simp
theorem aJX(t:Ty)(L:List Ru)(l:List Co):((gG t L l).2≠0/\(lZ t L l).2=(gG t L l).2)∨((gG t L l).2=0/\(((lZ t L l).2=0/\(gG t L l).1=[])∨((lZ t L l).2=10/\(gG t L l).1≠[]))):=by
 by_cases h:(dX t L l).2=0
 .refine .inr ⟨by unfold gG;rw[if_neg (by simp[h])],?_⟩;have ho:(gG t L l).1=jQ t l (dX t L l).1:=by unfold gG;rw[if_neg (by simp[h])]
  have hz:=aF0 (t:=t) (L:=L) (l:=l);rw[ho];by_cases h2:(lZ t L l).2=0
  .exact .inl ⟨h2,(hz.1 h2).2⟩
  .refine .inr ⟨?_,fun h3=>h2 (hz.2 ⟨h,h3⟩)⟩;unfold lZ at h2 ⊢;rw[if_neg (by simp[h])] at h2 ⊢;unfold aHD at h2 ⊢;split at h2
   .exact absurd rfl h2
   .rename_i h4;rw[if_neg h4]
 .refine .inl ?_;unfold gG lZ;rw[if_pos h,if_pos h];exact⟨h,rfl⟩
theorem aI9{t:Ty}{L:List Ru}{l:List Co}(h:bT t L l):(gG t L l).1.length<=100000000/\∀o∈(gG t L l).1,o.g.Fit:=by
 unfold gG;split
 .exact⟨by simp,fun o ho=>absurd ho (by simp)⟩
 .exact aBw (jL h)
set_option maxRecDepth 100000 in
theorem lawOpen44_c(t:Ty)(L:List Ru)(l:List Co)(h:qU t L l)(tok:Tks)(nt:Nat):∃tok' nt',dI prog 3 [aHS t L l] tok nt (B true) tok' nt':=by
 refine⟨tok,nt,?_⟩;intro box nb;have hlt:=aIc t L l h;refine sI func3 ntmps3 fun Hb Ht=>?_
 repeat first|simp|refine sR ?_
 refine sD (zY _ _) ?_;simp;try (simp)
 repeat ((first|refine sR ?_|refine sC ?_|refine sX ?_);simp)
 refine sD (hlt _ _) ?_;simp;cases h1:aEe t L l
 .try (simp)
  repeat ((first|refine sR ?_|refine sC ?_|refine sX ?_);simp)
  refine sD (zY _ _) ?_;simp;try (simp)
  repeat ((first|refine sR ?_|refine sC ?_|refine sX ?_);simp)
  refine sT (sH Hb Ht ?_);simp
 obtain⟨hf,h8,h10⟩:=aHH h h1;have q1:=aEn L (by omega);have q2:=aEq l (by omega);have q3:=aFG t L l hf (by omega) (by omega) (jL hf);have q4:=aHL t L l hf (by omega) (by omega);have q5:=wF t L l hf (by omega) (by omega) (jL hf);obtain⟨of1,of2⟩:=aI9 hf;have q6:=aF2 (gG t L l).1 (gG t L l).1 of1 of2;rw[aH0] at q6;have hop:=aJX t L l;generalize gG t L l=O at *;generalize lZ t L l=P at *;have htk:=(TK.start Ht).full.app.full.app;try (simp)
 repeat ((first|refine sR ?_|refine sC ?_|refine sX ?_);simp)
 refine sD (q1 _ _) ?_;simp;try (simp)
 repeat ((first|refine sR ?_|refine sC ?_|refine sX ?_);simp)
 refine sD (q2 _ _) ?_;simp;try (simp)
 repeat ((first|refine sR ?_|refine sC ?_|refine sX ?_);simp)
 refine aN.sub (args':=[t.av,.d (eS L),.d (bS l)]) ⟨Sub.refl _,Sub.data _ _ _,Sub.data _ _ _,trivial⟩ ?_;refine sD (q3 _ _) ?_;simp;try (simp)
 repeat ((first|refine sR ?_|refine sC ?_|refine sX ?_);simp)
 refine sD (q4 _ _) ?_;simp;try (simp)
 repeat ((first|refine sR ?_|refine sC ?_|refine sX ?_);simp)
 refine sD (q6 _ _) ?_;simp;try (simp)
 repeat ((first|refine sR ?_|refine sC ?_|refine sX ?_);simp)
 refine sD (q5 _ _) ?_;simp;rcases hop with ⟨e1,e2⟩|⟨e1,⟨e2,e3⟩|⟨e2,e3⟩⟩
 .have b1:(O.2 != 0)=true:=by simp[e1]
  try (simp[b1,e2])
  repeat ((first|refine sR ?_|refine sC ?_|refine sX ?_);simp[b1,e2])
  refine sT (sG Hb Ht htk.old htk.le ?_);simp
 .try (simp[e1,e2,e3])
  repeat ((first|refine sR ?_|refine sC ?_|refine sX ?_);simp[e1,e2,e3])
  refine sT (sG Hb Ht htk.old htk.le ?_);simp
 .have e4:¬(O.1.length:Int)=0:=fun h=>e3 (List.eq_nil_of_length_eq_zero (by omega))
  have e5:0<O.1.length:=List.length_pos_iff.2 e3
  try (simp[e1,e2,e3,e4,e5])
  repeat ((first|refine sR ?_|refine sC ?_|refine sX ?_);simp[e1,e2,e3,e4,e5])
  refine sT (sG Hb Ht htk.old htk.le ?_);simp[e3,e4,e5]
open Go Go.Proofs Go.ChangeShapes
open Go.Proofs.Tryz
theorem aMP(r:Ru):r.rowD=r.rowK:=by rw[Ru.rowD,r.c.cells_eq];rfl
def aOs:Rdr prog 26 (List Ru):=aRe.sliceN 25 underlying26 (by kernel_rfl) (by kernel_rfl)
def aMQ:Rdr prog 27 (List Co):=aRY.sliceN 5 underlying27 (by kernel_rfl) (by kernel_rfl)
def aM5:Rdr prog 29 (Ty × List Ru × List Co):=Rdr.struct3 aRW aOs aMQ underlying29 rfl rfl rfl rfl (by kernel_rfl) (by kernel_rfl) (by kernel_rfl)
set_option maxRecDepth 100000 in
theorem arg_case{ps:Array TypeId}{args:Array Value}{W:World}{base base':Nat}{sp:Nat->Bool}{held:Bool}{H:Type}{enc:TypeId × Value->H}(hval:∀(j:Nat) t v,ps[j]?=some t->args[j]?=some v->Value.okWide prog W .any base t v)(j:Nat)(v:Value)(hp:ps[j]?=some 29)(ha:args[j]?=some v){d:DataW H}{p:List MemPlace}(h:DataW.Trod enc prog W base' sp held 29 v d p)(hli:gB prog 29 d):∃t L l,qU t L l/\RV G0 W (aHS t L l) v:=by
 refine Exists.elim (aJQ hval j 29 v hp ha aM5 aKp h hli) fun x hx=>⟨x.1,x.2.1,x.2.2,?_,?_⟩
 .obtain⟨a1,a2,a3⟩:=hx.1;have hr:reachBytes=140737488351232:=rfl
  have b2:x.2.1.length*prog.bytesOf 52<=reachBytes:=a2.2
  rw[show prog.bytesOf 52=512 by kernel_rfl] at b2;have b3:x.2.2.length*prog.bytesOf 56<=reachBytes:=a3.2
  rw[show prog.bytesOf 56=96 by kernel_rfl] at b3;exact⟨by omega,by omega,a1,a2.1,a3.1⟩
 .have h2:RV G0 W (.agg [.d (nts x.1.nodes),.d (ets x.1.edges),.d (.sl 25 (x.2.1.map Ru.rowD)),.d (.sl 5 (x.2.2.map Co.rowD))]) v:=hx.2
  rw[show Ru.rowD=Ru.rowK from funext aMP] at h2;exact h2
end Go.AM
