/-
 Parts of the proof, as merged from many texts: a machine over data, what the functions compute, plain laws.
-/
import Derived.Test.YtchfmhhbiealcaaGreatDoorPIA11
set_option linter.unusedSimpArgs false
set_option linter.unusedVariables false
namespace Go.AM
open Go Go.Proofs
open Go.Proofs.Tryz
def aCc(t:Ty)(n:Int):Bool:=decide (0<=n/\n<t.nodes.length)
def aDI(t:Ty)(e:E):Bool:=decide (0<=e.ty/\e.ty<t.edges.length)
theorem wU{t:Ty}{l:List Int}{i:Nat}(h:i<l.length)(e:l[i]<0∨(t.nodes.length:Int)<=l[i]):l.all (aCc t)=false:=by
 rw[List.all_eq_false];exact⟨_,List.getElem_mem h,by simp[aCc];omega⟩
theorem uU{t:Ty}{l:List E}{i:Nat}(h:i<l.length)(e:l[i].ty<0∨(t.edges.length:Int)<=l[i].ty):l.all (aDI t)=false:=by
 rw[List.all_eq_false];exact⟨_,List.getElem_mem h,by simp[aDI];omega⟩
theorem aCZ{α:Type}{p:α->Bool}{l:List α}{i:Nat}(h:i<l.length)(a:(l.take i).all p=true)(b:p l[i]=true):(l.take (i+1)).all p=true:=by
 rw[List.take_succ_eq_append_getElem h,List.all_append,a];simp[b]
def aOR(t:Ty)(g:Gr)(nb:Nat)(box:Bxs)(tok:Tks)(nt:Nat)(i:Nat):AS :=
 ⟨tl [(2,.ptr (nb+2) 0 0),(3,.ptr (nb+3) 0 0),(6,I i)],lb nb box [(2,[[.d (nts t.nodes),.d (ets t.edges)]]),(3,[[.d (ints g.nodes),.d (AM.edges g.edges)]])],tok,nt⟩
def oH(t:Ty)(g:Gr):Bool:=g.nodes.all (aCc t)&&g.edges.all (aDI t)
def aPw(t:Ty)(g:Gr)(nb:Nat)(box:Bxs)(tok:Tks)(nt:Nat)(i:Nat):AS :=
 ⟨tl [(2,.ptr (nb+2) 0 0),(3,.ptr (nb+3) 0 0),(5,I i)],lb nb box [(2,[[.d (nts t.nodes),.d (ets t.edges)]]),(3,[[.d (ints g.nodes),.d (AM.edges g.edges)]])],tok,nt⟩
theorem zI(t:Ty)(ht:t.Fit)(g:Gr)(hg:g.Fit):DC 109 [t.av,g.av] (B (oH t g)):=by
 intro tok nt box nb;obtain⟨R,hR⟩:∃R,oH t g=R:=⟨_,rfl⟩
 rw[hR];unfold oH at hR;have htn:=ht.n;have hte:=ht.e;have hgn:=hg.n;have hge:=hg.e;refine sI func109 ntmps109 fun Hb Ht=>?_
 repeat first|simp|refine sR ?_
 refine sN ?_;refine sL (aPw t g nb box tok nt) (fun i=>i<=g.nodes.length/\(g.nodes.take i).all (aCc t)=true) (fun i=>g.nodes.length-i) 0 ⟨Nat.zero_le _,by simp⟩ wkA ?_;rintro i S' ⟨hi,hall⟩ hS;simp only[aPw] at hS;subst hS;have hw:=sW (i:=i) (by omega);by_cases hlt:i<g.nodes.length
 .by_cases z0:g.nodes[i]<0
  .rw[wU hlt (.inl z0),Bool.false_and] at hR;try (simp[hlt,z0])
   repeat ((first|refine sR ?_|refine sC ?_|refine sX ?_);simp[hlt,z0])
   refine sT (sH Hb Ht ?_);simp[<-hR]
  .by_cases z1:(t.nodes.length:Int)<=g.nodes[i]
   .rw[wU hlt (.inr z1),Bool.false_and] at hR;try (simp[hlt,z0,z1])
    repeat ((first|refine sR ?_|refine sC ?_|refine sX ?_);simp[hlt,z0,z1])
    refine sT (sH Hb Ht ?_);simp[<-hR]
   .try (simp[hlt,z0,z1,hw])
    repeat ((first|refine sR ?_|refine sC ?_|refine sX ?_);simp[hlt,z0,z1,hw])
    refine sE ?_;exact⟨i+1,⟨hlt,List.all_eq_true.1 (aCZ hlt hall (by simp[aCc];omega))⟩,by omega,wkA⟩
 .have:i=g.nodes.length:=by omega
  subst this;rw[List.take_length] at hall;rw[hall,Bool.true_and] at hR;try (simp)
  repeat ((first|refine sR ?_|refine sC ?_|refine sX ?_);simp)
  refine sN ?_;refine sL (aOR t g nb box tok nt) (fun i=>i<=g.edges.length/\(g.edges.take i).all (aDI t)=true) (fun i=>g.edges.length-i) 0 ⟨Nat.zero_le _,by simp⟩ wkA ?_;rintro i S' ⟨hi,hall2⟩ hS;simp only[aOR] at hS;subst hS;have hw:=sW (i:=i) (by omega);by_cases hlt:i<g.edges.length
  .by_cases z0:g.edges[i].ty<0
   .rw[uU hlt (.inl z0)] at hR;try (simp[hlt,z0])
    repeat ((first|refine sR ?_|refine sC ?_|refine sX ?_);simp[hlt,z0])
    refine sT (sH Hb Ht ?_);simp[<-hR]
   .by_cases z1:(t.edges.length:Int)<=g.edges[i].ty
    .rw[uU hlt (.inr z1)] at hR;try (simp[hlt,z0,z1])
     repeat ((first|refine sR ?_|refine sC ?_|refine sX ?_);simp[hlt,z0,z1])
     refine sT (sH Hb Ht ?_);simp[<-hR]
    .try (simp[hlt,z0,z1,hw])
     repeat ((first|refine sR ?_|refine sC ?_|refine sX ?_);simp[hlt,z0,z1,hw])
     refine sE ?_;exact⟨i+1,⟨hlt,List.all_eq_true.1 (aCZ hlt hall2 (by simp[aDI];omega))⟩,by omega,wkA⟩
  .have:i=g.edges.length:=by omega
   subst this;rw[List.take_length] at hall2;rw[hall2] at hR;try (simp)
   repeat ((first|refine sR ?_|refine sC ?_|refine sX ?_);simp)
   refine sT (sH Hb Ht ?_);simp[<-hR]
def opl(n i:Nat):List Int:=List.replicate i (-1)++List.replicate (n-i) 0
theorem aCV(n:Nat):opl n 0=List.replicate n 0:=by simp[opl]
theorem aFs(n:Nat):opl n n=List.replicate n (-1):=by simp[opl]
theorem aE1{n i:Nat}(h:i<=n):(opl n i).length=n:=by simp[opl];omega
theorem aFd{n i:Nat}(h:i<n):(opl n i).set i (-1)=opl n (i+1):=by
 unfold opl;rw[List.set_append,if_neg (by simp),List.length_replicate,Nat.sub_self,show n-i=(n-(i+1))+1 by omega,List.replicate_succ,List.set_cons_zero,List.replicate_succ',List.append_assoc];rfl
def aPX(p:Gr)(nb:Nat)(box:Bxs)(tok:Tks)(nt:Nat)(i:Nat):AS :=
 ⟨tl [(2,.ptr (nb+2) 0 0),(3,.ptr (nb+3) 0 0),(4,I i)],lb nb box [(2,[[.osl 0 [] .full,.osl 0 [] .full]]),(3,[[.msl (nb+9) 0 p.nodes.length 1,.msl (nb+13) 0 p.edges.length 1]]),(9,dG (opl p.nodes.length i)),(13,dG (List.replicate p.edges.length 0))],tok,nt⟩
def aO6(p:Gr)(nb:Nat)(box:Bxs)(tok:Tks)(nt:Nat)(i:Nat):AS :=
 ⟨tl [(2,.ptr (nb+2) 0 0),(3,.ptr (nb+3) 0 0),(5,I i)],lb nb box [(2,[[.osl 0 [] .full,.osl 0 [] .full]]),(3,[[.msl (nb+9) 0 p.nodes.length 1,.msl (nb+13) 0 p.edges.length 1]]),(9,dG (opl p.nodes.length p.nodes.length)),(13,dG (opl p.edges.length i))],tok,nt⟩
theorem aEN(v:Int){p q:Nat->Prop}{k n:Nat}:To p q (some (k,1,List.replicate n [D.raw (.int .i64 v)])) (.msl k 0 n 1) (.d (ints (List.replicate n v))):=by
 have h:=To.frz (p:=p) (q:=q) (fz:=some (k,1,List.replicate n [D.raw (.int .i64 v)])) (k:=k) (sz:=1) (es:=List.replicate n [D.raw (.int .i64 v)]) rfl;simp[ints] at h ⊢
theorem aHw(p:Gr)(hp:p.Fit):DC 67 [p.av] (Mo.av ⟨List.replicate p.nodes.length (-1),List.replicate p.edges.length (-1)⟩):=by
 intro tok nt box nb;have hpn:=hp.n;have hpe:=hp.e;refine sI func67 ntmps67 fun Hb Ht=>?_
 refine sR ?_;simp;refine sN ?_;refine AL.region5 cA (nr0 _) (by kernel_rfl) (oO.of (by simp)) ?_;simp[aFX,aIh,NB,mks,lds,lR];refine⟨by omega,by omega,?_⟩;repeat first|simp|refine sR ?_
 refine sN ?_;refine sL (aPX p nb box tok nt) (fun i=>i<=p.nodes.length) (fun i=>p.nodes.length-i) 0 (Nat.zero_le _) (wM (nr0 _) rfl (by simp[ToL,lk]) (by simp[aC,lk,aCV])) ?_;rintro i S' hi hS;simp only[aPX] at hS;subst hS;have hw:=sW (i:=i) (by omega);by_cases hlt:i<p.nodes.length
 .have hst:=aFd hlt;have hln:=aE1 hi;try (simp[hlt,hw,hln])
  repeat ((first|refine sR ?_|refine sC ?_|refine sX ?_);simp[hlt,hw,hln])
  refine sE ?_;exact⟨i+1,hlt,by omega,wM (nr0 _) rfl (by simp[ToL,lk]) (by simp[aC,lk,hst])⟩
 .have:i=p.nodes.length:=by omega
  subst this;try (simp)
  repeat ((first|refine sR ?_|refine sC ?_|refine sX ?_);simp)
  refine sN ?_;refine sL (aO6 p nb box tok nt) (fun i=>i<=p.edges.length) (fun i=>p.edges.length-i) 0 (Nat.zero_le _) (wM (nr0 _) rfl (by simp[ToL,lk]) (by simp[aC,lk,aCV])) ?_;rintro i S' hi hS;simp only[aO6] at hS;subst hS;have hw:=sW (i:=i) (by omega);by_cases hlt:i<p.edges.length
  .have hst:=aFd hlt;have hln:=aE1 hi;try (simp[hlt,hw,hln])
   repeat ((first|refine sR ?_|refine sC ?_|refine sX ?_);simp[hlt,hw,hln])
   refine sE ?_;exact⟨i+1,hlt,by omega,wM (nr0 _) rfl (by simp[ToL,lk]) (by simp[aC,lk,hst])⟩
  .have:i=p.edges.length:=by omega
   subst this;refine sR ?_;simp;refine sC ?_;simp;refine sX ?_;simp only[AU,↓reduceIte];rw[aFs,aFs];refine AL.weak (aS.frz (l':=[(2,.ptr (nb+2) 0 0),(3,.ptr (nb+3) 0 0)]) (loc':=[(2,[[cQ,cQ]]),(3,[[.d (ints (List.replicate p.nodes.length (-1))),.msl (nb+13) 0 p.edges.length 1]]),(13,dG (List.replicate p.edges.length (-1)))]) 9 1 (rI (List.replicate p.nodes.length (-1))) (nr0 _) rfl (by simp[lk,qC]) (by simp[lk]) (by simp) (by simp[ToL]) (by simp[aC,lk];exact aEN _)) ?_;refine AL.weak (aS.frz (l':=[(2,.ptr (nb+2) 0 0),(3,.ptr (nb+3) 0 0)]) (loc':=[(2,[[cQ,cQ]]),(3,[[.d (ints (List.replicate p.nodes.length (-1))),.d (ints (List.replicate p.edges.length (-1)))]])]) 13 1 (rI (List.replicate p.edges.length (-1))) (nr0 _) rfl (by simp[lk,qC]) (by simp[lk]) (by simp) (by simp[ToL]) (by simp[aC,lk];exact aEN _)) ?_;repeat first|simp|refine sR ?_
   refine sT (sH Hb Ht ?_);simp
def opM(p:Gr):Mo:=⟨List.replicate p.nodes.length (-1),List.replicate p.edges.length (-1)⟩
abbrev aGr(l:List Mo):List (List D):=l.map fun m=>[ints m.nodes,ints m.edges]
theorem aKz(s:Sr)(h:s.Ok):DC 66 [s.t.av,s.p.av,s.g.av,s.pt.av,B s.inj,I s.most] (.d (.sl 2 (aGr (s.fnR s.p.nodes.length [] [])))):=by
 intro tok nt box nb;refine sI func66 ntmps66 fun Hb Ht=>?_
 have hpn:=h.p.n;refine sR ?_;simp;refine sR ?_;simp;refine AL.weak (wM (l':=[(13,.ptr (nb+21) 0 0)]) (loc':=[(21,[s.row [] .full])]) (nr0 _) rfl (by simp[ToL,lk]) (by simp[aC,lk])) ?_;refine sR ?_;simp;refine aN.sub (args':=[.ptr (nb+21) 0 0,.d (ints [])]) ⟨Sub.refl _,Sub.nil _ _ _,trivial⟩ ?_;refine aN.of_a (aF4 s h s.p.nodes.length [] [] .full _ _ (nb+21) _ _ (by simp) (by simp) (by simp) trivial) ?_;rintro v m' ⟨rfl,own1,tok1,nt1,rfl,hadv⟩;simp;refine sR ?_;simp;refine sN ?_;refine AL.ret ?_;try simp only[AU]
 have hkeep:∀t,tok t=true->tok1 t=true:=fun t ht=>hadv.keep t ht (by simp)
 refine⟨by simp,(Fin.data (av:=.d (.sl 2 (aGr (s.fnR s.p.nodes.length [] [])))) (by simp[aP,bI];rfl) Hb rfl Ht hkeep hadv.le (by simp)).mono fun v m hq=>⟨hq.1,hq.2⟩⟩
def lW(t:Ty)(p g:Gr):Int:=if tyE t≠0 then tyE t else if vG p≠0 then vG p else if vG g≠0 then vG g else if oH t p=false then 13 else if oH t g=false then 13 else 0
theorem aAt(t:Ty)(ht:t.Fit)(p g:Gr)(hp:p.Fit)(hg:g.Fit):DC 65 [t.av,p.av,g.av] (I (lW t p g)):=by
 intro tok nt box nb;have h1:=kD t ht ht.hM;have h2:=dR p hp;have h3:=dR g hg;have h4:=zI t ht p hp;have h5:=zI t ht g hg;obtain⟨R,hR⟩:∃R,lW t p g=R:=⟨_,rfl⟩
 rw[hR];unfold lW at hR;generalize tyE t=e1 at *;generalize tyN t=z1 at *;generalize vG p=e2 at *;generalize vG g=e3 at *;generalize oH t p=b1 at *;generalize oH t g=b2 at *;refine sI func65 ntmps65 fun Hb Ht=>?_
 repeat first|simp|refine sR ?_
 refine sD (h1 _ _) ?_;simp;by_cases c1:e1=0
 .try (simp[c1])
  repeat ((first|refine sR ?_|refine sC ?_|refine sX ?_);simp[c1])
  refine sD (h2 _ _) ?_;simp;by_cases c2:e2=0
  .try (simp[c2])
   repeat ((first|refine sR ?_|refine sC ?_|refine sX ?_);simp[c2])
   refine sD (h3 _ _) ?_;simp;by_cases c3:e3=0
   .try (simp[c3])
    repeat ((first|refine sR ?_|refine sC ?_|refine sX ?_);simp[c3])
    refine sD (h4 _ _) ?_;simp;rw[if_neg (by simp[c1]),if_neg (by simp[c2]),if_neg (by simp[c3])] at hR;cases b1
    .try (simp)
     repeat ((first|refine sR ?_|refine sC ?_|refine sX ?_);simp)
     refine sT (sH Hb Ht ?_);simp[<-hR]
    .try (simp)
     repeat ((first|refine sR ?_|refine sC ?_|refine sX ?_);simp)
     refine sD (h5 _ _) ?_;simp;cases b2
     .try (simp)
      repeat ((first|refine sR ?_|refine sC ?_|refine sX ?_);simp)
      refine sT (sH Hb Ht ?_);simp[<-hR]
     .try (simp)
      repeat ((first|refine sR ?_|refine sC ?_|refine sX ?_);simp)
      refine sT (sH Hb Ht ?_);simp[<-hR]
   .rw[if_neg (by simp[c1]),if_neg (by simp[c2]),if_pos c3] at hR;try (simp[c3])
    repeat ((first|refine sR ?_|refine sC ?_|refine sX ?_);simp[c3])
    refine sT (sH Hb Ht ?_);simp[<-hR]
  .rw[if_neg (by simp[c1]),if_pos c2] at hR;try (simp[c2])
   repeat ((first|refine sR ?_|refine sC ?_|refine sX ?_);simp[c2])
   refine sT (sH Hb Ht ?_);simp[<-hR]
 .rw[if_pos c1] at hR;try (simp[c1])
  repeat ((first|refine sR ?_|refine sC ?_|refine sX ?_);simp[c1])
  refine sT (sH Hb Ht ?_);simp[<-hR]
def aFM(t:Ty)(p g:Gr)(inj:Bool):Sr:=⟨t,p,g,opM p,inj,5000⟩
theorem lF{t:Ty}{g:Gr}(h:oH t g=true):∀n∈g.nodes,0<=n/\n<t.nodes.length:=by
 unfold oH at h;rw[Bool.and_eq_true] at h;intro n hn;have:=List.all_eq_true.1 h.1 n hn
 simpa[aCc] using this
theorem sV{t:Ty}{p g:Gr}(h:lW t p g=0):tyE t=0/\vG p=0/\vG g=0/\oH t p=true/\oH t g=true:=by
 unfold lW at h;split at h
 .contradiction
 .split at h
  .contradiction
  .split at h
   .contradiction
   .split at h
    .simp at h
    .split at h
     .simp at h
     .rename_i a b c d e;exact⟨by simpa using a,by simpa using b,by simpa using c,by simpa using d,by simpa using e⟩
theorem aIA{t:Ty}{p g:Gr}{inj:Bool}(ht:t.Fit)(hp:p.Fit)(hg:g.Fit)(h:lW t p g=0):(aFM t p g inj).Ok:=by
 obtain⟨h1,h2,h3,h4,h5⟩:=sV h;exact⟨ht,jH h1,hp,hg,by simp[aFM],aE h2,by simp[aFM,opM],by simp[aFM,opM],lF h4,lF h5⟩
theorem zX{p:Gr}{N M:List Int}{i:Nat}(h1:(p.edges.getD i default).fr.toNat<N.length)(h2:(p.edges.getD i default).to.toNat<N.length):kT p (N++M) i=kT p N i:=by
 unfold kT;generalize p.edges.getD i default=e at *;rw[List.getD_eq_getElem?_getD,List.getD_eq_getElem?_getD,List.getD_eq_getElem?_getD,List.getD_eq_getElem?_getD,List.getElem?_append_left h1,List.getElem?_append_left h2]
theorem Sr.fit_dead{s:Sr}(h:s.Ok){N:List Int}(hf:s.fit N=false)(r:Nat):rZ s.okN s.g.nodes.length s.okE s.g.edges.length s.p.edges.length r N=[]:=by
 rw[List.eq_nil_iff_forall_not_mem];intro m hm;unfold rZ at hm;obtain⟨N',hN',hm⟩:=List.mem_flatMap.1 hm;obtain⟨es,hes,rfl⟩:=List.mem_map.1 hm;obtain⟨T,t1,t2,rfl,t4⟩:=gZ.1 hN';obtain⟨U,u1,u2,rfl,u4⟩:=gZ.1 hes;unfold Sr.fit at hf;obtain⟨i,hi,hfi⟩:=List.all_eq_false.1 hf;have hi:=List.mem_range.1 hi;have hfi:s.fitE N i=false:=by simpa using hfi
 unfold Sr.fitE at hfi;have hgd:s.p.edges.getD i default=s.p.edges[i]:=by simp[hi]
 obtain⟨x1,x2,x3,x4⟩:=h.vp _ (List.getElem_mem hi);split at hfi
 .cases hfi
 .split at hfi
  .cases hfi
  .rename_i a b;rw[hgd] at a b;have hiU:i<U.length:=by omega
   have hu:=u4 i hiU;have hk:=u2 _ (List.getElem_mem hiU);unfold Sr.anE at hfi;have hno:=List.any_eq_false.1 hfi U[i] (List.mem_range.2 hk);unfold Sr.eqE at hno;unfold Sr.okE at hu;split at hu
   .split at hu
    .cases hu
    .have hl:(([]:List Int)++(U.take i).map (fun (k:Nat)=>(k:Int))).length=i:=by simp;omega
     rw[hl,zX (by rw[hgd];omega) (by rw[hgd];omega)] at hu;exact hno hu
   .cases hu
theorem Sr.fit_nil{s:Sr}(h:s.Ok):s.fit []=true:=by
 refine Sr.fit_true fun i hi=>?_
 have hgd:s.p.edges.getD i default=s.p.edges[i]:=by simp[hi]
 obtain⟨x1,x2,x3,x4⟩:=h.vp _ (List.getElem_mem hi);unfold Sr.fitE;rw[if_pos (by rw[hgd];simpa using x1)]
theorem Sr.fnR_all{s:Sr}(h:s.Ok):s.fnR s.p.nodes.length [] []=(rZ s.okN s.g.nodes.length s.okE s.g.edges.length s.p.edges.length s.p.nodes.length []).take (s.most+1):=by
 rw[Sr.fnR_eq,if_pos (Sr.fit_nil h)];have:=aA2 (s.most+1) s.okN (fun N k=>s.fit (N++[(k:Int)])) s.g.nodes.length s.okE s.g.edges.length s.p.edges.length (fun _=>True) (fun _ _ _ _ _=>trivial) (fun r N k _ _ hp=>Sr.fit_dead h hp r) s.p.nodes.length [] [] trivial (by simp)
 simpa using this
def Sr.fitK(s:Sr)(N:List Int)(i k:Nat):Bool:=if gvB s.pt.edges i k=true then decide (s.g.edges.getD k default=kT s.p N i) else false
def Sr.posE(s:Sr)(N:List Int)(i:Nat):Bool :=
 if max (s.p.edges.getD i default).fr (s.p.edges.getD i default).to=(N.length:Int)-1 then (List.range s.g.edges.length).any (s.fitK N i) else true
def Sr.pos(s:Sr)(N:List Int):Bool:=(List.range s.p.edges.length).all (s.posE N)
theorem Sr.pos_false{s:Sr}{N:List Int}{i:Nat}(hi:i<s.p.edges.length)(h:s.posE N i=false):s.pos N=false:=by
 unfold Sr.pos;rw[List.all_eq_false];exact⟨i,List.mem_range.2 hi,by simp[h]⟩
theorem Sr.pos_true{s:Sr}{N:List Int}(h:∀i,i<s.p.edges.length->s.posE N i=true):s.pos N=true:=by
 unfold Sr.pos;rw[List.all_eq_true];exact fun i hi=>h i (List.mem_range.1 hi)
theorem Sr.okE_eq(s:Sr)(N E:List Int)(k:Nat):s.okE N E k=(s.fitK N E.length k&&!usB s.inj E k):=by
 unfold Sr.okE Sr.fitK;cases gvB s.pt.edges E.length k<;>cases usB s.inj E k<;>simp
theorem Sr.pos_dead{s:Sr}(h:s.Ok){N:List Int}(hf:s.pos N=false)(r:Nat):rZ s.okN s.g.nodes.length s.okE s.g.edges.length s.p.edges.length r N=[]:=by
 rw[List.eq_nil_iff_forall_not_mem];intro m hm;unfold rZ at hm;obtain⟨N',hN',hm⟩:=List.mem_flatMap.1 hm;obtain⟨es,hes,rfl⟩:=List.mem_map.1 hm;obtain⟨T,t1,t2,rfl,t4⟩:=gZ.1 hN';obtain⟨U,u1,u2,rfl,u4⟩:=gZ.1 hes;unfold Sr.pos at hf;obtain⟨i,hi,hfi⟩:=List.all_eq_false.1 hf;have hi:=List.mem_range.1 hi;have hfi:s.posE N i=false:=by simpa using hfi
 unfold Sr.posE at hfi;have hgd:s.p.edges.getD i default=s.p.edges[i]:=by simp[hi]
 obtain⟨x1,x2,x3,x4⟩:=h.vp _ (List.getElem_mem hi);split at hfi
 .rename_i hmx;rw[hgd] at hmx;have hiU:i<U.length:=by omega
  have hu:=u4 i hiU;have hk:=u2 _ (List.getElem_mem hiU);have hno:=List.any_eq_false.1 hfi U[i] (List.mem_range.2 hk);have hl:(([]:List Int)++(U.take i).map (fun (k:Nat)=>(k:Int))).length=i:=by simp;omega
  rw[Sr.okE_eq,hl] at hu;have hu:=(Bool.and_eq_true_iff.1 hu).1;unfold Sr.fitK at hu hno;rw[zX (by rw[hgd];omega) (by rw[hgd];omega)] at hu;exact hno hu
 .cases hfi
abbrev Sr.fnP(s:Sr)(fm:Nat):Nat->List Int->List Mo->List Mo:=yG fm s.okN (fun N k=>s.pos (N++[(k:Int)])) s.g.nodes.length s.okE s.g.edges.length s.p.edges.length
theorem Sr.fnP_eq{s:Sr}(h:s.Ok)(fm r:Nat)(N:List Int)(out:List Mo)(ho:out.length<=fm):s.fnP fm r N out=(out++rZ s.okN s.g.nodes.length s.okE s.g.edges.length s.p.edges.length r N).take fm :=
 aA2 fm s.okN (fun N k=>s.pos (N++[(k:Int)])) s.g.nodes.length s.okE s.g.edges.length s.p.edges.length (fun _=>True) (fun _ _ _ _ _=>trivial) (fun r N k _ _ hp=>Sr.pos_dead h hp r) r N out trivial ho
theorem Sr.fnP_len{s:Sr}(h:s.Ok){fm r:Nat}{N:List Int}{out:List Mo}(ho:out.length<=fm):(s.fnP fm r N out).length<=fm:=by
 rw[Sr.fnP_eq h _ _ _ _ ho];simp;omega
theorem Sr.fnP_fnR{s:Sr}(h:s.Ok):s.fnP (s.most+1) s.p.nodes.length [] []=s.fnR s.p.nodes.length [] []:=by
 rw[Sr.fnR_all h,Sr.fnP_eq h _ _ _ _ (by simp)];simp
def gO(t:Ty)(a:Int)(i:Nat):List Int:=((List.range i).filter fun (b:Nat)=>isB t (b:Int) a).map fun (b:Nat)=>(b:Int)
theorem aGW(t:Ty)(a:Int):gO t a 0=[]:=rfl
theorem aGA(t:Ty)(a:Int)(i:Nat):gO t a (i+1)=if isB t i a=true then gO t a i++[(i:Int)] else gO t a i:=by
 unfold gO;rw[List.range_succ,List.filter_append,List.map_append];by_cases h:isB t i a=true<;>simp[h]
theorem aCt(t:Ty)(a:Int)(i:Nat):(gO t a i).length<=i:=by
 unfold gO;rw[List.length_map];exact Nat.le_trans (List.length_filter_le _ _) (by simp)
theorem xE{t:Ty}{a x:Int}{i:Nat}:x∈gO t a i↔∃b:Nat,b<i/\isB t b a=true/\x=b:=by
 simp only[gO,List.mem_map,List.mem_filter,List.mem_range];constructor
 .rintro⟨b,⟨h1,h2⟩,rfl⟩;exact⟨b,h1,h2,rfl⟩
 .rintro⟨b,h1,h2,rfl⟩;exact⟨b,⟨h1,h2⟩,rfl⟩
theorem aEB(t:Ty)(a:Int)(i:Nat):(gO t a i).Nodup:=by
 refine List.Pairwise.map _ (fun x y h=>?_) (List.nodup_range.filter _);omega
theorem zZ{ps:List Int}{n:Nat}(hp:∀j,j<n->ps.getD j 0<j):∀(m:Nat) (b:Int),b<m->b<n->∀x∈upI ps b,x=b∨∃j:Nat,j<n/\ps.getD j 0=x
 | 0,b,hm,_,x,hx=>by
  rw[qV (by omega)] at hx;simp at hx
 | m+1,b,hm,hb,x,hx=>by
  by_cases h0:0<=b
  .have h1:=hp b.toNat (by omega);have h1':ps.getD b.toNat 0<b:=by omega
   rw[xT h0 h1'] at hx;rcases List.mem_cons.1 hx with hx|hx
   .exact .inl hx
   .rcases zZ hp m _ (by omega) (by omega) x hx with h|h
    .exact .inr ⟨b.toNat,by omega,h.symm⟩
    .exact .inr h
  .rw[qV (by omega)] at hx;simp at hx
theorem aG6{t:Ty}{a:Int}(h0:0<=a)(ha:a<t.nodes.length)(hp:∀j,j<t.nodes.length->(t.nd j).par<j):isB t a a=true:=by
 have h1:=hp a.toNat (by omega);rw[<-fF t (by omega)] at h1;unfold isB;rw[xT h0 (by omega)];simp
theorem aEH{t:Ty}{a:Int}(h0:0<=a)(ha:a<t.nodes.length)(hp:∀j,j<t.nodes.length->(t.nd j).par<j):(gO t a t.nodes.length).length<=1↔eE t a=true:=by
 have hp2:∀j,j<t.nodes.length->t.pars.getD j 0<j:=fun j hj=>by rw[fF t hj];exact hp j hj
 have hself:=aG6 h0 ha hp;have hm1:a∈gO t a t.nodes.length:=xE.2 ⟨a.toNat,by omega,by rw[Int.toNat_of_nonneg h0];exact hself,by omega⟩
 constructor
 .intro hl;cases hb:eE t a with
  | true=>rfl
  | false =>
   exfalso
   unfold eE bB at hb;rw[Bool.not_eq_false'] at hb;obtain⟨n,hn,hpar⟩:=List.any_eq_true.1 hb;obtain⟨j,hj,rfl⟩:=List.getElem_of_mem hn;have hpj:t.pars.getD j 0=a:=by
    rw[fF t hj,iE hj];simpa using hpar
   have hlt:=hp2 j hj;have hmj:(j:Int)∈gO t a t.nodes.length:=xE.2 ⟨j,hj,by
    unfold isB;rw[xT (by omega) (by rw[Int.toNat_natCast];omega),Int.toNat_natCast,hpj];have:a∈upI t.pars a:=by simpa[isB] using hself
    simp[this],rfl⟩
   have:=qS [a,(j:Int)] _ (by simp;omega) (fun x hx=>by
    simp only[List.mem_cons,List.not_mem_nil,or_false] at hx;rcases hx with rfl|rfl
    .exact hm1
    .exact hmj)
   simp only[List.length_cons,List.length_nil] at this;omega
 .intro hb;have:=qS (gO t a t.nodes.length) [a] (aEB _ _ _) (fun x hx=>by
   obtain⟨b,hbn,hbs,rfl⟩:=xE.1 hx;have hbs:a∈upI t.pars (b:Int):=by simpa[isB] using hbs
   rcases zZ hp2 (b+1) b (by omega) (by omega) a hbs with h|⟨j,hj,h⟩
   .simp[h]
   .exfalso
    unfold eE bB at hb;rw[Bool.not_eq_true',<-Bool.not_eq_true,List.any_eq_true] at hb;refine hb ⟨_,List.getElem_mem hj,?_⟩;rw[fF t hj,iE hj] at h;simpa using h)
  simpa using this
theorem aHf(x:NT)(y:Int)(box:Bxs)(nb k:Nat)(tok:Tks)(nt:Nat)(h1:box k=some [[I y]]):
  aD prog 245 [x.av,.ptr k 0 0] ⟨box,nb,tok,nt⟩ fun v m=>v=B (x.par==y)/\m=⟨box,nb,tok,nt⟩:=by
 refine sI func245 ntmps245 fun Hb Ht=>?_
 have k1n:=bC Hb h1;repeat first|simp[lO k1n,h1]|refine sR ?_
 refine sT (sH Hb Ht ?_);simp
theorem aJz(t:Ty)(ht:t.nodes.length<=1000000)(k:Int):DC 187 [t.av,I k] (B (eE t k)):=by
 intro tok nt box nb;obtain⟨p,hpp⟩:∃p:NT->Bool,(fun n=>n.par==k)=p:=⟨_,rfl⟩
 have h2:=fun y box nb q hbk=>aHf y k box nb q tok nt hbk
 have hpy:∀y:NT,(y.par==k)=p y:=fun y=>by rw[<-hpp]
 simp only[hpy] at h2;unfold eE;rw[hpp];refine sI func187 ntmps187 fun Hb Ht=>?_
 repeat first|simp|refine sR ?_
 refine aN.of_b (lU t.nodes 245 [.ptr (nb+3) 0 0] p ht _ _ _ _ (fun c hc=>by rw[List.mem_singleton.1 hc];simp[aQ]) (fun y hy box' nb' he=>h2 y box' nb' _ (he _ _ (by simp[aQ])))) ?_;repeat first|simp|refine sR ?_
 refine sT (sH Hb Ht ?_);simp
theorem aDD(t:Ty)(ht:t.Fit)(g:Gr)(e:E)(h0:0<=e.fr/\e.fr<g.nodes.length)(h2:0<=e.to/\e.to<g.nodes.length)(box:Bxs)(nb k1 k2:Nat)(tok:Tks)(nt:Nat)(h1:box k1=some [[.d (nts t.nodes),.d (ets t.edges)]])(h3:box k2=some [[.d (ints g.nodes),.d (AM.edges g.edges)]]):
  aD prog 189 [.agg [I e.ty,I e.fr,I e.to],.ptr k1 0 0,.ptr k2 0 0] ⟨box,nb,tok,nt⟩ fun v m=>v=B (!lvE t g e)/\m=⟨box,nb,tok,nt⟩:=by
 obtain⟨ty,fr,to'⟩:=e;simp only at h0 h2;obtain⟨a,rfl⟩:=Int.eq_ofNat_of_zero_le h0.1;obtain⟨b,rfl⟩:=Int.eq_ofNat_of_zero_le h2.1;have ha:a<g.nodes.length:=by omega
 have hb:b<g.nodes.length:=by omega
 have hc:=aEK t ht ty g.nodes[a] g.nodes[b];have hL:lvE t g ⟨ty,a,b⟩=oL t ty g.nodes[a] g.nodes[b]:=by simp[lvE,ha,hb]
 rw[hL];generalize oL t ty g.nodes[a] g.nodes[b]=R at *;refine sI func189 ntmps189 fun Hb Ht=>?_
 have k1n:=bC Hb h1;have k2n:=bC Hb h3;repeat first|simp[lO k1n,lO k2n,h1,h3,ha,hb]|refine sR ?_
 refine sD (hc _ _) ?_;repeat first|simp|refine sR ?_
 refine sT (sH Hb Ht ?_);simp
def aOV(t:Ty)(g:Gr)(nb:Nat)(box:Bxs)(tok:Tks)(nt:Nat)(i:Nat):AS :=
 ⟨tl [(10,I i),(9,I g.nodes.length),(8,.d (ints g.nodes)),(3,.ptr (nb+3) 0 0),(2,.ptr (nb+2) 0 0)],lb nb box [(3,[[.d (ints g.nodes),.d (AM.edges g.edges)]]),(2,[[.d (nts t.nodes),.d (ets t.edges)]])],tok,nt⟩
theorem aAD(t:Ty)(ht:t.Fit)(g:Gr)(hg:g.Fit)(hv:∀e∈g.edges,0<=e.fr/\e.fr<g.nodes.length/\0<=e.to/\e.to<g.nodes.length):DC 121 [t.av,g.av] (B (dB t g)):=by
 intro tok nt box nb;have hgn:=hg.n;have hge:=hg.e;have htn:=ht.n;obtain⟨N,hN⟩:∃N,dB t g=N:=⟨_,rfl⟩
 rw[hN];unfold dB at hN;refine sI func121 ntmps121 fun Hb Ht=>?_
 repeat first|simp|refine sR ?_
 refine sN ?_;refine sL (aOV t g nb box tok nt) (fun i=>i<=g.nodes.length/\cI (lvN t) (g.nodes.take i)=true) (fun i=>g.nodes.length-i) 0 ⟨Nat.zero_le _,by simp[cI]⟩ wkA ?_;rintro i S' ⟨hi,hok⟩ hS;simp only[aOV] at hS;subst hS;have hw:=sW (i:=i) (by omega);repeat first|simp|refine sR ?_|refine sC ?_
 refine⟨fun hlt=>?_,fun hge=>?_⟩
 .have hno:=fun h=>fP (p:=lvN t) hlt h
  have hyes:=fun h=>cY (p:=lvN t) hlt hok h
  have hl:lvN t g.nodes[i]=if (t.nodes.length:Int)<=g.nodes[i] then false else eE t g.nodes[i]:=rfl
  have hc:=aJz t (by omega) g.nodes[i];by_cases e1:(t.nodes.length:Int)<=g.nodes[i]
  .rw[if_pos e1] at hl;rw[hno hl,if_neg (by simp)] at hN;repeat first|simp[hlt,e1]|refine sR ?_
   refine sC ?_;simp[e1];repeat first|simp|refine sR ?_
   refine sT (sH Hb Ht ?_);simp[<-hN]
  .rw[if_neg e1] at hl;repeat first|simp[hlt,e1]|refine sR ?_
   refine sD (hc _ _) ?_;simp;cases e2:eE t g.nodes[i]
   .rw[e2] at hl;rw[hno hl,if_neg (by simp)] at hN;repeat first|simp|refine sR ?_
    refine sC ?_;repeat first|simp|refine sR ?_
    refine sT (sH Hb Ht ?_);simp[<-hN]
   .rw[e2] at hl;repeat first|simp[hw]|refine sR ?_|refine sC ?_
    refine sE ?_;exact⟨i+1,⟨hlt,hyes hl⟩,by omega,wkA⟩
 .refine sX ?_;simp only[AU,↓reduceIte];have:i=g.nodes.length:=by omega
  subst this;rw[List.take_length] at hok;rw[if_pos hok] at hN;obtain⟨p,hpp⟩:∃p:E->Bool,(fun e=>!lvE t g e)=p:=⟨_,rfl⟩
  have h2:=fun y (hy:y∈g.edges) box nb k1 k2 hk1 hk2=>aDD t ht g y ⟨(hv y hy).1,(hv y hy).2.1⟩ ⟨(hv y hy).2.2.1,(hv y hy).2.2.2⟩ box nb k1 k2 tok nt hk1 hk2
  have hpy:∀y:E,(!lvE t g y)=p y:=fun y=>by rw[<-hpp]
  simp only[hpy] at h2;have hN2:(!bB p g.edges)=N:=by
   rw[<-hN,<-hpp,cI,bB,List.any_eq_not_all_not,Bool.not_not];simp
  repeat first|simp|refine sR ?_
  have hcap:∀c∈[AV.ptr (nb+2) 0 0,AV.ptr (nb+3) 0 0],bF (fun k=>(lb nb box [(3,[[.d (ints g.nodes),.d (AM.edges g.edges)]]),(2,[[.d (nts t.nodes),.d (ets t.edges)]])]) k≠none) (fun _=>True) c:=by
   intro c hc;simp only[List.mem_cons,List.not_mem_nil,or_false] at hc;rcases hc with h|h
   .rw[h];simp[aQ]
   .rw[h];simp[aQ]
  refine aN.of_b (eR g.edges 189 [.ptr (nb+2) 0 0,.ptr (nb+3) 0 0] p hg.e _ _ _ _ hcap (fun y hy box' nb' he=>h2 y hy box' nb' _ _ (he _ _ (by simp[aQ])) (he _ _ (by simp[aQ])))) ?_;repeat first|simp|refine sR ?_
  refine sT (sH Hb Ht ?_);simp[<-hN2]
def aNV(t:Ty)(k:Int)(nb:Nat)(box:Bxs)(tok:Tks)(nt:Nat)(i:Nat):AS :=
 ⟨tl [(5,I i),(1,I k),(2,.ptr (nb+2) 0 0)],lb nb box [(2,[[.d (nts t.nodes),.d (ets t.edges)]])],tok,nt⟩
theorem aJv(t:Ty)(ht:t.nodes.length<=1000000)(k:Int):DC 100 [t.av,I k] (B (eE t k)):=by
 intro tok nt box nb;obtain⟨N,hN⟩:∃N,eE t k=N:=⟨_,rfl⟩
 rw[hN];have hN2:cI (fun n=>!(n.par==k)) t.nodes=N:=by rw[<-hN,cI,eE,bB,List.any_eq_not_all_not,Bool.not_not]
 clear hN;refine sI func100 ntmps100 fun Hb Ht=>?_
 repeat first|simp|refine sR ?_
 refine sN ?_;refine sL (aNV t k nb box tok nt) (fun i=>i<=t.nodes.length/\cI (fun n=>!(n.par==k)) (t.nodes.take i)=true) (fun i=>t.nodes.length-i) 0 ⟨Nat.zero_le _,by simp[cI]⟩ wkA ?_;rintro i S' ⟨hi,hok⟩ hS;simp only[aNV] at hS;subst hS;have hw:=sW (i:=i) (by omega);repeat first|simp|refine sR ?_|refine sC ?_
 refine⟨fun hlt=>?_,fun hge=>?_⟩
 .have hno:=fun h=>fP (p:=fun n:NT=>!(n.par==k)) hlt h
  have hyes:=fun h=>cY (p:=fun n:NT=>!(n.par==k)) hlt hok h
  cases e1:t.nodes[i].par==k
  .repeat first|simp[hlt,e1]|refine sR ?_
   refine sC ?_;simp[e1];repeat first|simp[hw]|refine sR ?_
   refine sE ?_;exact⟨i+1,⟨hlt,hyes (by simp only[e1];rfl)⟩,by omega,wkA⟩
  .rw[hno (by simp only[e1];rfl)] at hN2;repeat first|simp[hlt,e1]|refine sR ?_
   refine sC ?_;simp[e1];repeat first|simp|refine sR ?_
   refine sT (sH Hb Ht ?_);simp[<-hN2]
 .refine sX ?_;simp only[AU,↓reduceIte];have:i=t.nodes.length:=by omega
  subst this;rw[List.take_length] at hok;rw[hok] at hN2;repeat first|simp|refine sR ?_
  refine sT (sH Hb Ht ?_);simp[<-hN2]
def aOQ(t:Ty)(g:Gr)(nb:Nat)(box:Bxs)(tok:Tks)(nt:Nat)(i:Nat):AS :=
 ⟨tl [(5,I i),(3,.ptr (nb+3) 0 0),(2,.ptr (nb+2) 0 0)],lb nb box [(3,[[.d (ints g.nodes),.d (AM.edges g.edges)]]),(2,[[.d (nts t.nodes),.d (ets t.edges)]])],tok,nt⟩
def aO9(t:Ty)(g:Gr)(nb:Nat)(box:Bxs)(tok:Tks)(nt:Nat)(i:Nat):AS :=
 ⟨tl [(6,I i),(3,.ptr (nb+3) 0 0),(2,.ptr (nb+2) 0 0)],lb nb box [(3,[[.d (ints g.nodes),.d (AM.edges g.edges)]]),(2,[[.d (nts t.nodes),.d (ets t.edges)]])],tok,nt⟩
theorem nU(t:Ty)(ht:t.Fit)(g:Gr)(hg:g.Fit)(hv:∀e∈g.edges,0<=e.fr/\e.fr<g.nodes.length/\0<=e.to/\e.to<g.nodes.length):DC 131 [t.av,g.av] (B (dB t g)):=by
 intro tok nt box nb;have hgn:=hg.n;have hge:=hg.e;have htn:=ht.n;obtain⟨N,hN⟩:∃N,dB t g=N:=⟨_,rfl⟩
 rw[hN];unfold dB at hN;refine sI func131 ntmps131 fun Hb Ht=>?_
 repeat first|simp|refine sR ?_
 refine sN ?_;refine sL (aOQ t g nb box tok nt) (fun i=>i<=g.nodes.length/\cI (lvN t) (g.nodes.take i)=true) (fun i=>g.nodes.length-i) 0 ⟨Nat.zero_le _,by simp[cI]⟩ wkA ?_;rintro i S' ⟨hi,hok⟩ hS;simp only[aOQ] at hS;subst hS;have hw:=sW (i:=i) (by omega);repeat first|simp|refine sR ?_|refine sC ?_
 refine⟨fun hlt=>?_,fun hge=>?_⟩
 .have hno:=fun h=>fP (p:=lvN t) hlt h
  have hyes:=fun h=>cY (p:=lvN t) hlt hok h
  have hl:lvN t g.nodes[i]=if (t.nodes.length:Int)<=g.nodes[i] then false else eE t g.nodes[i]:=rfl
  have hc:=aJv t (by omega) g.nodes[i];by_cases e1:(t.nodes.length:Int)<=g.nodes[i]
  .rw[if_pos e1] at hl;rw[hno hl,if_neg (by simp)] at hN;repeat first|simp[hlt,e1]|refine sR ?_
   refine sC ?_;simp[e1];repeat first|simp|refine sR ?_
   refine sT (sH Hb Ht ?_);simp[<-hN]
  .rw[if_neg e1] at hl;repeat first|simp[hlt,e1]|refine sR ?_
   refine sD (hc _ _) ?_;simp;cases e2:eE t g.nodes[i]
   .rw[e2] at hl;rw[hno hl,if_neg (by simp)] at hN;repeat first|simp|refine sR ?_
    refine sC ?_;repeat first|simp|refine sR ?_
    refine sT (sH Hb Ht ?_);simp[<-hN]
   .rw[e2] at hl;repeat first|simp[hw]|refine sR ?_|refine sC ?_
    refine sE ?_;exact⟨i+1,⟨hlt,hyes hl⟩,by omega,wkA⟩
 .refine sX ?_;simp only[AU,↓reduceIte];have:i=g.nodes.length:=by omega
  subst this;rw[List.take_length] at hok;rw[if_pos hok] at hN;repeat first|simp|refine sR ?_
  refine sN ?_;refine sL (aO9 t g nb box tok nt) (fun i=>i<=g.edges.length/\cI (lvE t g) (g.edges.take i)=true) (fun i=>g.edges.length-i) 0 ⟨Nat.zero_le _,by simp[cI]⟩ wkA ?_;rintro i S' ⟨hi,hok⟩ hS;simp only[aO9] at hS;subst hS;have hw:=sW (i:=i) (by omega);repeat first|simp|refine sR ?_|refine sC ?_
  refine⟨fun hlt=>?_,fun hge=>?_⟩
  .have hno:=fun h=>fP (p:=lvE t g) hlt h
   have hyes:=fun h=>cY (p:=lvE t g) hlt hok h
   have hve:=hv _ (List.getElem_mem hlt);obtain⟨a,hef⟩:=Int.eq_ofNat_of_zero_le hve.1;obtain⟨b,het⟩:=Int.eq_ofNat_of_zero_le hve.2.2.1;have ha:a<g.nodes.length:=by omega
   have hb:b<g.nodes.length:=by omega
   have hc:=aBY t ht g.edges[i].ty g.nodes[a] g.nodes[b];have hL:lvE t g g.edges[i]=oL t g.edges[i].ty g.nodes[a] g.nodes[b]:=by simp[lvE,hef,het,ha,hb]
   rw[hL] at hno hyes;repeat first|simp[hlt,hef,het,ha,hb]|refine sR ?_
   refine sD (hc _ _) ?_;simp;cases e1:oL t g.edges[i].ty g.nodes[a] g.nodes[b]
   .rw[hno e1] at hN;repeat first|simp|refine sR ?_
    refine sC ?_;repeat first|simp|refine sR ?_
    refine sT (sH Hb Ht ?_);simp[<-hN]
   .repeat first|simp[hw]|refine sR ?_|refine sC ?_
    refine sE ?_;exact⟨i+1,⟨hlt,hyes e1⟩,by omega,wkA⟩
  .refine sX ?_;simp only[AU,↓reduceIte];have:i=g.edges.length:=by omega
   subst this;rw[List.take_length] at hok;rw[hok] at hN;repeat first|simp|refine sR ?_
   refine sT (sH Hb Ht ?_);simp[<-hN]
def aNW(xs:List Xt)(f:FuncId)(caps:List AV)(nb:Nat)(box:Bxs)(tok:Tks)(nt:Nat)(i:Nat):AS:=⟨tl [(0,.d (xts xs)),(1,.fn (.func f) caps),(7,I xs.length),(8,I i)],lb nb box [],tok,nt⟩
theorem aBb(xs:List Xt)(f:FuncId)(caps:List AV)(p:Xt->Bool)(hx:xs.length<=1000000)(box:Bxs)(nb:Nat)(tok:Tks)(nt:Nat)(hc:∀c∈caps,bF (fun k=>box k≠none) (fun _=>True) c)(hf:∀x∈xs,∀box' nb',Ext box box'->aD prog f (x.av::caps) ⟨box',nb',tok,nt⟩ fun v m=>v=B (p x)/\m=⟨box',nb',tok,nt⟩):
  aD prog 191 [.d (xts xs),.fn (.func f) caps] ⟨box,nb,tok,nt⟩ fun v m=>v=I (if bB p xs=true then (xs.findIdx p:Nat) else -1)/\m=⟨box,nb,tok,nt⟩:=by
 refine sI func191 ntmps191 fun Hb Ht=>?_
 repeat first|simp|refine sR ?_
 refine sN ?_;refine sL (aNW xs f caps nb box tok nt) (fun i=>i<=xs.length/\∀x∈xs.take i,p x=false) (fun i=>xs.length-i) 0 ⟨Nat.zero_le _,by simp⟩ (wM (nr0 _) rfl (by simp[ToL];exact .same (lC hc Hb [] (by simp) rfl _)) trivial) ?_;rintro i S' ⟨hi,htk⟩ hS;simp only[aNW] at hS;subst hS;have hw:=sW (i:=i) (by omega);repeat first|simp|refine sR ?_|refine sC ?_
 refine⟨fun hlt=>?_,fun hge=>?_⟩
 .have hfx:=hf xs[i] (List.getElem_mem _);have hpx:p xs[i]=true->bB p xs=true/\(xs.findIdx p=i):=fun he=>kM hlt htk he
  have hmore:p xs[i]=false->∀x∈xs.take (i+1),p x=false:=fun he x hx=>by
   rw[List.take_succ_eq_append_getElem hlt] at hx;rcases List.mem_append.1 hx with hx|hx
   .exact htk x hx
   .simp at hx;rw[hx];exact he
  repeat first|simp[hlt]|refine sR ?_
  generalize xs[i]=x at *;refine aN.of_b (hfx _ _ ((Ext.refl box).lb Hb [])) ?_;simp;cases he:p x
  .refine sC ?_;simp;repeat first|simp[hw]|refine sR ?_
   refine sE ?_;refine⟨i+1,⟨hlt,?_⟩,by omega,wM (nr0 _) rfl (by simp[ToL];exact .same (lC hc Hb [] (by simp) rfl _)) trivial⟩;exact hmore he
  .obtain⟨h1,h2⟩:=hpx he;refine sC ?_;repeat first|simp|refine sR ?_
   refine sT (sH Hb Ht ?_);simp[h1,h2]
 .have hn:bB p xs=false:=by
   rw[List.take_of_length_le hge] at htk;simpa[bB] using htk
  refine sX ?_;simp only[AU,↓reduceIte];repeat first|simp|refine sR ?_
  refine sT (sH Hb Ht ?_);simp[hn]
theorem tY(xs:List Xt)(f:FuncId)(caps:List AV)(p:Xt->Bool)(hx:xs.length<=1000000)(box:Bxs)(nb:Nat)(tok:Tks)(nt:Nat)(hc:∀c∈caps,bF (fun k=>box k≠none) (fun _=>True) c)(hf:∀x∈xs,∀box' nb',Ext box box'->aD prog f (x.av::caps) ⟨box',nb',tok,nt⟩ fun v m=>v=B (p x)/\m=⟨box',nb',tok,nt⟩):
  aD prog 122 [.d (xts xs),.fn (.func f) caps] ⟨box,nb,tok,nt⟩ fun v m=>v=B (bB p xs)/\m=⟨box,nb,tok,nt⟩:=by
 obtain⟨A,hany⟩:∃A,bB p xs=A:=⟨_,rfl⟩
 have hi:=fun b nb' h1 h2=>aBb xs f caps p hx b nb' tok nt h1 h2
 rw[hany];simp only[hany] at hi;refine sI func122 ntmps122 fun Hb Ht=>?_
 repeat first|simp|refine sR ?_
 refine aN.of_b (hi (lb nb box []) _ (fun c h=>(hc c h).mono (fun k hk=>by rw[Hb];exact hk) fun _ h=>h) (fun x hx' box' nb' he=>hf x hx' box' nb' (by rw[Hb] at he;exact he))) ?_;simp;cases A
 .repeat first|simp|refine sR ?_
  refine sT (sH Hb Ht ?_);simp
 .have h0:(0:Int)<=(xs.findIdx p:Nat):=by omega
  repeat first|simp|refine sR ?_
  refine sT (sH Hb Ht ?_);simp[h0]
theorem aD6(g:Gr)(hg:g.Fit):DC 185 [g.av] (B (oM g)):=by
 intro tok nt box nb;have hn:=hg.n;have he:=hg.e;obtain⟨N,hN⟩:∃N,oM g=N:=⟨_,rfl⟩
 rw[hN];unfold oM at hN;by_cases e1:6<g.nodes.length
 .have e1':(6:Int)<g.nodes.length:=by omega
  rw[if_pos e1] at hN;refine sI func185 ntmps185 fun Hb Ht=>?_
  try (simp[e1,e1'])
  repeat ((first|refine sR ?_|refine sC ?_|refine sX ?_);simp[e1,e1'])
  refine sT (sH Hb Ht ?_);simp[<-hN]
 .have e1':¬(6:Int)<g.nodes.length:=by omega
  rw[if_neg e1] at hN;by_cases e2:8<g.edges.length
  .have e2':(8:Int)<g.edges.length:=by omega
   rw[decide_eq_true e2] at hN;refine sI func185 ntmps185 fun Hb Ht=>?_
   try (simp[e1,e1',e2,e2'])
   repeat ((first|refine sR ?_|refine sC ?_|refine sX ?_);simp[e1,e1',e2,e2'])
   refine sT (sH Hb Ht ?_);simp[<-hN,e2']
  .have e2':¬(8:Int)<g.edges.length:=by omega
   rw[decide_eq_false e2] at hN;refine sI func185 ntmps185 fun Hb Ht=>?_
   try (simp[e1,e1',e2,e2'])
   repeat ((first|refine sR ?_|refine sC ?_|refine sX ?_);simp[e1,e1',e2,e2'])
   refine sT (sH Hb Ht ?_);simp[<-hN,e2']
theorem aCX(c:Co):(c.kind=1/\c.exts=[]/\kdE c=0)∨(c.kind=1/\c.exts≠[]/\kdE c=1)∨(c.kind=2/\c.exts=[]/\kdE c=7)∨(c.kind=2/\c.exts≠[]/\6<c.exts.length/\kdE c=3)∨(c.kind=2/\c.exts≠[]/\¬6<c.exts.length/\kdE c=0)∨(c.kind≠1/\c.kind≠2/\kdE c=1):=by
 unfold kdE;by_cases h1:c.kind=1
 .by_cases h2:c.exts=[]<;>simp[h1,h2]
 .by_cases h2:c.kind=2
  .by_cases h3:c.exts=[]
   .simp[h2,h3]
   .by_cases h4:6<c.exts.length<;>simp[h2,h3,h4]
  .simp[h1,h2]
def aJF(c:Co)(nb:Nat)(box:Bxs)(tok:Tks)(nt:Nat)(i:Nat):AS :=
 ⟨tl [(59,I i),(58,I c.exts.length),(57,.d (xts c.exts)),(1,.ptr (nb+1) 0 0)],lb nb box [(1,[c.row])],tok,nt⟩
theorem aMB(c:Co)(hc:c.Fit):DC 120 [c.av] (I (lA c)):=by
 intro tok nt box nb;have h1:=nM c.name hc.name;have h2:=bU c.g hc.g;have h3:=aD6 c.g hc.g;have hxn:=hc.n;obtain⟨N,hN⟩:∃N,lA c=N:=⟨_,rfl⟩
 rw[hN];unfold lA at hN;generalize cM c.name=B1 at *;generalize vG c.g=E2 at *;generalize oM c.g=B3 at *;cases B1
 .rw[if_pos rfl] at hN;refine sI func120 ntmps120 fun Hb Ht=>?_
  repeat first|simp|refine sR ?_
  refine sD (h1 _ _) ?_;simp;try (simp)
  repeat ((first|refine sR ?_|refine sC ?_|refine sX ?_);simp)
  refine sT (sH Hb Ht ?_);simp[<-hN]
 .rw[if_neg (by simp)] at hN;have xp:=fun (h:c.exts≠[])=>List.length_pos_iff.2 h
  rcases aCX c with ⟨k1,x1,kd⟩|⟨k1,x1,kd⟩|⟨k1,x1,kd⟩|⟨k1,x1,x2,kd⟩|⟨k1,x1,x2,kd⟩|⟨k1,k2,kd⟩
  .rw[if_neg (by rw[kd];decide)] at hN;refine sI func120 ntmps120 fun Hb Ht=>?_
   repeat first|simp|refine sR ?_
   refine sD (h1 _ _) ?_;simp;try (simp[k1,x1])
   repeat ((first|refine sR ?_|refine sC ?_|refine sX ?_);simp[k1,x1])
   refine sD (h2 _ _) ?_;repeat first|simp|refine sR ?_
   by_cases v0:E2=0
   .rw[if_neg (by simp[v0])] at hN;refine sC ?_;simp[v0];repeat first|simp|refine sR ?_
    refine sD (h3 _ _) ?_;simp;cases B3
    .rw[if_neg (by simp)] at hN;repeat first|simp|refine sR ?_
     refine sC ?_;repeat first|simp|refine sR ?_
     refine sN ?_;refine sL (aJF c nb box tok nt) (fun i=>i<=c.exts.length/\aA (dW c) i=0) (fun i=>c.exts.length-i) 0 ⟨Nat.zero_le _,rfl⟩ wkA ?_;rintro i S' ⟨hi,hok⟩ hS;simp only[aJF] at hS;subst hS;have hw:=sW (i:=i) (by omega);repeat first|simp|refine sR ?_|refine sC ?_
     refine⟨fun hlt=>?_,fun hge=>?_⟩
     .have hx:=hc.exts _ (List.getElem_mem hlt);have hR:dW c i≠0->aA (dW c) c.exts.length=dW c i:=fun h0=>aL hok h0 _ hlt
      have hnx:dW c i=0->aA (dW c) (i+1)=0:=fun h0=>by simp only[aA,hok,h0,↓reduceIte]
      have hd:dW c i=xtE c.g c.exts[i]:=pY hlt
      unfold xtE at hd;have c1:=kF c.g c.exts[i].g c.exts[i].m hc.g hx.g;have c2:=aD6 c.exts[i].g hx.g;have c3:=jV c.g c.exts[i].g c.exts[i].m hc.g hx.g hx.m;generalize dW c i=E at *;repeat first|simp[hlt]|refine sR ?_
      refine sD (c1 _ _) ?_;repeat first|simp|refine sR ?_
      by_cases f1:aG c.g c.exts[i].g c.exts[i].m=0
      .rw[if_neg (by simp[f1])] at hd;simp only[f1];refine sC ?_;repeat first|simp|refine sR ?_
       refine sD (c2 _ _) ?_;simp;cases f2:oM c.exts[i].g
       .rw[f2,if_neg (by simp)] at hd;repeat first|simp|refine sR ?_
        refine sC ?_;repeat first|simp|refine sR ?_
        refine sD (c3 _ _) ?_;simp;cases f3:fV c.g c.exts[i].g c.exts[i].m
        .rw[f3,if_neg (by simp)] at hd;rw[hR (by rw[hd];decide),hd] at hN;repeat first|simp|refine sR ?_
         refine sC ?_;repeat first|simp|refine sR ?_
         refine sT (sH Hb Ht ?_);simp[<-hN]
        .rw[f3,if_pos rfl] at hd;repeat first|simp[hw]|refine sR ?_|refine sC ?_
         refine sE ?_;exact⟨i+1,⟨hlt,hnx hd⟩,by omega,wkA⟩
       .rw[f2,if_pos rfl] at hd;rw[hR (by rw[hd];decide),hd] at hN;repeat first|simp|refine sR ?_
        refine sC ?_;repeat first|simp|refine sR ?_
        refine sT (sH Hb Ht ?_);simp[<-hN]
      .rw[if_pos f1] at hd;have b1:(aG c.g c.exts[i].g c.exts[i].m != 0)=true:=by simp[f1]
       rw[hR (by rw[hd];exact f1),hd] at hN;simp only[b1];refine sC ?_;repeat first|simp|refine sR ?_
       refine sT (sH Hb Ht ?_);simp[<-hN]
     .refine sX ?_;simp only[AU,↓reduceIte];have:i=c.exts.length:=by omega
      subst this;rw[hok] at hN;repeat first|simp|refine sR ?_
      refine sT (sH Hb Ht ?_);simp[<-hN]
    .rw[if_pos rfl] at hN;repeat first|simp|refine sR ?_
     refine sC ?_;repeat first|simp|refine sR ?_
     refine sT (sH Hb Ht ?_);simp[<-hN]
   .have b0:(E2 != 0)=true:=by simp[v0]
    rw[if_pos v0] at hN;refine sC ?_;simp[v0,b0];repeat first|simp|refine sR ?_
    refine sT (sH Hb Ht ?_);simp[<-hN]
  .rw[if_pos (by rw[kd];decide),kd] at hN;have x1':=xp x1
   refine sI func120 ntmps120 fun Hb Ht=>?_
   repeat first|simp|refine sR ?_
   refine sD (h1 _ _) ?_;simp;try (simp[k1,x1,x1'])
   repeat ((first|refine sR ?_|refine sC ?_|refine sX ?_);simp[k1,x1,x1'])
   refine sT (sH Hb Ht ?_);simp[<-hN]
  .rw[if_pos (by rw[kd];decide),kd] at hN;refine sI func120 ntmps120 fun Hb Ht=>?_
   repeat first|simp|refine sR ?_
   refine sD (h1 _ _) ?_;simp;try (simp[k1,x1])
   repeat ((first|refine sR ?_|refine sC ?_|refine sX ?_);simp[k1,x1])
   refine sT (sH Hb Ht ?_);simp[<-hN]
  .rw[if_pos (by rw[kd];decide),kd] at hN;have x2':(6:Int)<c.exts.length:=by omega
   refine sI func120 ntmps120 fun Hb Ht=>?_
   repeat first|simp|refine sR ?_
   refine sD (h1 _ _) ?_;simp;try (simp[k1,x1,x2,x2'])
   repeat ((first|refine sR ?_|refine sC ?_|refine sX ?_);simp[k1,x1,x2,x2'])
   refine sT (sH Hb Ht ?_);simp[<-hN]
  .rw[if_neg (by rw[kd];decide)] at hN;have x2':¬(6:Int)<c.exts.length:=by omega
   refine sI func120 ntmps120 fun Hb Ht=>?_
   repeat first|simp|refine sR ?_
   refine sD (h1 _ _) ?_;simp;try (simp[k1,x1,x2,x2'])
   repeat ((first|refine sR ?_|refine sC ?_|refine sX ?_);simp[k1,x1,x2,x2'])
   refine sD (h2 _ _) ?_;repeat first|simp|refine sR ?_
   by_cases v0:E2=0
   .rw[if_neg (by simp[v0])] at hN;refine sC ?_;simp[v0];repeat first|simp|refine sR ?_
    refine sD (h3 _ _) ?_;simp;cases B3
    .rw[if_neg (by simp)] at hN;repeat first|simp|refine sR ?_
     refine sC ?_;repeat first|simp|refine sR ?_
     refine sN ?_;refine sL (aJF c nb box tok nt) (fun i=>i<=c.exts.length/\aA (dW c) i=0) (fun i=>c.exts.length-i) 0 ⟨Nat.zero_le _,rfl⟩ wkA ?_;rintro i S' ⟨hi,hok⟩ hS;simp only[aJF] at hS;subst hS;have hw:=sW (i:=i) (by omega);repeat first|simp|refine sR ?_|refine sC ?_
     refine⟨fun hlt=>?_,fun hge=>?_⟩
     .have hx:=hc.exts _ (List.getElem_mem hlt);have hR:dW c i≠0->aA (dW c) c.exts.length=dW c i:=fun h0=>aL hok h0 _ hlt
      have hnx:dW c i=0->aA (dW c) (i+1)=0:=fun h0=>by simp only[aA,hok,h0,↓reduceIte]
      have hd:dW c i=xtE c.g c.exts[i]:=pY hlt
      unfold xtE at hd;have c1:=kF c.g c.exts[i].g c.exts[i].m hc.g hx.g;have c2:=aD6 c.exts[i].g hx.g;have c3:=jV c.g c.exts[i].g c.exts[i].m hc.g hx.g hx.m;generalize dW c i=E at *;repeat first|simp[hlt]|refine sR ?_
      refine sD (c1 _ _) ?_;repeat first|simp|refine sR ?_
      by_cases f1:aG c.g c.exts[i].g c.exts[i].m=0
      .rw[if_neg (by simp[f1])] at hd;simp only[f1];refine sC ?_;repeat first|simp|refine sR ?_
       refine sD (c2 _ _) ?_;simp;cases f2:oM c.exts[i].g
       .rw[f2,if_neg (by simp)] at hd;repeat first|simp|refine sR ?_
        refine sC ?_;repeat first|simp|refine sR ?_
        refine sD (c3 _ _) ?_;simp;cases f3:fV c.g c.exts[i].g c.exts[i].m
        .rw[f3,if_neg (by simp)] at hd;rw[hR (by rw[hd];decide),hd] at hN;repeat first|simp|refine sR ?_
         refine sC ?_;repeat first|simp|refine sR ?_
         refine sT (sH Hb Ht ?_);simp[<-hN]
        .rw[f3,if_pos rfl] at hd;repeat first|simp[hw]|refine sR ?_|refine sC ?_
         refine sE ?_;exact⟨i+1,⟨hlt,hnx hd⟩,by omega,wkA⟩
       .rw[f2,if_pos rfl] at hd;rw[hR (by rw[hd];decide),hd] at hN;repeat first|simp|refine sR ?_
        refine sC ?_;repeat first|simp|refine sR ?_
        refine sT (sH Hb Ht ?_);simp[<-hN]
      .rw[if_pos f1] at hd;have b1:(aG c.g c.exts[i].g c.exts[i].m != 0)=true:=by simp[f1]
       rw[hR (by rw[hd];exact f1),hd] at hN;simp only[b1];refine sC ?_;repeat first|simp|refine sR ?_
       refine sT (sH Hb Ht ?_);simp[<-hN]
     .refine sX ?_;simp only[AU,↓reduceIte];have:i=c.exts.length:=by omega
      subst this;rw[hok] at hN;repeat first|simp|refine sR ?_
      refine sT (sH Hb Ht ?_);simp[<-hN]
    .rw[if_pos rfl] at hN;repeat first|simp|refine sR ?_
     refine sC ?_;repeat first|simp|refine sR ?_
     refine sT (sH Hb Ht ?_);simp[<-hN]
   .have b0:(E2 != 0)=true:=by simp[v0]
    rw[if_pos v0] at hN;refine sC ?_;simp[v0,b0];repeat first|simp|refine sR ?_
    refine sT (sH Hb Ht ?_);simp[<-hN]
  .rw[if_pos (by rw[kd];decide),kd] at hN;have b1:(c.kind==1)=false:=by simp[k1]
   have b2:(c.kind==2)=false:=by simp[k2]
   have b3:(c.kind != 1)=true:=by simp[k1]
   have b4:(c.kind != 2)=true:=by simp[k2]
   refine sI func120 ntmps120 fun Hb Ht=>?_
   repeat first|simp|refine sR ?_
   refine sD (h1 _ _) ?_;simp;try (simp[k1,k2,b1,b2,b3,b4])
   repeat ((first|refine sR ?_|refine sC ?_|refine sX ?_);simp[k1,k2,b1,b2,b3,b4])
   refine sT (sH Hb Ht ?_);simp[<-hN]
theorem aGv(t:Ty)(ht:t.Fit)(x:Xt)(hx:x.g.Fit)(hv:∀e∈x.g.edges,0<=e.fr/\e.fr<x.g.nodes.length/\0<=e.to/\e.to<x.g.nodes.length)(box:Bxs)(nb k1:Nat)(tok:Tks)(nt:Nat)(h1:box k1=some [[.d (nts t.nodes),.d (ets t.edges)]]):
  aD prog 123 [x.av,.ptr k1 0 0] ⟨box,nb,tok,nt⟩ fun v m=>v=B (!dB t x.g)/\m=⟨box,nb,tok,nt⟩:=by
 have hc:=aAD t ht x.g hx hv;generalize dB t x.g=R at *;refine sI func123 ntmps123 fun Hb Ht=>?_
 have k1n:=bC Hb h1;repeat first|simp[lO k1n,h1]|refine sR ?_
 refine sD (hc _ _) ?_;repeat first|simp|refine sR ?_
 refine sT (sH Hb Ht ?_);simp
theorem aBW(t:Ty)(ht:t.Fit)(c:Co)(hc:c.Fit):DC 73 [t.av,c.av] (I (cnE t c)):=by
 intro tok nt box nb;have h1:=nC t ht ht.hM;have h2:=aMB c hc;have hv:=@rR c;obtain⟨N,hN⟩:∃N,cnE t c=N:=⟨_,rfl⟩
 rw[hN];unfold cnE at hN;generalize tyE t=E at *;generalize tyN t=Z at *;generalize lA c=S at *;refine sI func73 ntmps73 fun Hb Ht=>?_
 repeat first|simp|refine sR ?_
 refine sD (h1 _ _) ?_;repeat first|simp|refine sR ?_
 by_cases e1:E=0
 .rw[if_neg (by simp[e1])] at hN;refine sC ?_;simp[e1];repeat first|simp|refine sR ?_
  refine sD (h2 _ _) ?_;repeat first|simp|refine sR ?_
  by_cases e2:S=0
  .rw[if_neg (by simp[e2])] at hN;obtain⟨_,_,v1,_,v2⟩:=hv e2;have l1:=aAD t ht c.g hc.g (aE v1);have l2:=fun x (hx:x∈c.exts)=>aGv t ht x (hc.exts x hx).g (aE (kL (v2 x hx).1).vb)
   unfold lvX at hN;refine sC ?_;simp[e2];repeat first|simp|refine sR ?_
   refine sD (l1 _ _) ?_;simp;cases e3:dB t c.g
   .rw[e3,if_neg (by simp)] at hN;repeat first|simp|refine sR ?_
    refine sC ?_;repeat first|simp|refine sR ?_
    refine sT (sH Hb Ht ?_);simp[<-hN]
   .rw[e3,if_pos rfl] at hN;obtain⟨p,hpp⟩:∃p:Xt->Bool,(fun x:Xt=>!dB t x.g)=p:=⟨_,rfl⟩
    have hpy:∀y:Xt,(!dB t y.g)=p y:=fun y=>by rw[<-hpp]
    simp only[hpy] at l2;have hN2:(!bB p c.exts)=cI (fun x:Xt=>dB t x.g) c.exts:=by
     rw[<-hpp,cI,bB,List.any_eq_not_all_not,Bool.not_not];simp
    rw[<-hN2] at hN;repeat first|simp|refine sR ?_
    refine aN.of_b (tY c.exts 123 [.ptr (nb+2) 0 0] p hc.n _ _ _ _ (fun c hc=>by rw[List.mem_singleton.1 hc];simp[aQ]) (fun y hy box' nb' he=>l2 y hy box' nb' _ _ _ (he _ _ (by simp[aQ])))) ?_;simp;cases e4:bB p c.exts
    .rw[e4,Bool.not_false,if_pos rfl] at hN;repeat first|simp|refine sR ?_
     refine sC ?_;repeat first|simp|refine sR ?_
     refine sT (sH Hb Ht ?_);simp[<-hN]
    .rw[e4,Bool.not_true,if_neg (by simp)] at hN;repeat first|simp|refine sR ?_
     refine sC ?_;repeat first|simp|refine sR ?_
     refine sT (sH Hb Ht ?_);simp[<-hN]
  .rw[if_pos e2] at hN;have b2:(S != 0)=true:=by simp[e2]
   refine sC ?_;simp[b2];repeat first|simp|refine sR ?_
   refine sT (sH Hb Ht ?_);simp[<-hN]
 .rw[if_pos e1] at hN;have b1:(E != 0)=true:=by simp[e1]
  refine sC ?_;simp[b1];repeat first|simp|refine sR ?_
  refine sT (sH Hb Ht ?_);simp[<-hN]
theorem aA6(g:Gr)(p:Mo)(hg:g.Fit)(hp:p.Fit)(h:cR g p≠0):DC 69 [g.av,p.av] (.tup [(Gr.mk [] []).av,(Mo.mk [] []).av,I (cR g p)]):=by
 intro tok nt box nb;have h1:=qT g p hg hp;have b1:(cR g p != 0)=true:=by simp[h]
 generalize cR g p=E at *;refine sI func69 ntmps69 fun Hb Ht=>?_
 repeat first|simp|refine sR ?_
 refine sD (h1 _ _) ?_;repeat first|simp[b1]|refine sR ?_|refine sC ?_
 refine sT (sH Hb Ht ?_);simp[ints,AM.edges]
def aOJ(r:Ru)(nb:Nat)(box:Bxs)(tok:Tks)(nt:Nat)(i:Nat):AS :=
 ⟨tl [(62,I i),(61,I 2),(60,.osl 5 [[ints r.lg.nodes,AM.edges r.lg.edges,gS r.lsl,.raw (.int .i64 r.lv),gR r.lte],[ints r.rg.nodes,AM.edges r.rg.edges,gS r.rsl,.raw (.int .i64 r.rv),gR r.rte]] .full),(1,.ptr (nb+1) 0 0)],lb nb box [(1,[r.row])],tok,nt⟩
theorem vV(r:Ru)(hr:r.Fit):DC 201 [r.av] (I (cN r)):=by
 intro tok nt box nb;have h1:=bU r.lg hr.lg;have h2:=bU r.rg hr.rg;have h3:=aA6 r.lg r.k hr.lg hr.k;have h4:=fun h=>aDZ r.lg r.k hr.lg hr.k h
 have h5:=fun h=>kF (exG r.lg r.k) r.rg r.i h hr.rg
 have h6:=fun h=>jV (exG r.lg r.k) r.rg r.i h hr.rg hr.i
 refine sI func201 ntmps201 fun Hb Ht=>?_
 repeat first|simp|refine sR ?_
 refine sD (h1 _ _) ?_;repeat first|simp|refine sR ?_
 by_cases e1:vG r.lg=0
 .simp only[e1];refine sC ?_;repeat first|simp|refine sR ?_
  refine sD (h2 _ _) ?_;repeat first|simp|refine sR ?_
  by_cases e2:vG r.rg=0
  .simp only[e2];refine sC ?_;repeat first|simp|refine sR ?_
   by_cases e3:cR r.lg r.k=0
   .have hp:=VP.of e3;have hx:=hp.emb.fit.2.1;refine sD (h4 hp _ _) ?_;repeat first|simp|refine sR ?_
    refine sC ?_;repeat first|simp|refine sR ?_
    refine sD (h5 hx _ _) ?_;repeat first|simp|refine sR ?_
    by_cases e4:aG (exG r.lg r.k) r.rg r.i=0
    .simp only[e4];refine sC ?_;repeat first|simp|refine sR ?_
     refine sD (h6 hx _ _) ?_;repeat first|simp|refine sR ?_
     cases e5:fV (exG r.lg r.k) r.rg r.i
     .refine sC ?_;repeat first|simp|refine sR ?_
      refine sT (sH Hb Ht ?_);simp[cN,e1,e2,e3,e4,e5]
     .refine sC ?_;repeat first|simp|refine sR ?_
      have hls:=hr.ls;have hlt:=hr.lt;have hrs:=hr.rs;have hrt:=hr.rt;rw[bM] at hls hlt hrs hrt;have w1:IntKind.i64.wrap ((r.lsl.length:Int)+r.lte.length)=((r.lsl.length+r.lte.length:Nat):Int):=by rw[aM (by omega) (by omega)];omega
      have w2:IntKind.i64.wrap ((r.rsl.length:Int)+r.rte.length)=((r.rsl.length+r.rte.length:Nat):Int):=by rw[aM (by omega) (by omega)];omega
      refine⟨rfl,?_⟩;repeat first|simp|refine sR ?_
      refine sN ?_;refine sL (aOJ r nb box tok nt) (fun i=>i<=2/\(1<=i->r.plainL)/\(2<=i->r.plainR)) (fun i=>2-i) 0 ⟨by omega,by omega,by omega⟩ wkA ?_;rintro i S ⟨hi,hpl,hpr⟩ hS;simp only[aOJ] at hS;subst hS;obtain rfl|rfl|rfl:i=0∨i=1∨i=2:=by omega
      .have hw:IntKind.i64.wrap 1=1:=rfl
       repeat (first|simp|refine sR ?_)
       refine sC ?_
       repeat (first|simp|refine sR ?_)
       by_cases s2:r.lv=0
       .have b2:(r.lv != 0)=false:=by simp[s2]
        by_cases s1:(0:Int)<(r.lsl.length:Int)+r.lte.length
        .have hne:¬r.plainL:=fun h=>by have:=h.1;omega
         try (simp[w1,s1,b2])
         repeat ((first|refine sR ?_|refine sC ?_|refine sX ?_);simp[w1,s1,b2])
         refine sT (sH Hb Ht ?_);simp[cN,e1,e2,e3,e4,e5,hne]
        .have hyes:r.plainL:=⟨by omega,s2⟩
         try (simp[w1,s1,b2,hw])
         repeat ((first|refine sR ?_|refine sC ?_|refine sX ?_);simp[w1,s1,b2,hw])
         refine sE ?_;exact⟨1,⟨by omega,fun _=>hyes,by omega⟩,by omega,wkA⟩
       .have hne:¬r.plainL:=fun h=>s2 h.2
        have b2:(r.lv != 0)=true:=by simp[s2]
        try (simp[b2])
        repeat ((first|refine sR ?_|refine sC ?_|refine sX ?_);simp[b2])
        refine sT (sH Hb Ht ?_);simp[cN,e1,e2,e3,e4,e5,hne]
      .have hw:IntKind.i64.wrap 2=2:=rfl
       have hl:=hpl (by omega);repeat (first|simp|refine sR ?_)
       refine sC ?_
       repeat (first|simp|refine sR ?_)
       by_cases s2:r.rv=0
       .have b2:(r.rv != 0)=false:=by simp[s2]
        by_cases s1:(0:Int)<(r.rsl.length:Int)+r.rte.length
        .have hne:¬r.plainR:=fun h=>by have:=h.1;omega
         try (simp[w2,s1,b2])
         repeat ((first|refine sR ?_|refine sC ?_|refine sX ?_);simp[w2,s1,b2])
         refine sT (sH Hb Ht ?_);simp[cN,e1,e2,e3,e4,e5,hne]
        .have hyes:r.plainR:=⟨by omega,s2⟩
         try (simp[w2,s1,b2,hw])
         repeat ((first|refine sR ?_|refine sC ?_|refine sX ?_);simp[w2,s1,b2,hw])
         refine sE ?_;exact⟨2,⟨by omega,fun _=>hl,fun _=>hyes⟩,by omega,wkA⟩
       .have hne:¬r.plainR:=fun h=>s2 h.2
        have b2:(r.rv != 0)=true:=by simp[s2]
        try (simp[b2])
        repeat ((first|refine sR ?_|refine sC ?_|refine sX ?_);simp[b2])
        refine sT (sH Hb Ht ?_);simp[cN,e1,e2,e3,e4,e5,hne]
      .have hl:=hpl (by omega);have hr2:=hpr (by omega);repeat first|simp|refine sR ?_|refine sC ?_
       refine sX ?_;simp only[AU,↓reduceIte];repeat first|simp|refine sR ?_
       cases hin:r.inj
       .refine sC ?_;repeat first|simp|refine sR ?_
        refine sT (sH Hb Ht ?_);simp[cN,e1,e2,e3,e4,e5,hl,hr2,hin]
       .refine sC ?_;repeat first|simp|refine sR ?_
        refine sT (sH Hb Ht ?_);simp[cN,e1,e2,e3,e4,e5,hl,hr2,hin]
    .have b4:(aG (exG r.lg r.k) r.rg r.i != 0)=true:=by simp[e4]
     simp only[b4];refine sC ?_;repeat first|simp|refine sR ?_
     refine sT (sH Hb Ht ?_);simp[cN,e1,e2,e3,e4]
   .have b3:(cR r.lg r.k != 0)=true:=by simp[e3]
    refine sD (h3 e3 _ _) ?_;repeat first|simp|refine sR ?_
    simp only[b3];refine sC ?_;repeat first|simp|refine sR ?_
    refine sT (sH Hb Ht ?_);simp[cN,e1,e2,e3]
  .have b2:(vG r.rg != 0)=true:=by simp[e2]
   simp only[b2];refine sC ?_;repeat first|simp|refine sR ?_
   refine sT (sH Hb Ht ?_);simp[cN,e1,e2]
 .have b1:(vG r.lg != 0)=true:=by simp[e1]
  simp only[b1];refine sC ?_;repeat first|simp|refine sR ?_
  refine sT (sH Hb Ht ?_);simp[cN,e1]
def pD(l r into:List Int)(i:Nat):Bool:=if decide ((i:Int)∈into)=true then false else decide (l.getD i 0∈r)
def dZ(l r into:List Int):Bool:=bB (pD l r into) (List.range l.length)
theorem aCR{l r into:List Int}(h:∀j,j<l.length->pD l r into j=false):dZ l r into=false:=by
 unfold dZ bB;rw[List.any_eq_false];intro x hx;rw[h x (List.mem_range.1 hx)];simp
theorem aAJ{l r into:List Int}{i:Nat}(hi:i<l.length)(h:pD l r into i=true):dZ l r into=true:=by
 unfold dZ bB;rw[List.any_eq_true];exact⟨i,List.mem_range.2 hi,h⟩
def qD(r:Ru)(o:Ov):Bool:=if dZ o.l.nodes o.r.nodes r.i.nodes=true then true else dZ o.l.edges o.r.edges r.i.edges
def rM(t:Ty)(r:Ru)(c:Co):Int:=if tyE t≠0 then tyE t else if cN r≠0 then cN r else if dB t r.lg=true then (if dB t r.rg=true then cnE t c else 13) else 13
def cF(t:Ty)(r:Ru)(c:Co):List Ov × Int :=
 if rM t r c≠0 then ([],rM t r c) else if c.kind=1 then (if (oR r.rg c.g).2≠0 then ([],(oR r.rg c.g).2) else ((oR r.rg c.g).1.filter (qD r),0)) else ([],8)
theorem aD7(g:Gr)(hg:g.Fit):DC 166 [g.av] (B (oM g)):=by
 intro tok nt box nb;have hn:=hg.n;have he:=hg.e;obtain⟨N,hN⟩:∃N,oM g=N:=⟨_,rfl⟩
 rw[hN];unfold oM at hN;by_cases e1:6<g.nodes.length
 .have e1':(6:Int)<g.nodes.length:=by omega
  rw[if_pos e1] at hN;refine sI func166 ntmps166 fun Hb Ht=>?_
  try (simp[e1,e1'])
  repeat ((first|refine sR ?_|refine sC ?_|refine sX ?_);simp[e1,e1'])
  refine sT (sH Hb Ht ?_);simp[<-hN]
 .have e1':¬(6:Int)<g.nodes.length:=by omega
  rw[if_neg e1] at hN;by_cases e2:8<g.edges.length
  .have e2':(8:Int)<g.edges.length:=by omega
   rw[decide_eq_true e2] at hN;refine sI func166 ntmps166 fun Hb Ht=>?_
   try (simp[e1,e1',e2,e2'])
   repeat ((first|refine sR ?_|refine sC ?_|refine sX ?_);simp[e1,e1',e2,e2'])
   refine sT (sH Hb Ht ?_);simp[<-hN,e2']
  .have e2':¬(8:Int)<g.edges.length:=by omega
   rw[decide_eq_false e2] at hN;refine sI func166 ntmps166 fun Hb Ht=>?_
   try (simp[e1,e1',e2,e2'])
   repeat ((first|refine sR ?_|refine sC ?_|refine sX ?_);simp[e1,e1',e2,e2'])
   refine sT (sH Hb Ht ?_);simp[<-hN,e2']
def aJL(c:Co)(nb:Nat)(box:Bxs)(tok:Tks)(nt:Nat)(i:Nat):AS :=
 ⟨tl [(4,I i),(1,.ptr (nb+1) 0 0)],lb nb box [(1,[c.row])],tok,nt⟩
theorem aHp(c:Co)(hc:c.Fit):DC 108 [c.av] (I (lA c)):=by
 intro tok nt box nb;have h1:=iM c.name hc.name;have h2:=dR c.g hc.g;have h3:=aD7 c.g hc.g;have hxn:=hc.n;obtain⟨N,hN⟩:∃N,lA c=N:=⟨_,rfl⟩
 rw[hN];unfold lA at hN;generalize cM c.name=B1 at *;generalize vG c.g=E2 at *;generalize oM c.g=B3 at *;cases B1
 .rw[if_pos rfl] at hN;refine sI func108 ntmps108 fun Hb Ht=>?_
  repeat first|simp|refine sR ?_
  refine sD (h1 _ _) ?_;simp;try (simp)
  repeat ((first|refine sR ?_|refine sC ?_|refine sX ?_);simp)
  refine sT (sH Hb Ht ?_);simp[<-hN]
 .rw[if_neg (by simp)] at hN;have xp:=fun (h:c.exts≠[])=>List.length_pos_iff.2 h
  rcases aCX c with ⟨k1,x1,kd⟩|⟨k1,x1,kd⟩|⟨k1,x1,kd⟩|⟨k1,x1,x2,kd⟩|⟨k1,x1,x2,kd⟩|⟨k1,k2,kd⟩
  .rw[if_neg (by rw[kd];decide)] at hN;refine sI func108 ntmps108 fun Hb Ht=>?_
   repeat first|simp|refine sR ?_
   refine sD (h1 _ _) ?_;simp;try (simp[k1,x1])
   repeat ((first|refine sR ?_|refine sC ?_|refine sX ?_);simp[k1,x1])
   refine sD (h2 _ _) ?_;repeat first|simp|refine sR ?_
   by_cases v0:E2=0
   .rw[if_neg (by simp[v0])] at hN;refine sC ?_;simp[v0];repeat first|simp|refine sR ?_
    refine sD (h3 _ _) ?_;simp;cases B3
    .rw[if_neg (by simp)] at hN;repeat first|simp|refine sR ?_
     refine sC ?_;repeat first|simp|refine sR ?_
     refine sN ?_;refine sL (aJL c nb box tok nt) (fun i=>i<=c.exts.length/\aA (dW c) i=0) (fun i=>c.exts.length-i) 0 ⟨Nat.zero_le _,rfl⟩ wkA ?_;rintro i S' ⟨hi,hok⟩ hS;simp only[aJL] at hS;subst hS;have hw:=sW (i:=i) (by omega);repeat first|simp|refine sR ?_|refine sC ?_
     refine⟨fun hlt=>?_,fun hge=>?_⟩
     .have hx:=hc.exts _ (List.getElem_mem hlt);have hR:dW c i≠0->aA (dW c) c.exts.length=dW c i:=fun h0=>aL hok h0 _ hlt
      have hnx:dW c i=0->aA (dW c) (i+1)=0:=fun h0=>by simp only[aA,hok,h0,↓reduceIte]
      have hd:dW c i=xtE c.g c.exts[i]:=pY hlt
      unfold xtE at hd;have c1:=jX c.g c.exts[i].g c.exts[i].m hc.g hx.g;have c2:=aD7 c.exts[i].g hx.g;have c3:=jS c.g c.exts[i].g c.exts[i].m hc.g hx.g hx.m;generalize dW c i=E at *;repeat first|simp[hlt]|refine sR ?_
      refine sD (c1 _ _) ?_;repeat first|simp|refine sR ?_
      by_cases f1:aG c.g c.exts[i].g c.exts[i].m=0
      .rw[if_neg (by simp[f1])] at hd;simp only[f1];refine sC ?_;repeat first|simp|refine sR ?_
       refine sD (c2 _ _) ?_;simp;cases f2:oM c.exts[i].g
       .rw[f2,if_neg (by simp)] at hd;repeat first|simp|refine sR ?_
        refine sC ?_;repeat first|simp|refine sR ?_
        refine sD (c3 _ _) ?_;simp;cases f3:fV c.g c.exts[i].g c.exts[i].m
        .rw[f3,if_neg (by simp)] at hd;rw[hR (by rw[hd];decide),hd] at hN;repeat first|simp|refine sR ?_
         refine sC ?_;repeat first|simp|refine sR ?_
         refine sT (sH Hb Ht ?_);simp[<-hN]
        .rw[f3,if_pos rfl] at hd;repeat first|simp[hw]|refine sR ?_|refine sC ?_
         refine sE ?_;exact⟨i+1,⟨hlt,hnx hd⟩,by omega,wkA⟩
       .rw[f2,if_pos rfl] at hd;rw[hR (by rw[hd];decide),hd] at hN;repeat first|simp|refine sR ?_
        refine sC ?_;repeat first|simp|refine sR ?_
        refine sT (sH Hb Ht ?_);simp[<-hN]
      .rw[if_pos f1] at hd;have b1:(aG c.g c.exts[i].g c.exts[i].m != 0)=true:=by simp[f1]
       rw[hR (by rw[hd];exact f1),hd] at hN;simp only[b1];refine sC ?_;repeat first|simp|refine sR ?_
       refine sT (sH Hb Ht ?_);simp[<-hN]
     .refine sX ?_;simp only[AU,↓reduceIte];have:i=c.exts.length:=by omega
      subst this;rw[hok] at hN;repeat first|simp|refine sR ?_
      refine sT (sH Hb Ht ?_);simp[<-hN]
    .rw[if_pos rfl] at hN;repeat first|simp|refine sR ?_
     refine sC ?_;repeat first|simp|refine sR ?_
     refine sT (sH Hb Ht ?_);simp[<-hN]
   .have b0:(E2 != 0)=true:=by simp[v0]
    rw[if_pos v0] at hN;refine sC ?_;simp[v0,b0];repeat first|simp|refine sR ?_
    refine sT (sH Hb Ht ?_);simp[<-hN]
  .rw[if_pos (by rw[kd];decide),kd] at hN;have x1':=xp x1
   refine sI func108 ntmps108 fun Hb Ht=>?_
   repeat first|simp|refine sR ?_
   refine sD (h1 _ _) ?_;simp;try (simp[k1,x1,x1'])
   repeat ((first|refine sR ?_|refine sC ?_|refine sX ?_);simp[k1,x1,x1'])
   refine sT (sH Hb Ht ?_);simp[<-hN]
  .rw[if_pos (by rw[kd];decide),kd] at hN;refine sI func108 ntmps108 fun Hb Ht=>?_
   repeat first|simp|refine sR ?_
   refine sD (h1 _ _) ?_;simp;try (simp[k1,x1])
   repeat ((first|refine sR ?_|refine sC ?_|refine sX ?_);simp[k1,x1])
   refine sT (sH Hb Ht ?_);simp[<-hN]
  .rw[if_pos (by rw[kd];decide),kd] at hN;have x2':(6:Int)<c.exts.length:=by omega
   refine sI func108 ntmps108 fun Hb Ht=>?_
   repeat first|simp|refine sR ?_
   refine sD (h1 _ _) ?_;simp;try (simp[k1,x1,x2,x2'])
   repeat ((first|refine sR ?_|refine sC ?_|refine sX ?_);simp[k1,x1,x2,x2'])
   refine sT (sH Hb Ht ?_);simp[<-hN]
  .rw[if_neg (by rw[kd];decide)] at hN;have x2':¬(6:Int)<c.exts.length:=by omega
   refine sI func108 ntmps108 fun Hb Ht=>?_
   repeat first|simp|refine sR ?_
   refine sD (h1 _ _) ?_;simp;try (simp[k1,x1,x2,x2'])
   repeat ((first|refine sR ?_|refine sC ?_|refine sX ?_);simp[k1,x1,x2,x2'])
   refine sD (h2 _ _) ?_;repeat first|simp|refine sR ?_
   by_cases v0:E2=0
   .rw[if_neg (by simp[v0])] at hN;refine sC ?_;simp[v0];repeat first|simp|refine sR ?_
    refine sD (h3 _ _) ?_;simp;cases B3
    .rw[if_neg (by simp)] at hN;repeat first|simp|refine sR ?_
     refine sC ?_;repeat first|simp|refine sR ?_
     refine sN ?_;refine sL (aJL c nb box tok nt) (fun i=>i<=c.exts.length/\aA (dW c) i=0) (fun i=>c.exts.length-i) 0 ⟨Nat.zero_le _,rfl⟩ wkA ?_;rintro i S' ⟨hi,hok⟩ hS;simp only[aJL] at hS;subst hS;have hw:=sW (i:=i) (by omega);repeat first|simp|refine sR ?_|refine sC ?_
     refine⟨fun hlt=>?_,fun hge=>?_⟩
     .have hx:=hc.exts _ (List.getElem_mem hlt);have hR:dW c i≠0->aA (dW c) c.exts.length=dW c i:=fun h0=>aL hok h0 _ hlt
      have hnx:dW c i=0->aA (dW c) (i+1)=0:=fun h0=>by simp only[aA,hok,h0,↓reduceIte]
      have hd:dW c i=xtE c.g c.exts[i]:=pY hlt
      unfold xtE at hd;have c1:=jX c.g c.exts[i].g c.exts[i].m hc.g hx.g;have c2:=aD7 c.exts[i].g hx.g;have c3:=jS c.g c.exts[i].g c.exts[i].m hc.g hx.g hx.m;generalize dW c i=E at *;repeat first|simp[hlt]|refine sR ?_
      refine sD (c1 _ _) ?_;repeat first|simp|refine sR ?_
      by_cases f1:aG c.g c.exts[i].g c.exts[i].m=0
      .rw[if_neg (by simp[f1])] at hd;simp only[f1];refine sC ?_;repeat first|simp|refine sR ?_
       refine sD (c2 _ _) ?_;simp;cases f2:oM c.exts[i].g
       .rw[f2,if_neg (by simp)] at hd;repeat first|simp|refine sR ?_
        refine sC ?_;repeat first|simp|refine sR ?_
        refine sD (c3 _ _) ?_;simp;cases f3:fV c.g c.exts[i].g c.exts[i].m
        .rw[f3,if_neg (by simp)] at hd;rw[hR (by rw[hd];decide),hd] at hN;repeat first|simp|refine sR ?_
         refine sC ?_;repeat first|simp|refine sR ?_
         refine sT (sH Hb Ht ?_);simp[<-hN]
        .rw[f3,if_pos rfl] at hd;repeat first|simp[hw]|refine sR ?_|refine sC ?_
         refine sE ?_;exact⟨i+1,⟨hlt,hnx hd⟩,by omega,wkA⟩
       .rw[f2,if_pos rfl] at hd;rw[hR (by rw[hd];decide),hd] at hN;repeat first|simp|refine sR ?_
        refine sC ?_;repeat first|simp|refine sR ?_
        refine sT (sH Hb Ht ?_);simp[<-hN]
      .rw[if_pos f1] at hd;have b1:(aG c.g c.exts[i].g c.exts[i].m != 0)=true:=by simp[f1]
       rw[hR (by rw[hd];exact f1),hd] at hN;simp only[b1];refine sC ?_;repeat first|simp|refine sR ?_
       refine sT (sH Hb Ht ?_);simp[<-hN]
     .refine sX ?_;simp only[AU,↓reduceIte];have:i=c.exts.length:=by omega
      subst this;rw[hok] at hN;repeat first|simp|refine sR ?_
      refine sT (sH Hb Ht ?_);simp[<-hN]
    .rw[if_pos rfl] at hN;repeat first|simp|refine sR ?_
     refine sC ?_;repeat first|simp|refine sR ?_
     refine sT (sH Hb Ht ?_);simp[<-hN]
   .have b0:(E2 != 0)=true:=by simp[v0]
    rw[if_pos v0] at hN;refine sC ?_;simp[v0,b0];repeat first|simp|refine sR ?_
    refine sT (sH Hb Ht ?_);simp[<-hN]
  .rw[if_pos (by rw[kd];decide),kd] at hN;have b1:(c.kind==1)=false:=by simp[k1]
   have b2:(c.kind==2)=false:=by simp[k2]
   have b3:(c.kind != 1)=true:=by simp[k1]
   have b4:(c.kind != 2)=true:=by simp[k2]
   refine sI func108 ntmps108 fun Hb Ht=>?_
   repeat first|simp|refine sR ?_
   refine sD (h1 _ _) ?_;simp;try (simp[k1,k2,b1,b2,b3,b4])
   repeat ((first|refine sR ?_|refine sC ?_|refine sX ?_);simp[k1,k2,b1,b2,b3,b4])
   refine sT (sH Hb Ht ?_);simp[<-hN]
def aN2(t:Ty)(c:Co)(nb:Nat)(box:Bxs)(tok:Tks)(nt:Nat)(i:Nat):AS :=
 ⟨tl [(8,I i),(3,.ptr (nb+3) 0 0),(2,.ptr (nb+2) 0 0)],lb nb box [(3,[c.row]),(2,[[.d (nts t.nodes),.d (ets t.edges)]])],tok,nt⟩
theorem aCS(t:Ty)(ht:t.Fit)(c:Co)(hc:c.Fit):DC 79 [t.av,c.av] (I (cnE t c)):=by
 intro tok nt box nb;have h1:=kD t ht ht.hM;have h2:=aHp c hc;have hxn:=hc.n;have hv:=@rR c;obtain⟨N,hN⟩:∃N,cnE t c=N:=⟨_,rfl⟩
 rw[hN];unfold cnE at hN;generalize tyE t=E at *;generalize tyN t=Z at *;generalize lA c=S at *;refine sI func79 ntmps79 fun Hb Ht=>?_
 repeat first|simp|refine sR ?_
 refine sD (h1 _ _) ?_;repeat first|simp|refine sR ?_
 by_cases e1:E=0
 .rw[if_neg (by simp[e1])] at hN;refine sC ?_;simp[e1];repeat first|simp|refine sR ?_
  refine sD (h2 _ _) ?_;repeat first|simp|refine sR ?_
  by_cases e2:S=0
  .rw[if_neg (by simp[e2])] at hN;obtain⟨_,_,v1,_,v2⟩:=hv e2;have l1:=nU t ht c.g hc.g (aE v1);have l2:=fun x (hx:x∈c.exts)=>nU t ht x.g (hc.exts x hx).g (aE (kL (v2 x hx).1).vb)
   unfold lvX at hN;refine sC ?_;simp[e2];repeat first|simp|refine sR ?_
   refine sD (l1 _ _) ?_;simp;cases e3:dB t c.g
   .rw[e3,if_neg (by simp)] at hN;repeat first|simp|refine sR ?_
    refine sC ?_;repeat first|simp|refine sR ?_
    refine sT (sH Hb Ht ?_);simp[<-hN]
   .rw[e3,if_pos rfl] at hN;repeat first|simp|refine sR ?_
    refine sC ?_;repeat first|simp|refine sR ?_
    refine sN ?_;refine sL (aN2 t c nb box tok nt) (fun i=>i<=c.exts.length/\cI (fun x:Xt=>dB t x.g) (c.exts.take i)=true) (fun i=>c.exts.length-i) 0 ⟨Nat.zero_le _,by simp[cI]⟩ wkA ?_;rintro i S' ⟨hi,hok⟩ hS;simp only[aN2] at hS;subst hS;have hw:=sW (i:=i) (by omega);repeat first|simp|refine sR ?_|refine sC ?_
    refine⟨fun hlt=>?_,fun hge=>?_⟩
    .have hno:=fun h=>fP (p:=fun x:Xt=>dB t x.g) hlt h
     have hyes:=fun h=>cY (p:=fun x:Xt=>dB t x.g) hlt hok h
     have hcx:=l2 _ (List.getElem_mem hlt);repeat first|simp[hlt]|refine sR ?_
     refine sD (hcx _ _) ?_;simp;cases e4:dB t c.exts[i].g
     .rw[hno e4,if_neg (by simp)] at hN;repeat first|simp|refine sR ?_
      refine sC ?_;repeat first|simp|refine sR ?_
      refine sT (sH Hb Ht ?_);simp[<-hN]
     .repeat first|simp[hw]|refine sR ?_|refine sC ?_
      refine sE ?_;exact⟨i+1,⟨hlt,hyes e4⟩,by omega,wkA⟩
    .refine sX ?_;simp only[AU,↓reduceIte];have:i=c.exts.length:=by omega
     subst this;rw[List.take_length] at hok;rw[hok,if_pos rfl] at hN;repeat first|simp|refine sR ?_
     refine sT (sH Hb Ht ?_);simp[<-hN]
  .rw[if_pos e2] at hN;have b2:(S != 0)=true:=by simp[e2]
   refine sC ?_;simp[b2];repeat first|simp|refine sR ?_
   refine sT (sH Hb Ht ?_);simp[<-hN]
 .rw[if_pos e1] at hN;have b1:(E != 0)=true:=by simp[e1]
  refine sC ?_;simp[b1];repeat first|simp|refine sR ?_
  refine sT (sH Hb Ht ?_);simp[<-hN]
def yI(t:Ty)(a:Int):List Int × Int:=if oS t [a]≠0 then ([],oS t [a]) else (gO t a t.nodes.length,0)
theorem zL{t:Ty}(h:tyE t=0){a:Int}(h0:0<=a):oS t [a]=if (t.nodes.length:Int)<=a then 6 else 0:=by
 unfold oS;rw[if_pos h];by_cases h1:(t.nodes.length:Int)<=a
 .have:¬a<t.nodes.length:=by omega
  simp[bB,fQ,h1,this]
 .have:a<t.nodes.length:=by omega
  simp[bB,fQ,h1,this,h0]
def aPT(t:Ty)(a:Int)(nb:Nat)(box:Bxs)(x:Acc):AS :=
 ⟨tl [(19,I x.i),(18,I t.nodes.length),(7,.osl 1 (rI (gO t a x.i)) x.own),(1,I a),(2,.ptr (nb+2) 0 0)],lb nb box [(2,[[.d (nts t.nodes),.d (ets t.edges)]])],x.tok,x.nt⟩
theorem aFk(t:Ty)(ht:t.Fit)(a:Int):DC 254 [t.av,I a] (.tup [.d (ints (yI t a).1),I (yI t a).2]):=by
 intro tok nt box nb;have htn:=ht.n;have h1:=aFJ t ht [a] (by simp);have hin:=@aAM t [a];obtain⟨N,hN⟩:∃N,yI t a=N:=⟨_,rfl⟩
 rw[hN];unfold yI at hN;generalize oS t [a]=E at *;refine sI func254 ntmps254 fun Hb Ht=>?_
 repeat first|simp|refine sR ?_
 refine aN.data ?_;refine sD (h1 _ _) ?_;repeat first|simp|refine sR ?_
 by_cases e1:E=0
 .rw[if_neg (by simp[e1])] at hN;have hp:=jH (hin e1).1;refine sC ?_;simp[e1];repeat first|simp|refine sR ?_
  refine sN ?_;refine sL (aPT t a nb box) (fun x=>x.i<=t.nodes.length/\TK tok nt x.tok x.nt [x.own]) (fun x=>t.nodes.length-x.i) ⟨0,.full,tok,nt⟩ ⟨Nat.zero_le _,(TK.start Ht).full⟩ (wM (nr0 _) rfl (by simp[ToL,lk,aGW]) (by simp[aC,lk])) ?_;rintro⟨i,own,tok',nt'⟩ S ⟨hi,htk⟩ hS;simp only[aPT] at hS hi htk;subst hS;have hw:=sW (i:=i) (by omega);have hlen:=aCt t a i;have hsc:=aGA t a i;repeat first|simp|refine sR ?_|refine sC ?_
  refine⟨fun hlt=>?_,fun hge=>?_⟩
  .have hc:=aMC t ht i a (by omega) (by omega) hp;generalize gO t a i=L at *;repeat first|simp[hlt]|refine sR ?_
   refine sD (hc _ _) ?_;simp;cases e2:isB t i a
   .rw[e2,if_neg (by simp)] at hsc;repeat first|simp[hw]|refine sR ?_|refine sC ?_
    refine sE ?_;exact⟨⟨i+1,own,tok',nt'⟩,⟨hlt,htk⟩,by simp only;omega,wM htk.le rfl (by simp[ToL,lk,hsc]) (by simp[aC,lk])⟩
   .rw[e2,if_pos rfl] at hsc;repeat first|simp|refine sR ?_
    refine sC ?_;repeat first|simp|refine sR ?_
    refine⟨⟨by omega,htk.live⟩,?_⟩;repeat first|simp[hw]|refine sR ?_
    refine sE ?_;exact⟨⟨i+1,_,_,_⟩,⟨hlt,htk.app⟩,by simp only;omega,wM htk.app.le rfl (by simp[ToL,lk,hsc]) (by simp[aC,lk])⟩
  .refine sX ?_;simp only[AU,↓reduceIte];have:i=t.nodes.length:=by omega
   subst this;repeat first|simp|refine sR ?_
   refine sT (sG Hb Ht htk.old htk.le ?_);simp[<-hN]
 .rw[if_pos e1] at hN;have b1:(E != 0)=true:=by simp[e1]
  refine sC ?_;simp[b1];repeat first|simp|refine sR ?_
  refine sT (sH Hb Ht ?_);simp[<-hN,ints]
theorem aED(t:Ty)(ht:t.Fit)(g:Gr)(e:E)(h0:0<=e.fr/\e.fr<g.nodes.length)(h2:0<=e.to/\e.to<g.nodes.length)(box:Bxs)(nb k1 k2:Nat)(tok:Tks)(nt:Nat)(h1:box k1=some [[.d (nts t.nodes),.d (ets t.edges)]])(h3:box k2=some [[.d (ints g.nodes),.d (AM.edges g.edges)]]):
  aD prog 262 [.agg [I e.ty,I e.fr,I e.to],.ptr k1 0 0,.ptr k2 0 0] ⟨box,nb,tok,nt⟩ fun v m=>v=B (!lvE t g e)/\m=⟨box,nb,tok,nt⟩:=by
 obtain⟨ty,fr,to'⟩:=e;simp only at h0 h2;obtain⟨a,rfl⟩:=Int.eq_ofNat_of_zero_le h0.1;obtain⟨b,rfl⟩:=Int.eq_ofNat_of_zero_le h2.1;have ha:a<g.nodes.length:=by omega
 have hb:b<g.nodes.length:=by omega
 have hc:=aEK t ht ty g.nodes[a] g.nodes[b];have hL:lvE t g ⟨ty,a,b⟩=oL t ty g.nodes[a] g.nodes[b]:=by simp[lvE,ha,hb]
 rw[hL];generalize oL t ty g.nodes[a] g.nodes[b]=R at *;refine sI func262 ntmps262 fun Hb Ht=>?_
 have k1n:=bC Hb h1;have k2n:=bC Hb h3;repeat first|simp[lO k1n,lO k2n,h1,h3,ha,hb]|refine sR ?_
 refine sD (hc _ _) ?_;repeat first|simp|refine sR ?_
 refine sT (sH Hb Ht ?_);simp
def aNT(t:Ty)(g:Gr)(nb:Nat)(box:Bxs)(tok:Tks)(nt:Nat)(i:Nat):AS :=
 ⟨tl [(12,I i),(11,I g.nodes.length),(10,.d (ints g.nodes)),(3,.ptr (nb+3) 0 0),(2,.ptr (nb+2) 0 0)],lb nb box [(3,[[.d (ints g.nodes),.d (AM.edges g.edges)]]),(2,[[.d (nts t.nodes),.d (ets t.edges)]])],tok,nt⟩
theorem aAC(t:Ty)(ht:t.Fit)(g:Gr)(hg:g.Fit)(htE:tyE t=0)(h0:∀n∈g.nodes,0<=n)(hv:∀e∈g.edges,0<=e.fr/\e.fr<g.nodes.length/\0<=e.to/\e.to<g.nodes.length):DC 202 [t.av,g.av] (B (dB t g)):=by
 intro tok nt box nb;have hgn:=hg.n;have hge:=hg.e;have htn:=ht.n;obtain⟨N,hN⟩:∃N,dB t g=N:=⟨_,rfl⟩
 rw[hN];unfold dB at hN;refine sI func202 ntmps202 fun Hb Ht=>?_
 repeat first|simp|refine sR ?_
 refine sN ?_;refine sL (aNT t g nb box tok nt) (fun i=>i<=g.nodes.length/\cI (lvN t) (g.nodes.take i)=true) (fun i=>g.nodes.length-i) 0 ⟨Nat.zero_le _,by simp[cI]⟩ wkA ?_;rintro i S' ⟨hi,hok⟩ hS;simp only[aNT] at hS;subst hS;have hw:=sW (i:=i) (by omega);repeat first|simp|refine sR ?_|refine sC ?_
 refine⟨fun hlt=>?_,fun hge=>?_⟩
 .have hno:=fun h=>fP (p:=lvN t) hlt h
  have hyes:=fun h=>cY (p:=lvN t) hlt hok h
  have hl:lvN t g.nodes[i]=if (t.nodes.length:Int)<=g.nodes[i] then false else eE t g.nodes[i]:=rfl
  have hc:=aFk t ht g.nodes[i];have hn0:=h0 _ (List.getElem_mem hlt);have hbl:=fun (e1:¬(t.nodes.length:Int)<=g.nodes[i])=>aEH hn0 (by omega) (jH htE)
  have hgv:=zL (t:=t) htE hn0;by_cases e1:(t.nodes.length:Int)<=g.nodes[i]
  .rw[if_pos e1] at hl;rw[hno hl,if_neg (by simp)] at hN;have hR:yI t g.nodes[i]=([],6):=by rw[yI,if_pos (by rw[hgv,if_pos e1];decide),hgv,if_pos e1]
   rw[hR] at hc;repeat first|simp[hlt]|refine sR ?_
   refine sD (hc _ _) ?_;repeat first|simp|refine sR ?_
   refine sC ?_;repeat first|simp|refine sR ?_
   refine sT (sH Hb Ht ?_);simp[<-hN]
  .rw[if_neg e1] at hl;have hbl:=hbl e1;have hR:yI t g.nodes[i]=(gO t g.nodes[i] t.nodes.length,0):=by rw[yI,if_neg (by rw[hgv,if_neg e1];simp)]
   rw[hR] at hc;simp only at hc;generalize gO t g.nodes[i] t.nodes.length=L at *;repeat first|simp[hlt]|refine sR ?_
   refine sD (hc _ _) ?_;repeat first|simp|refine sR ?_
   cases e2:eE t g.nodes[i]
   .rw[e2] at hl hbl;have e3:(1:Int)<L.length:=by
     have:¬L.length<=1:=fun h=>by simpa using hbl.1 h
     omega
    have e3':1<L.length:=by omega
    rw[hno hl,if_neg (by simp)] at hN;try (simp[e3,e3'])
    repeat ((first|refine sR ?_|refine sC ?_|refine sX ?_);simp[e3,e3'])
    refine sT (sH Hb Ht ?_);simp[<-hN]
   .rw[e2] at hl hbl;have e3:¬(1:Int)<L.length:=by
     have:=hbl.2 rfl
     omega
    have e3':¬1<L.length:=by omega
    try (simp[e3,e3',hw])
    repeat ((first|refine sR ?_|refine sC ?_|refine sX ?_);simp[e3,e3',hw])
    refine sE ?_;exact⟨i+1,⟨hlt,hyes hl⟩,by omega,wkA⟩
 .refine sX ?_;simp only[AU,↓reduceIte];have:i=g.nodes.length:=by omega
  subst this;rw[List.take_length] at hok;rw[if_pos hok] at hN;obtain⟨p,hpp⟩:∃p:E->Bool,(fun e=>!lvE t g e)=p:=⟨_,rfl⟩
  have h2:=fun y (hy:y∈g.edges) box nb k1 k2 hk1 hk2=>aED t ht g y ⟨(hv y hy).1,(hv y hy).2.1⟩ ⟨(hv y hy).2.2.1,(hv y hy).2.2.2⟩ box nb k1 k2 tok nt hk1 hk2
  have hpy:∀y:E,(!lvE t g y)=p y:=fun y=>by rw[<-hpp]
  simp only[hpy] at h2;have hN2:(!bB p g.edges)=N:=by
   rw[<-hN,<-hpp,cI,bB,List.any_eq_not_all_not,Bool.not_not];simp
  repeat first|simp|refine sR ?_
  have hcap:∀c∈[AV.ptr (nb+2) 0 0,AV.ptr (nb+3) 0 0],bF (fun k=>(lb nb box [(3,[[.d (ints g.nodes),.d (AM.edges g.edges)]]),(2,[[.d (nts t.nodes),.d (ets t.edges)]])]) k≠none) (fun _=>True) c:=by
   intro c hc;simp only[List.mem_cons,List.not_mem_nil,or_false] at hc;rcases hc with h|h
   .rw[h];simp[aQ]
   .rw[h];simp[aQ]
  refine aN.of_b (eR g.edges 262 [.ptr (nb+2) 0 0,.ptr (nb+3) 0 0] p hg.e _ _ _ _ hcap (fun y hy box' nb' he=>h2 y hy box' nb' _ _ (he _ _ (by simp[aQ])) (he _ _ (by simp[aQ])))) ?_;repeat first|simp|refine sR ?_
  refine sT (sH Hb Ht ?_);simp[<-hN2]
theorem aAm{g:Gr}(h:vG g=0):∀n∈g.nodes,0<=n:=by
 intro n hn;unfold vG at h;split at h
 .cases h
 .split at h
  .cases h
  .rename_i h1 h2;have:=List.any_eq_false.1 (Bool.not_eq_true _ ▸ h2) n hn
   simp[bA] at this;omega
theorem aH2(t:Ty)(ht:t.Fit)(r:Ru)(hr:r.Fit)(c:Co)(hc:c.Fit):DC 136 [t.av,r.av,c.av] (I (rM t r c)):=by
 intro tok nt box nb;have h1:=nC t ht ht.hM;have h2:=vV r hr;have h3:=aBW t ht c hc;have hv:=@wI r;have l1:=fun htE (h:vG r.lg=0)=>aAC t ht r.lg hr.lg htE (aAm h) (aE h)
 have l2:=fun htE (h:vG r.rg=0)=>aAC t ht r.rg hr.rg htE (aAm h) (aE h)
 obtain⟨N,hN⟩:∃N,rM t r c=N:=⟨_,rfl⟩
 rw[hN];unfold rM at hN;generalize tyE t=E at *;generalize tyN t=Z at *;generalize cN r=S at *;refine sI func136 ntmps136 fun Hb Ht=>?_
 repeat first|simp|refine sR ?_
 refine sD (h1 _ _) ?_;repeat first|simp|refine sR ?_
 by_cases e1:E=0
 .rw[if_neg (by simp[e1])] at hN;refine sC ?_;simp[e1];repeat first|simp|refine sR ?_
  refine sD (h2 _ _) ?_;repeat first|simp|refine sR ?_
  by_cases e2:S=0
  .rw[if_neg (by simp[e2])] at hN;obtain⟨v1,v2⟩:=hv e2;refine sC ?_;simp[e2];repeat first|simp|refine sR ?_
   refine sD (l1 e1 v1 _ _) ?_;simp;cases e3:dB t r.lg
   .rw[e3,if_neg (by simp)] at hN;repeat first|simp|refine sR ?_
    refine sC ?_;repeat first|simp|refine sR ?_
    refine sT (sH Hb Ht ?_);simp[<-hN]
   .rw[e3,if_pos rfl] at hN;repeat first|simp|refine sR ?_
    refine sD (l2 e1 v2 _ _) ?_;simp;cases e4:dB t r.rg
    .rw[e4,if_neg (by simp)] at hN;repeat first|simp|refine sR ?_
     refine sC ?_;repeat first|simp|refine sR ?_
     refine sT (sH Hb Ht ?_);simp[<-hN]
    .rw[e4,if_pos rfl] at hN;repeat first|simp|refine sR ?_
     refine sC ?_;repeat first|simp|refine sR ?_
     refine sD (h3 _ _) ?_;repeat first|simp|refine sR ?_
     refine sT (sH Hb Ht ?_);simp[<-hN]
  .rw[if_pos e2] at hN;have b2:(S != 0)=true:=by simp[e2]
   refine sC ?_;simp[b2];repeat first|simp|refine sR ?_
   refine sT (sH Hb Ht ?_);simp[<-hN]
 .rw[if_pos e1] at hN;have b1:(E != 0)=true:=by simp[e1]
  refine sC ?_;simp[b1];repeat first|simp|refine sR ?_
  refine sT (sH Hb Ht ?_);simp[<-hN]
theorem aFW(t:Ty)(ht:t.Fit)(r:Ru)(hr:r.Fit)(c:Co)(hc:c.Fit):DC 143 [t.av,r.av,c.av] (I (rM t r c)):=by
 intro tok nt box nb;have h1:=kD t ht ht.hM;have h2:=fT r hr;have h3:=aCS t ht c hc;have hv:=@wI r;have l1:=fun (h:vG r.lg=0)=>nU t ht r.lg hr.lg (aE h)
 have l2:=fun (h:vG r.rg=0)=>nU t ht r.rg hr.rg (aE h)
 obtain⟨N,hN⟩:∃N,rM t r c=N:=⟨_,rfl⟩
 rw[hN];unfold rM at hN;generalize tyE t=E at *;generalize tyN t=Z at *;generalize cN r=S at *;refine sI func143 ntmps143 fun Hb Ht=>?_
 repeat first|simp|refine sR ?_
 refine sD (h1 _ _) ?_;repeat first|simp|refine sR ?_
 by_cases e1:E=0
 .rw[if_neg (by simp[e1])] at hN;refine sC ?_;simp[e1];repeat first|simp|refine sR ?_
  refine sD (h2 _ _) ?_;repeat first|simp|refine sR ?_
  by_cases e2:S=0
  .rw[if_neg (by simp[e2])] at hN;obtain⟨v1,v2⟩:=hv e2;refine sC ?_;simp[e2];repeat first|simp|refine sR ?_
   refine sD (l1 v1 _ _) ?_;simp;cases e3:dB t r.lg
   .rw[e3,if_neg (by simp)] at hN;repeat first|simp|refine sR ?_
    refine sC ?_;repeat first|simp|refine sR ?_
    refine sT (sH Hb Ht ?_);simp[<-hN]
   .rw[e3,if_pos rfl] at hN;repeat first|simp|refine sR ?_
    refine sD (l2 v2 _ _) ?_;simp;cases e4:dB t r.rg
    .rw[e4,if_neg (by simp)] at hN;repeat first|simp|refine sR ?_
     refine sC ?_;repeat first|simp|refine sR ?_
     refine sT (sH Hb Ht ?_);simp[<-hN]
    .rw[e4,if_pos rfl] at hN;repeat first|simp|refine sR ?_
     refine sC ?_;repeat first|simp|refine sR ?_
     refine sD (h3 _ _) ?_;repeat first|simp|refine sR ?_
     refine sT (sH Hb Ht ?_);simp[<-hN]
  .rw[if_pos e2] at hN;have b2:(S != 0)=true:=by simp[e2]
   refine sC ?_;simp[b2];repeat first|simp|refine sR ?_
   refine sT (sH Hb Ht ?_);simp[<-hN]
 .rw[if_pos e1] at hN;have b1:(E != 0)=true:=by simp[e1]
  refine sC ?_;simp[b1];repeat first|simp|refine sR ?_
  refine sT (sH Hb Ht ?_);simp[<-hN]
abbrev blB(l:List Bool):D:=.sl 1 (l.map fun b=>[D.raw (.bool b)])
def gQ(t:Ty)(a:Nat):List Bool:=(List.range t.nodes.length).map fun (b:Nat)=>isB t (b:Int) (a:Int)
def pE(t:Ty):List (List Bool):=(List.range t.nodes.length).map (gQ t)
def isD(t:Ty):D:=.sl 1 ((pE t).map fun r=>[blB r])
def ptD(nl:Bool)(l:List Int):D:=if nl=true then .raw aJY else ints l
structure Sr.Nl (s:Sr) (nl:Bool):Prop where
 n:nl=true->∀x∈s.pt.nodes,x = -1
 e:nl=true->∀x∈s.pt.edges,x = -1
def Sr.rowD(s:Sr)(nl:Bool)(fm:Nat)(N E:List Int)(out:List Mo):List D :=
 [ints s.p.nodes,AM.edges s.p.edges,ints s.g.nodes,AM.edges s.g.edges,isD s.t,ptD nl s.pt.nodes,ptD nl s.pt.edges,.raw (.bool s.inj),.raw (.int .i64 fm),ints N,ints E,.sl 2 (aGr out)]
abbrev Sr.rowF(s:Sr)(nl:Bool)(fm:Nat)(N:List Int)(a:Nat)(E:List Int)(b:Nat)(out:List Mo)(own:Own):List AV :=
 [.d (ints s.p.nodes),.d (AM.edges s.p.edges),.d (ints s.g.nodes),.d (AM.edges s.g.edges),.d (isD s.t),.d (ptD nl s.pt.nodes),.d (ptD nl s.pt.edges),B s.inj,I fm,.stk a 1 (rI N),.stk b 1 (rI E),.osl 2 (aGr out) own]
theorem Sr.row_cds{s:Sr}{nl:Bool}{fm:Nat}{N:List Int}{a:Nat}{E:List Int}{b:Nat}{out:List Mo}{own:Own}{tok:Nat->Bool}(ha:tok a=true)(hb:tok b=true):mU tok (s.rowF nl fm N a E b out own) (s.rowD nl fm N E out) :=
 ⟨.d,.d,.d,.d,.d,.d,.d,.d,.d,.stk ha,.stk hb,.osl,trivial⟩
def gvI(nl:Bool)(l:List Int)(i:Nat):Int:=if nl=true then -1 else l.getD i 0
theorem aEP{nl:Bool}{l:List Int}{i:Nat}(h:nl=true->∀x∈l,x = -1)(hi:i<l.length)(k:Nat):gvB l i k=if 0<=gvI nl l i then decide (gvI nl l i=(k:Int)) else true:=by
 unfold gvB gvI;cases nl
 .simp
 .have:l.getD i 0 = -1:=by
   have:=h rfl _ (List.getElem_mem hi)
   simp[hi,this]
  rw[this];simp
theorem aCd(nl:Bool)(l:List Int)(i:Nat)(hi:i<l.length)(hl:l.length<=1000000):DC 255 [.d (ptD nl l),I i] (I (gvI nl l i)):=by
 intro tok nt box nb;cases nl
 .refine sI func255 ntmps255 fun Hb Ht=>?_
  simp only[ptD,Bool.false_eq_true,if_false];repeat first|simp[hi]|refine sR ?_
  refine⟨?_,fun h=>by rw[h] at hi;simp at hi⟩;try (simp[hi])
  repeat ((first|refine sR ?_|refine sC ?_|refine sX ?_);simp[hi])
  refine sT (sH Hb Ht ?_);simp[gvI,hi]
 .refine sI func255 ntmps255 fun Hb Ht=>?_
  simp only[ptD,if_true];try (simp)
  repeat ((first|refine sR ?_|refine sC ?_|refine sX ?_);simp)
  refine sT (sH Hb Ht ?_);simp[gvI]
theorem E.dec3(e:E)(a b c:Int):decide (e=⟨a,b,c⟩)=(decide (e.ty=a)&&(decide (e.fr=b)&&decide (e.to=c))):=by
 cases e;simp
theorem aFE(s:Sr)(h:s.Ok)(nl:Bool)(hnl:s.Nl nl)(fm:Nat)(N E:List Int)(out:List Mo)(i k:Nat)(hi:i<s.p.edges.length)(hk:k<s.g.edges.length)(hf:(s.p.edges.getD i default).fr<N.length)(ht:(s.p.edges.getD i default).to<N.length):DC 257 [.cptr (s.rowD nl fm N E out) 0,I i,I k] (B (s.fitK N i k)):=by
 intro tok nt box nb;have hpe:=h.p.e;have hpl:i<s.pt.edges.length:=by rw[h.pe];exact hi
 have hg:=aCd nl s.pt.edges i hpl (by rw[h.pe];omega);have hgv:=aEP hnl.e hpl k;obtain⟨x1,x2,x3,x4⟩:=h.vp _ (List.getElem_mem hi);have hgd:s.p.edges.getD i default=s.p.edges[i]:=by simp[hi]
 rw[hgd] at hf ht;have y1:s.p.edges[i].fr.toNat<N.length:=by omega
 have y2:s.p.edges[i].to.toNat<N.length:=by omega
 have hwx:kT s.p N i=⟨s.p.edges[i].ty,N[s.p.edges[i].fr.toNat],N[s.p.edges[i].to.toNat]⟩:=by simp[kT,hi,y1,y2]
 have hgi:s.g.edges.getD k default=s.g.edges[k]:=by simp[hk]
 obtain⟨R,hR⟩:∃R,s.fitK N i k=R:=⟨_,rfl⟩
 rw[hR];unfold Sr.fitK at hR;rw[hgv,hwx,hgi] at hR;generalize gvI nl s.pt.edges i=W at *;refine sI func257 ntmps257 fun Hb Ht=>?_
 repeat first|simp[Sr.rowD,hi]|refine sR ?_
 refine sD (hg _ _) ?_;simp;by_cases p01:0<=W/\W≠(k:Int)
 .obtain⟨p0,p1⟩:=p01;have b1:(W != (k:Int))=true:=by simp[p1]
  rw[if_pos p0,if_neg (by simp[p1])] at hR;try (simp[p0,b1])
  repeat ((first|refine sR ?_|refine sC ?_|refine sX ?_);simp[p0,b1])
  refine sT (sH Hb Ht ?_);simp[<-hR]
 .have hW:(if 0<=W then decide (W=(k:Int)) else true)=true:=by
   by_cases p0:0<=W
   .rw[if_pos p0];by_cases p1:W=(k:Int)
    .simp[p1]
    .exact absurd ⟨p0,p1⟩ p01
   .rw[if_neg p0]
  rw[if_pos hW,_root_.Go.AM.E.dec3] at hR;have hst:∀Q,(0<=W->(W != (k:Int))=false->Q)->(¬0<=W->Q)->Q:=by
   intro Q h1 h2;by_cases p0:0<=W
   .refine h1 p0 ?_;by_cases p1:W=(k:Int)
    .simp[p1]
    .exact absurd ⟨p0,p1⟩ p01
   .exact h2 p0
  refine hst _ (fun p0 b1=>?_) (fun p0=>?_)
  .try (simp[p0,b1,hk,x1,x3,y1,y2,hf,ht,Sr.rowD])
   repeat ((first|refine sR ?_|refine sC ?_|refine sX ?_);simp[p0,b1,hk,x1,x3,y1,y2,hf,ht,Sr.rowD])
   refine sT (sH Hb Ht ?_);simp[<-hR]
  .try (simp[p0,hk,x1,x3,y1,y2,hf,ht,Sr.rowD])
   repeat ((first|refine sR ?_|refine sC ?_|refine sX ?_);simp[p0,hk,x1,x3,y1,y2,hf,ht,Sr.rowD])
   refine sT (sH Hb Ht ?_);simp[<-hR]
def aL8(s:Sr)(nl:Bool)(fm:Nat)(N E:List Int)(out:List Mo)(nb:Nat)(box:Bxs)(tok:Tks)(nt:Nat)(i:Nat):AS :=
 ⟨tl [(20,I i),(19,I s.p.edges.length),(18,.d (AM.edges s.p.edges)),(3,I ((N.length:Int)-1)),(0,.cptr (s.rowD nl fm N E out) 0)],lb nb box [],tok,nt⟩
def aLj(s:Sr)(nl:Bool)(fm:Nat)(N E:List Int)(out:List Mo)(nb:Nat)(box:Bxs)(tok:Tks)(nt:Nat)(i:Nat)(q:Nat):AS :=
 ⟨tl [(38,I q),(37,I s.g.edges.length),(6,B false),(5,.ptr (nb+5) 0 0),(4,I i),(20,I i),(19,I s.p.edges.length),(18,.d (AM.edges s.p.edges)),(3,I ((N.length:Int)-1)),(0,.cptr (s.rowD nl fm N E out) 0)],
  lb nb box [(5,[[I (s.p.edges.getD i default).ty,I (s.p.edges.getD i default).fr,I (s.p.edges.getD i default).to]])],tok,nt⟩
theorem jC(s:Sr)(h:s.Ok)(nl:Bool)(hnl:s.Nl nl)(fm:Nat)(N E:List Int)(hN:N.length<=s.p.nodes.length)(out:List Mo):DC 256 [.cptr (s.rowD nl fm N E out) 0] (B (s.pos N)):=by
 intro tok nt box nb;have hpe:=h.p.e;have hpn:=h.p.n;have hge:=h.g.e;have hw0:IntKind.i64.wrap (↑N.length-1)=(N.length:Int)-1:=aM (by omega) (by omega)
 have hfit:=fun i k hi hk hf ht=>aFE s h nl hnl fm N E out i k hi hk hf ht
 obtain⟨R,hR⟩:∃R,s.pos N=R:=⟨_,rfl⟩
 rw[hR];refine sI func256 ntmps256 fun Hb Ht=>?_
 repeat first|simp[Sr.rowD,hw0]|refine sR ?_
 refine sN ?_;refine sL (aL8 s nl fm N E out nb box tok nt) (fun i=>i<=s.p.edges.length/\∀j,j<i->s.posE N j=true) (fun i=>s.p.edges.length-i) 0 ⟨Nat.zero_le _,fun j hj=>absurd hj (Nat.not_lt_zero _)⟩ (wM (nr0 _) rfl (by simp[ToL,lk,Sr.rowD]) (by simp[aC,lk])) ?_;rintro i S' ⟨hi,hall⟩ hS;simp only[aL8] at hS;subst hS;have hw:=sW (i:=i) (by omega);by_cases hlt:i<s.p.edges.length
 .have hgd:s.p.edges.getD i default=s.p.edges[i]:=by simp[hlt]
  have hfit:=fun k hk=>hfit i k hlt hk
  obtain⟨x1,x2,x3,x4⟩:=h.vp _ (List.getElem_mem hlt);by_cases hmx:max s.p.edges[i].fr s.p.edges[i].to=(N.length:Int)-1
  .have b1:(max s.p.edges[i].fr s.p.edges[i].to != (N.length:Int)-1)=false:=by simp[hmx]
   have hpe0:s.posE N i=(List.range s.g.edges.length).any (s.fitK N i):=by unfold Sr.posE;rw[hgd,if_pos hmx]
   have hfit:=fun k hk=>hfit k hk (by rw[hgd];omega) (by rw[hgd];omega)
   try (simp[hlt,b1,Sr.rowD])
   repeat ((first|refine sR ?_|refine sC ?_|refine sX ?_);simp[hlt,b1,Sr.rowD])
   refine sN ?_;refine sL (aLj s nl fm N E out nb box tok nt i) (fun q=>q<=s.g.edges.length/\∀j,j<q->s.fitK N i j=false) (fun q=>s.g.edges.length-q) 0 ⟨Nat.zero_le _,fun j hj=>absurd hj (Nat.not_lt_zero _)⟩ (wM (nr0 _) rfl (by simp[ToL,lk,hlt,Sr.rowD]) (by simp[aC,lk,hlt])) ?_;rintro q S' ⟨hq0,hno⟩ hS;simp only[aLj] at hS;subst hS;have hwq:=sW (i:=q) (by omega);by_cases hq:q<s.g.edges.length
   .have hc:=hfit q hq;try (simp[hq])
    repeat ((first|refine sR ?_|refine sC ?_|refine sX ?_);simp[hq])
    refine sD (hc _ _) ?_;cases e:s.fitK N i q
    .try (simp[hwq])
     repeat ((first|refine sR ?_|refine sC ?_|refine sX ?_);simp[hwq])
     refine sE ?_;exact⟨q+1,⟨hq,fun j hj=>(Nat.lt_or_ge j q).elim (hno j) fun hh=>by rw[show j=q by omega];exact e⟩,by omega,wM (nr0 _) rfl (by simp[ToL,lk,hlt]) (by simp[aC,lk,hlt])⟩
    .have hp:s.posE N i=true:=by
      rw[hpe0,List.any_eq_true];exact⟨q,List.mem_range.2 hq,e⟩
     try (simp[hw])
     repeat ((first|refine sR ?_|refine sC ?_|refine sX ?_);simp[hw])
     refine sE ?_;exact⟨i+1,⟨hlt,fun j hj=>(Nat.lt_or_ge j i).elim (hall j) fun hh=>by rw[show j=i by omega];exact hp⟩,by omega,wkA⟩
   .have:q=s.g.edges.length:=by omega
    subst this;have hp:s.posE N i=false:=by
     rw[hpe0,List.any_eq_false];exact fun j hj=>by simp[hno j (List.mem_range.1 hj)]
    rw[Sr.pos_false hlt hp] at hR;try (simp)
    repeat ((first|refine sR ?_|refine sC ?_|refine sX ?_);simp)
    refine sT (sH Hb Ht ?_);simp[<-hR]
  .have b1:(max s.p.edges[i].fr s.p.edges[i].to != (N.length:Int)-1)=true:=by simp[hmx]
   have hp:s.posE N i=true:=by unfold Sr.posE;rw[hgd,if_neg hmx]
   try (simp[hlt,b1,hw])
   repeat ((first|refine sR ?_|refine sC ?_|refine sX ?_);simp[hlt,b1,hw])
   refine sE ?_;exact⟨i+1,⟨hlt,fun j hj=>(Nat.lt_or_ge j i).elim (hall j) fun hh=>by rw[show j=i by omega];exact hp⟩,by omega,wkA⟩
 .have:i=s.p.edges.length:=by omega
  subst this;rw[Sr.pos_true hall] at hR;try (simp)
  repeat ((first|refine sR ?_|refine sC ?_|refine sX ?_);simp)
  refine sT (sH Hb Ht ?_);simp[<-hR]
def QFd(s:Sr)(nl:Bool)(fm:Nat)(box:Bxs)(nb k:Nat)(mtok:Tks)(nt0 nt:Nat)(N E:List Int)(R:List Mo)(v:AV)(m:bH):Prop :=
 v=.tup []/\∃a b own tok nt',m=⟨upd box k (some [s.rowF nl fm N a E b R own]),nb,tok,nt'⟩/\TK mtok nt0 tok nt' [.tok a,.tok b,own]/\nt<=nt'
theorem eJ{s:Sr}{nl:Bool}{fm:Nat}{N E:List Int}{a b:Nat}{out:List Mo}{own:Own}{box:Bxs}{k base:Nat}{p q:Nat->Prop}(hq:q=fun _=>True):∀k' rows,k'<base->(upd box k (some [s.rowF nl fm N a E b out own])) k'=some rows->box k'=some rows∨∀r∈rows,∀x∈r,bF p q x:=by
 subst hq;intro k' rows hk' hr;by_cases e:k'=k
 .subst e;rw[uS] at hr;cases hr;exact .inr (by simp)
 .rw[uO _ _ e] at hr;exact .inl hr
theorem aGs{c:Addr->Option Value}{ps:Addr->Prop}{xs:List Int}{vs:List Value}(h:cJ c ps 1 (rI xs) vs):∀j,j<xs.length->vs[j]?=some (.int .i64 (xs.getD j 0)):=by
 intro j hj;have hj':j<(rI xs).length:=by simpa using hj
 obtain⟨u,h1,h2⟩:=h.read j 0 hj' (by simp);rw[Nat.mul_one,Nat.add_zero] at h1;have e:(rI xs)[j][0]'(by simp)=D.raw (.int .i64 xs[j]):=by simp
 rw[e] at h2;cases h2;rw[h1];simp[hj]
theorem aDd(xs:List Int)(hx:xs.length<=1000000)(t:Nat)(tok:Tks)(nt:Nat)(ht:tok t=true):dI prog 83 [.stk t 1 (rI xs)] tok nt (.d (ints xs)) tok nt:=by
 intro box nb;refine⟨iJ.mk func83 rfl (by kernel_rfl),fun G w vals hm hr=>?_⟩;obtain⟨hlen,hrv⟩:=hr
 match vals,hlen with
 | [v],_ =>
  have h0:=hrv 0 (by simp) (by simp);simp only[List.getElem_cons_zero] at h0;cases h0 with|stk h0 =>
  obtain⟨h1,A,cap,rfl,hcap,hmax,h2⟩:=h0;obtain⟨_,x,hx2⟩:=hm.toks t ht;have h3:=h2 x hx2;have hl:(rI xs).length=xs.length:=by simp
  rw[hl] at hcap ⊢;cases A with
  | none =>
   have he:xs=[]:=by
    cases x with
    | none=>exact List.length_eq_zero_iff.1 (by simp only at h3;omega)
    | some g=>cases h3.1
   subst he;refine(Tryz.slices_Clone_int_nil _ cap w).mono ?_;rintro e w' ⟨rfl,rfl⟩;exact⟨_,_,_,G,rfl,⟨rfl,rfl⟩,rfl,hm,.d (.sl (es:=[]) (fun _ _=>default) (nr0 _) (by decide) (by simp) (by simp) (by simp) (by simp)),Le.refl _ _,fun k hk=>⟨hk,rfl⟩⟩
  | some a =>
   by_cases e:xs=[]
   .subst e;refine(Tryz.slices_Clone_int_zero a cap w).mono ?_;rintro e w' ⟨v,rfl,hown,hnn,hb⟩;exact⟨v,_,_,G,rfl,⟨rfl,rfl⟩,rfl,eV hm hb,.d (mT hm hown),gJ hm hb,fun k hk=>⟨hk,rfl⟩⟩
   .have hne:xs.length≠0:=fun h=>e (List.length_eq_zero_iff.1 h)
    cases x with
    | none=>simp only at h3;omega
    | some g =>
     obtain⟨hA,vs,sp,et,hg,hh,hln,hfl,_⟩:=h3;cases hA;have hc:∀j,j<xs.length->w.cell? ⟨g,0+j,none⟩=some (.int .i64 (xs.getD j 0)):=by
      intro j hj;have:=aGs hfl j hj
      rw[Nat.zero_add,cell_of_row w g _ _ et (0,0) hh];have hj2:j<vs.length:=by rw[hfl.len];simpa using hj
      simp only[List.getElem?_toArray,List.getElem?_append_left hj2];exact this
     have:=Tryz.slices_Clone_int g 0 xs.length cap xs w (nr0 _) (by omega) hc
     rw[List.take_length] at this;refine this.mono ?_;rintro e w' ⟨v,rfl,hown,hnn,hb⟩;exact⟨v,_,_,G,rfl,⟨rfl,rfl⟩,rfl,eV hm hb,.d (mT hm hown),gJ hm hb,fun k hk=>⟨hk,rfl⟩⟩
structure aO5 where
 i:Nat
 out:List Mo
 a:Nat
 b:Nat
 own:Own
 tok:Nat->Bool
 nt:Nat
def Sr.stEp(s:Sr)(fm:Nat)(N E:List Int)(n:Nat)(out:List Mo)(k:Nat):List Mo:=if s.okE N E k=true then gW fm (s.okE N) s.g.edges.length N n (E++[(k:Int)]) out else out
def aLI(s:Sr)(nl:Bool)(fm:Nat)(N E:List Int)(nb k:Nat)(box:Bxs)(x:aO5):AS :=
 ⟨tl [(164,I x.i),(163,I s.g.edges.length),(162,.d (AM.edges s.g.edges)),(6,I E.length),(0,.ptr k 0 0)],lb nb (upd box k (some [s.rowF nl fm N x.a E x.b x.out x.own])) [],x.tok,x.nt⟩
theorem dH(E:List Int)(v:Int):List.take E.length (rI (E++[v]))=rI E:=by
 unfold rI;rw[List.map_append,List.take_append_of_le_length (by simp),List.take_of_length_le (by simp)]
set_option maxRecDepth 100000 in
theorem aKV(s:Sr)(h:s.Ok)(nl:Bool)(hnl:s.Nl nl)(fm:Nat)(hfm:fm<=1000000)(N:List Int)(hN:N.length=s.p.nodes.length)(mtok:Tks)(nt0:Nat):∀(n:Nat) (E:List Int) (out:List Mo) (a b:Nat) (own:Own) (box:Bxs) (nb k:Nat) (tok:Tks) (nt:Nat),E.length+n=s.p.edges.length->out.length<=fm ->
  box k=some [s.rowF nl fm N a E b out own]->TK mtok nt0 tok nt [.tok a,.tok b,own]->aD prog 199 [.ptr k 0 0] ⟨box,nb,tok,nt⟩ (QFd s nl fm box nb k mtok nt0 nt N E (gW fm (s.okE N) s.g.edges.length N n E out)):=by
 have hpn:=h.p.n;have hpe:=h.p.e;have hgn:=h.g.n;have hge:=h.g.e;intro n;induction n with
 | zero =>
  intro E out a b own box nb k tok nt hE ho hk htk;have hself:box=upd box k (some [s.rowF nl fm N a E b out own]):=(cL box k _ hk).symm
  refine sI func199 ntmps199 fun Hb Ht=>?_
  have hkn:=bC Hb hk;have hEl:E.length=s.p.edges.length:=by omega
  repeat first|simp[lO hkn,hk]|refine sR ?_
  by_cases hbig:out.length=fm
  .have b1:((out.length:Int)==(fm:Int))=true:=by simp[hbig]
   try (simp[lO hkn,hk,b1])
   repeat ((first|refine sR ?_|refine sC ?_|refine sX ?_);simp[lO hkn,hk,b1])
   refine sN ?_;refine sE ?_;refine⟨by simp,(Fin.own (vs:=[]) (av:=.tup []) (by simp[aP,bI]) Hb rfl (nr0 _) (by simp)).mono fun v m hq=>⟨hq.1,a,b,own,tok,nt,?_,htk,nr0 _⟩⟩;rw[hq.2,gW,if_pos hbig,<-hself]
  .have b1:((out.length:Int)==(fm:Int))=false:=by simp;omega
   have hta:tok a=true:=htk.live
   have htb:tok b=true:=htk.swap.live
   try (simp[lO hkn,hk,b1,hN,hEl])
   repeat ((first|refine sR ?_|refine sC ?_|refine sX ?_);simp[lO hkn,hk,b1,hN,hEl])
   refine sD (aDd N (by omega) a _ _ hta) ?_;simp[lO hkn,hk];refine sD (aDd E (by omega) b _ _ htb) ?_;simp[lO hkn,hk];refine⟨⟨by omega,htk.pick3.live⟩,?_⟩;simp only[uL hkn];refine sN ?_;refine sE ?_;have htk2:=htk.pick3.app.put3;refine⟨by simp,(Fin.gen (vs:=[]) (av:=.tup []) (tok':=upd (own.kill tok) nt true) (nt':=nt+1) (by simp[aP,bI]) ?_ (by omega) (nr0 _) (fun t h=>⟨h,.inl rfl⟩) ?_ (by simp)).mono fun v m hq=>⟨hq.1,a,b,.tok nt,_,nt+1,?_,htk2,by omega⟩⟩
   .rw[<-uL hkn,Hb]
   .intro k' rows hk' hr;by_cases e:k'=k
    .subst e;rw[uS] at hr;cases hr;exact .inr (by simp)
    .rw[uO _ _ e] at hr;exact .inl hr
   .rw[hq.2,gW,if_neg hbig];simp[Sr.rowF]
 | succ n ih =>
  intro E out a b own box nb k tok nt hE ho hk htk;have hself:box=upd box k (some [s.rowF nl fm N a E b out own]):=(cL box k _ hk).symm
  have hlt:E.length<s.p.edges.length:=by omega
  refine sI func199 ntmps199 fun Hb Ht=>?_
  have hkn:=bC Hb hk;repeat first|simp[lO hkn,hk]|refine sR ?_
  by_cases hbig:out.length=fm
  .have b1:((out.length:Int)==(fm:Int))=true:=by simp[hbig]
   try (simp[lO hkn,hk,b1])
   repeat ((first|refine sR ?_|refine sC ?_|refine sX ?_);simp[lO hkn,hk,b1])
   refine sN ?_;refine sE ?_;refine⟨by simp,(Fin.own (vs:=[]) (av:=.tup []) (by simp[aP,bI]) Hb rfl (nr0 _) (by simp)).mono fun v m hq=>⟨hq.1,a,b,own,tok,nt,?_,htk,nr0 _⟩⟩;rw[hq.2,gW,if_pos hbig,<-hself]
  .have b1:((out.length:Int)==(fm:Int))=false:=by simp;omega
   try (simp[lO hkn,hk,b1,hN,hlt])
   repeat ((first|refine sR ?_|refine sC ?_|refine sX ?_);simp[lO hkn,hk,b1,hN,hlt])
   refine sN ?_;have hlb:∀loc,lb nb box loc=lb nb (upd box k (some [s.rowF nl fm N a E b out own])) loc:=fun loc=>by rw[<-hself]
   rw[hlb];refine sL (aLI s nl fm N E nb k box) (fun x=>x.i<=s.g.edges.length/\x.out=(List.range x.i).foldl (s.stEp fm N E n) out/\x.out.length<=fm/\TK mtok nt0 x.tok x.nt [.tok x.a,.tok x.b,x.own]/\nt<=x.nt) (fun x=>s.g.edges.length-x.i)
    ⟨0,out,a,b,own,tok,nt⟩ ⟨Nat.zero_le _,rfl,ho,htk,nr0 _⟩ (aS.mk' (nr0 _) (by simp[ToL,lk];exact aI (by rw[lO hkn,uS];simp)) (by simp[aC,lk]) (eJ rfl)) ?_
   rintro⟨i,out2,a2,b2,own2,tok2,nt2⟩ S ⟨hi,hout,ho2,htk2,hnt2⟩ hS;simp only[aLI] at hS hi hout ho2 htk2 hnt2;subst hS;have hw:IntKind.i64.wrap (↑i+1)=((i+1:Nat):Int):=by rw[aM (by omega) (by omega)];omega
   have hfold:(List.range (i+1)).foldl (s.stEp fm N E n) out=s.stEp fm N E n out2 i:=by
    rw[hout,List.range_succ,List.foldl_append];rfl
   have hta:tok2 a2=true:=htk2.live
   have htb:tok2 b2=true:=htk2.swap.live
   by_cases hli:i<s.g.edges.length
   .obtain⟨x1,x2,x3,x4⟩:=h.vp _ (List.getElem_mem hlt);have hgd:s.p.edges.getD E.length default=s.p.edges[E.length]:=by simp[hlt]
    have hfit:=aFE s h nl hnl fm N E out2 E.length i hlt hli (by rw[hgd];omega) (by rw[hgd];omega);have hoke:=s.okE_eq N E i;try (simp[lO hkn,uS,hli])
    repeat ((first|refine sR ?_|refine sC ?_|refine sX ?_);simp[lO hkn,uS,hli])
    refine aN.of_r (cW.lends rfl (fun tok=>hfit tok nt2) ⟨.ptr (by simp only[lO hkn,uS]) (Sr.row_cds (own:=own2) hta htb),.same (by simp),.same (by simp),trivial⟩) ?_;cases e1:s.fitK N E.length i
    .have hok:s.okE N E i=false:=by rw[hoke,e1];rfl
     try (simp[lO hkn,uS,hw])
     repeat ((first|refine sR ?_|refine sC ?_|refine sX ?_);simp[lO hkn,uS,hw])
     refine sE ?_;exact⟨⟨i+1,out2,a2,b2,own2,tok2,nt2⟩,⟨hli,by rw[hfold,Sr.stEp,hok];simp,ho2,htk2,hnt2⟩,by simp only;omega,aS.mk' (by have:=htk2.le;omega) (by simp[ToL,lk];exact aI (by rw[lO hkn,uS];simp)) (by simp[aC,lk]) (eJ rfl)⟩
    .have hoke:s.okE N E i=!usB s.inj E i:=by rw[hoke,e1];simp
     have skip:∀Q:Prop,(s.inj=true->decide ((i:Int)∈E)=true->Q)->(s.inj=true->decide ((i:Int)∈E)=false->Q)->(s.inj=false->Q)->Q:=by
      intro Q h1 h2 h3;cases ei:s.inj
      .exact h3 ei
      .cases ed:decide ((i:Int)∈E)
       .exact h2 ei ed
       .exact h1 ei ed
     refine skip _ (fun ei ed=>?_) (fun ei ed=>?_) (fun ei=>?_)
     .have hok:s.okE N E i=false:=by rw[hoke,usB,if_pos ei,ed];rfl
      simp[lO hkn,uS,ei];refine aN.of_r (cW.lends rfl (fun tok=>bO E i (by omega) tok nt2) ⟨.stk htb,.same (by simp),trivial⟩) ?_;rw[ed];try (simp[hw])
      repeat ((first|refine sR ?_|refine sC ?_|refine sX ?_);simp[hw])
      refine sE ?_;exact⟨⟨i+1,out2,a2,b2,own2,tok2,nt2⟩,⟨hli,by rw[hfold,Sr.stEp,hok];simp,ho2,htk2,hnt2⟩,by simp only;omega,aS.mk' (by have:=htk2.le;omega) (by simp[ToL,lk];exact aI (by rw[lO hkn,uS];simp)) (by simp[aC,lk]) (eJ rfl)⟩
     .have hok:s.okE N E i=true:=by rw[hoke,usB,if_pos ei,ed];rfl
      simp[lO hkn,uS,ei];refine aN.of_r (cW.lends rfl (fun tok=>bO E i (by omega) tok nt2) ⟨.stk htb,.same (by simp),trivial⟩) ?_;rw[ed];try (simp[lO hkn,uS])
      repeat ((first|refine sR ?_|refine sC ?_|refine sX ?_);simp[lO hkn,uS])
      refine⟨⟨by omega,htb⟩,?_⟩;have htk3:=htk2.swap.app.swap;simp only[uL hkn,bD];try (simp[lO hkn,uS])
      repeat ((first|refine sR ?_|refine sC ?_|refine sX ?_);simp[lO hkn,uS])
      refine aN.of_a (ih (E++[(i:Int)]) out2 a2 nt2 own2 _ _ k _ _ (by simp;omega) ho2 (by simp[lO hkn,uS]) htk3) ?_;rintro v m' ⟨rfl,a3,b3,own3,tok3,nt3,rfl,htk4,hle4⟩;have hle4:nt2+1<=nt3:=hle4
      have hle5:nt<=nt3:=by omega
      simp[uL hkn,bD];try (simp[lO hkn,uS,dH,hw])
      repeat ((first|refine sR ?_|refine sC ?_|refine sX ?_);simp[lO hkn,uS,dH,hw])
      simp only[uL hkn,bD];refine sE ?_;exact⟨⟨i+1,gW fm (s.okE N) s.g.edges.length N n (E++[(i:Int)]) out2,a3,b3,own3,tok3,nt3⟩,⟨hli,by rw[hfold,Sr.stEp,hok];simp,mY ho2,htk4,by omega⟩,by simp only;omega,aS.mk' hle5 (by simp[ToL,lk];exact aI (by rw[lO hkn,uS];simp)) (by simp[aC,lk]) (eJ rfl)⟩
     .have hok:s.okE N E i=true:=by rw[hoke,usB,if_neg (by simp[ei])];rfl
      simp[lO hkn,uS,ei];try (simp[lO hkn,uS])
      repeat ((first|refine sR ?_|refine sC ?_|refine sX ?_);simp[lO hkn,uS])
      refine⟨⟨by omega,htb⟩,?_⟩;have htk3:=htk2.swap.app.swap;simp only[uL hkn,bD];try (simp[lO hkn,uS])
      repeat ((first|refine sR ?_|refine sC ?_|refine sX ?_);simp[lO hkn,uS])
      refine aN.of_a (ih (E++[(i:Int)]) out2 a2 nt2 own2 _ _ k _ _ (by simp;omega) ho2 (by simp[lO hkn,uS]) htk3) ?_;rintro v m' ⟨rfl,a3,b3,own3,tok3,nt3,rfl,htk4,hle4⟩;have hle4:nt2+1<=nt3:=hle4
      have hle5:nt<=nt3:=by omega
      simp[uL hkn,bD];try (simp[lO hkn,uS,dH,hw])
      repeat ((first|refine sR ?_|refine sC ?_|refine sX ?_);simp[lO hkn,uS,dH,hw])
      simp only[uL hkn,bD];refine sE ?_;exact⟨⟨i+1,gW fm (s.okE N) s.g.edges.length N n (E++[(i:Int)]) out2,a3,b3,own3,tok3,nt3⟩,⟨hli,by rw[hfold,Sr.stEp,hok];simp,mY ho2,htk4,by omega⟩,by simp only;omega,aS.mk' hle5 (by simp[ToL,lk];exact aI (by rw[lO hkn,uS];simp)) (by simp[aC,lk]) (eJ rfl)⟩
   .have:i=s.g.edges.length:=by omega
    subst this;try (simp[lO hkn,uS])
    repeat ((first|refine sR ?_|refine sC ?_|refine sX ?_);simp[lO hkn,uS])
    refine sN ?_;refine sE ?_;refine⟨by simp,(Fin.gen (vs:=[]) (av:=.tup []) (tok':=tok2) (nt':=nt2) (by simp[aP,bI]) ?_ hnt2 (nr0 _) (fun t h=>⟨h,.inl rfl⟩) (eJ (by simp)) (by simp)).mono fun v m hq=>⟨hq.1,a2,b2,own2,tok2,nt2,?_,htk2,hnt2⟩⟩
    .rw[<-uL hkn,Hb]
    .rw[hq.2,gW,if_neg hbig,hout];rfl
end Go.AM
