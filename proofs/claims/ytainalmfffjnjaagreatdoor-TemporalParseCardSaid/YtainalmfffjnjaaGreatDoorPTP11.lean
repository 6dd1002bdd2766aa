/-
 Parts of the proof, as merged from many texts: a machine over data, what the functions compute, plain laws.
-/
import Derived.Test.YtainalmfffjnjaaGreatDoorPTP10
set_option linter.unusedSimpArgs false
set_option linter.unusedVariables false
namespace Go.AM
open Go Go.Proofs
open Go.Proofs.Tryz
def rankK(i:Nat)(o:List Int)(k:Int):List Int:=o.set i (max (o.getD i 0) (fAt o k+1))
def rkS(nx:List (List Int))(o:List Int)(i:Nat):List Int:=if 0<=o.getD i 0∨((nx.getD i []).any fun k=>decide (fAt o k<0))=true then o else (nx.getD i []).foldl (rankK i) o
def rkP(nx:List (List Int))(o:List Int)(i:Nat):List Int:=(List.range i).foldl (rkS nx) o
def rkN(nx:List (List Int)):Nat->List Int->List Int
 | 0,o=>o
 | n+1,o=>if rkP nx o o.length=o then o else rkN nx n (rkP nx o o.length)
def rankR(m:Mdl)(l:List Bool):List Int:=rkN m.next (negs (far0 l)+1) (far0 l)
theorem rkP_succ(nx:List (List Int))(o:List Int)(i:Nat):rkP nx o (i+1)=rkS nx (rkP nx o i) i:=by simp[rkP,List.range_succ]
structure RkI (n:Nat) (o:List Int):Prop where
 len:o.length=n
 lo:∀i,i<n -> -1<=o.getD i 0
 hi:∀i,i<n->o.getD i 0+(negs o:Int)<=(n:Int)
structure RkJ (n:Nat) (o:List Int) (i:Nat) (o2:List Int) (j:Nat):Prop where
 len:o2.length=n
 oth:∀k,k<n->k≠i->o2.getD k 0=o.getD k 0
 bd:o2.getD i 0+(negs o:Int)<=(n:Int)+1
 zero:j=0->o2=o
 pos:0<j->1<=o2.getD i 0
theorem getD_set_eq{o:List Int}{i:Nat}(h:i<o.length)(v:Int):(o.set i v).getD i 0=v:=by simp[h]
theorem getD_set_ne{o:List Int}{i k:Nat}(h:k≠i)(v:Int):(o.set i v).getD k 0=o.getD k 0:=by simp[List.getElem?_set_ne (Ne.symm h)]
theorem rkJ_step{n:Nat}{o:List Int}(h:RkI n o){i:Nat}(hi:i<n)(hneg:o.getD i 0<0){o2:List Int}{j:Nat}(hj:RkJ n o i o2 j){k:Int}(hk:inR n k)(hk0:0<=fAt o k):RkJ n o i (rankK i o2 k) (j+1)/\fAt o2 k=fAt o k:=by
 obtain⟨h1,h2⟩:=hk;have hki:k.toNat≠i:=fun e=>by unfold fAt at hk0;rw[e] at hk0;omega
 have hfk:fAt o2 k=fAt o k:=hj.oth k.toNat (by omega) hki
 have hb:=h.hi k.toNat (by omega);have hb2:=hj.bd;have hil:i<o2.length:=by rw[hj.len];exact hi
 refine⟨⟨by simp[rankK,hj.len],fun x hx hne=>?_,?_,fun e=>by omega,fun _=>?_⟩,hfk⟩
 .unfold rankK;rw[getD_set_ne hne];exact hj.oth x hx hne
 .unfold rankK;rw[getD_set_eq hil,hfk];unfold fAt at hk0 ⊢;omega
 .unfold rankK;rw[getD_set_eq hil,hfk];omega
theorem negs_ext{a b:List Int}{i:Nat}(hl:a.length=b.length)(hi:i<a.length)(h:∀k,k<a.length->k≠i->b.getD k 0=a.getD k 0)(h1:a.getD i 0<0)(h2:0<=b.getD i 0):negs b+1=negs a:=by
 have e:b=a.set i (b.getD i 0):=by
  refine List.ext_getElem (by simp[hl]) fun k g1 g2=>?_
  have hk:k<a.length:=by omega
  rw[List.getElem_set];split
  .rename_i e;subst e;simp[g1]
  .rename_i hne;have:=h k hk (Ne.symm hne)
   simpa[hk,g1] using this
 rw[e];have:a.getD i 0=a[i]:=by simp[hi]
 exact negs_set hi (by rw[<-this];exact h1) h2
theorem rkJ_end{n:Nat}{o:List Int}(h:RkI n o){i:Nat}(hi:i<n)(hneg:o.getD i 0<0){o2:List Int}{j:Nat}(hj:RkJ n o i o2 j)(h0:0<j):RkI n o2/\negs o2+1=negs o:=by
 have hp:=hj.pos h0;have hn:=negs_ext (a:=o) (b:=o2) (i:=i) (by rw[h.len,hj.len]) (by rw[h.len];exact hi) (fun k hk hne=>hj.oth k (by rw[<-h.len];exact hk) hne) hneg (by omega);have hbd:=hj.bd;refine⟨⟨hj.len,fun k hk=>?_,fun k hk=>?_⟩,hn⟩
 .by_cases e:k=i
  .subst e;omega
  .rw[hj.oth k hk e];exact h.lo k hk
 .by_cases e:k=i
  .subst e;omega
  .rw[hj.oth k hk e];have:=h.hi k hk
   omega
theorem rkJ_zero{n:Nat}{o:List Int}(h:RkI n o){i:Nat}(hi:i<n):RkJ n o i o 0:=⟨h.len,fun _ _ _=>rfl,by have:=h.hi i hi;omega,fun _=>rfl,fun h=>by omega⟩
theorem rk0_i(l:List Bool):RkI l.length (far0 l):=by
 have h:=far0_i l [];refine⟨by simp[far0],fun i hi=>?_,fun i hi=>?_⟩
 .have:=h.lo (i:Int) ⟨by omega,by omega⟩
  simpa[fAt] using this
 .have:=h.hi (i:Int) ⟨by omega,by omega⟩
  simpa[fAt] using this
theorem rkc_c(o:List Int)(n:Nat)(hn:o.length=n)(k:Int)(hk:inR n k)(k12 k17 nb:Nat)(box:Bxs)(tok:Tks)(nt:Nat)(h12:box k12=some [[.msl k17 0 n 1]])(h17:box k17=some (rowsI o)):
  ACalls prog 97 [I k,.ptr k12 0 0] ⟨box,nb,tok,nt⟩ fun v m=>v=B (decide (fAt o k<0))/\m=⟨box,nb,tok,nt⟩:=by
 obtain⟨h1,h2⟩:=hk;have h6:k.toNat<o.length:=by omega
 have hg1:fAt o k=o[k.toNat]:=by simp[fAt,h6]
 rw[hg1];refine sI func97 ntmps97 fun Hb Ht=>?_
 have hkn12:=key_lt Hb h12;have hkn17:=key_lt Hb h17;repeat first|simp|refine sR ?_
 repeat first|simp[lO hkn12,lO hkn17,h12,h17,h1,h2,h6]|refine sR ?_
 refine sT (sH Hb Ht ?_);simp
structure RkO where
 c:Bool
 o:List Int
structure RkX where
 c:Bool
 i:Nat
def RkInv(n:Nat)(nx:List (List Int))(Res:List Int)(a:RkO):Prop:=RkI n a.o/\if a.c=true then ∃F,negs a.o<F/\rkN nx F a.o=Res else a.o=Res
def RkInvI(n:Nat)(nx:List (List Int))(o:List Int)(a:RkX):Prop:=RkI n (rkP nx o a.i)/\if a.c=true then negs (rkP nx o a.i)<negs o else rkP nx o a.i=o
theorem rk_step{nx:List (List Int)}{o Res:List Int}{F:Nat}(hn:negs o<F)(hr:rkN nx F o=Res):(rkP nx o o.length=o/\o=Res)∨(rkP nx o o.length≠o/\rkN nx (F-1) (rkP nx o o.length)=Res):=by
 obtain⟨F,rfl⟩:∃k,F=k+1:=⟨F-1,by omega⟩
 rw[rkN] at hr;by_cases hc:rkP nx o o.length=o
 .rw[if_pos hc] at hr;exact .inl ⟨hc,hr⟩
 .rw[if_neg hc] at hr;exact .inr ⟨hc,hr⟩
def stRkA(m:Mdl)(X:List Bool)(n nb:Nat)(box:Bxs)(tok:Tks)(nt:Nat)(i:Nat):AS :=
 ⟨tl [(42,.d (bools X)),(43,I n),(44,I i),(12,.ptr (nb+12) 0 0),(10,.ptr (nb+10) 0 0)],lb nb box [(36,rowsI (f1 X i)),(12,[[.msl (nb+36) 0 n 1]]),(10,[m.row])],tok,nt⟩
def stRkO(m:Mdl)(n nb:Nat)(box:Bxs)(tok:Tks)(nt:Nat)(a:RkO):AS :=
 ⟨tl [(15,B a.c),(12,.ptr (nb+12) 0 0),(10,.ptr (nb+10) 0 0)],lb nb box [(36,rowsI a.o),(12,[[.msl (nb+36) 0 n 1]]),(10,[m.row])],tok,nt⟩
def stRkI(m:Mdl)(o:List Int)(n nb:Nat)(box:Bxs)(tok:Tks)(nt:Nat)(a:RkX):AS :=
 ⟨tl [(59,I n),(60,I a.i),(15,B a.c),(12,.ptr (nb+12) 0 0),(10,.ptr (nb+10) 0 0)],lb nb box [(36,rowsI (rkP m.next o a.i)),(12,[[.msl (nb+36) 0 n 1]]),(10,[m.row])],tok,nt⟩
structure RkY where
 j:Nat
 o:List Int
def stRkJ(m:Mdl)(r:List Int)(i:Nat)(c:Bool)(n nb:Nat)(box:Bxs)(tok:Tks)(nt:Nat)(a:RkY):AS :=
 ⟨tl [(81,.d (ints r)),(82,I r.length),(83,I a.j),(16,I i),(59,I n),(60,I i),(15,B c),(12,.ptr (nb+12) 0 0),(10,.ptr (nb+10) 0 0)],lb nb box [(36,rowsI a.o),(12,[[.msl (nb+36) 0 n 1]]),(10,[m.row])],tok,nt⟩
set_option maxRecDepth 100000 in
theorem rank_c(m:Mdl)(n:Nat)(hm:m.Ok n)(hne:∀r∈m.next,r≠[])(f:Fo)(hsz:f.size<=1000000)(hf:f.Hok m)(hk:f.kind=10)(t1 t2 s1 s2 L:D)(tok:Tks)(nt:Nat)(hgv:DCall prog 90 [.agg [.d t1,.d t2],.agg [.d s1,.d s2],f.av,.d L] tok nt (.tup [m.av,I 0]) tok nt):
  DCall prog 40 [.agg [.d t1,.d t2],.agg [.d s1,.d s2],f.av,.d L] tok nt (.tup [.d (ints (rankR m (kidV m f 0))),I 0]) tok nt:=by
 intro box nb;obtain⟨ho1,ho2,ho3⟩:=hf.one;have h0:0<f.kids.length:=ho2 (by rw[hk];decide)
 have ih:=holdsT_c m n hm f.size _ (Fo.kid_size (List.getElem_mem h0)) (by have:=Fo.kid_size (List.getElem_mem h0);omega) (hf.kid (List.getElem_mem h0));have hln:=Fo.holds_len hm f.size _ (Fo.kid_size (List.getElem_mem h0)) (hf.kid (List.getElem_mem h0));have hkv:kidV m f 0=f.kids[0].holds m:=by simp[kidV,h0]
 have hle:=hm.le;have hpos:=hm.pos;have hnl:=hm.next;rw[hkv];obtain⟨X,hX⟩:∃X,f.kids[0].holds m=X:=⟨_,rfl⟩
 rw[hX] at ih hln ⊢;obtain⟨Res,hRes⟩:∃Res,rankR m X=Res:=⟨_,rfl⟩
 rw[hRes];unfold rankR at hRes;have b10:(f.kind != 10)=false:=by simp[hk]
 have hkl:=f.kids_len;refine sI func40 ntmps40 fun Hb Ht=>?_
 repeat first|simp|refine sR ?_
 refine sD (hgv) ?_;simp;try (simp[b10])
 repeat ((first|refine sR ?_|refine sC ?_|refine sX ?_);simp[b10])
 refine⟨by omega,?_⟩;try (simp[h0,Fo.cells_eq])
 repeat ((first|refine sR ?_|refine sC ?_|refine sX ?_);simp[h0,Fo.cells_eq])
 refine sD (ih _ _) ?_;simp;refine sN ?_;refine sL (stRkA m X n nb box tok nt) (fun i=>i<=X.length) (fun i=>X.length-i) 0 (Nat.zero_le _) (wM (nr _) rfl (by simp[ToL,lk,hnl,hln]) (by simp[BoxL,lk,f1_zero,hnl,hln])) ?_;rintro i S hi hS;simp only[stRkA] at hS;subst hS;have hw:=sW (i:=i) (by omega);repeat first|simp|refine sR ?_|refine sC ?_
 refine⟨fun hlt=>?_,fun hge=>?_⟩
 .have hi1:i<X.length:=by omega
  have hi2:i<(f1 X i).length:=by rw[f1_len hi];exact hi1
  have hi3:i<((f1 X i).set i (-1)).length:=by simpa using hi2
  have hset:=fun v=>f1_set (v:=v) hi1
  cases e1:X[i]
  .rw[e1] at hset;simp only[Bool.false_eq_true,↓reduceIte] at hset;have hset:=hset _ rfl;try (simp[hlt,hi1,hi2,e1,hset,hw])
   repeat ((first|refine sR ?_|refine sC ?_|refine sX ?_);simp[hlt,hi1,hi2,e1,hset,hw])
   refine sE ?_;exact⟨i+1,hi1,by omega,wkA⟩
  .rw[e1] at hset;simp only[↓reduceIte] at hset;have hset:=hset _ rfl;have hss:((f1 X i).set i (-1)).set i 0=f1 X (i+1):=by rw[List.set_set];exact hset
   try (simp[hlt,hi1,hi2,hi3,e1,hss,hw])
   repeat ((first|refine sR ?_|refine sC ?_|refine sX ?_);simp[hlt,hi1,hi2,hi3,e1,hss,hw])
   refine sE ?_;exact⟨i+1,hi1,by omega,wkA⟩
 .refine sX ?_;simp only[AU,↓reduceIte];have:i=X.length:=by omega
  subst this;rw[f1_all];try (simp)
  repeat ((first|refine sR ?_|refine sC ?_|refine sX ?_);simp)
  have hI0:=rk0_i X;rw[hln] at hI0;generalize far0 X=fr0 at *;refine sN ?_;refine sL (stRkO m n nb box tok nt) (fun a=>RkInv n m.next Res a) (fun a=>2*negs a.o+(if a.c=true then 1 else 0)) ⟨true,fr0⟩ ⟨hI0,by simp only[↓reduceIte];exact⟨_,Nat.lt_succ_self _,hRes⟩⟩ wkA ?_;rintro⟨c,o⟩ S hinv hS;simp only[stRkO] at hS;subst hS;obtain⟨hI,hinv⟩:=hinv;simp only at hI;have hol:=hI.len;cases c with
  | false =>
   simp only[Bool.false_eq_true,↓reduceIte] at hinv;subst hinv;try (simp)
   repeat ((first|refine sR ?_|refine sC ?_|refine sX ?_);simp)
   refine AL.weak (Weaks.frz (l':=[(9,I 0),(8,.d (ints o))]) (loc':=[]) 36 1 (rI o) (nr _) rfl (by simp[lk,rowsI_eq]) (by simp[lk]) (fun e he=>by obtain⟨b,_,rfl⟩:=List.mem_map.1 he;rfl) (by simp[ToL,lk,lb_at,hol]) (by simp[BoxL])) ?_;refine sT (sH Hb Ht ?_);simp
  | true =>
   simp only[↓reduceIte] at hinv;obtain⟨F,hF,hrk⟩:=hinv;have hstep:=rk_step hF hrk;try (simp)
   repeat ((first|refine sR ?_|refine sC ?_|refine sX ?_);simp)
   refine sN ?_;refine sL (stRkI m o n nb box tok nt) (fun a=>a.i<=n/\RkInvI n m.next o a) (fun a=>n-a.i) ⟨false,0⟩ ⟨Nat.zero_le _,hI,by simp only[Bool.false_eq_true,↓reduceIte];rfl⟩ (wM (nr _) rfl (by simp[ToL,lk,lb_at]) (by simp[BoxL,lk,rkP])) ?_;rintro⟨c,i⟩ S ⟨hi,hinv⟩ hS;simp only[stRkI] at hS hi;subst hS;obtain⟨hIc,hinv⟩:=hinv;simp only at hIc hinv;have hw:=sW (i:=i) (by omega);have hsucc:=rkP_succ m.next o i;obtain⟨cur,hcur⟩:∃cur,rkP m.next o i=cur:=⟨_,rfl⟩
   rw[hcur] at hsucc hIc hinv;rw[hcur];have hcl:=hIc.len;repeat first|simp|refine sR ?_|refine sC ?_
   refine⟨fun hlt=>?_,fun hge=>?_⟩
   .have hi1:i<cur.length:=by omega
    have hi3:i<m.next.length:=by omega
    have hgn:m.next.getD i []=m.next[i]:=by simp[hi3]
    have hg1:cur.getD i 0=cur[i]:=by simp[hi1]
    have hrR:=hm.nextR _ (List.getElem_mem hi3);have hrL:=hm.nextL _ (List.getElem_mem hi3);have hrN:=hne _ (List.getElem_mem hi3);unfold rkS at hsucc;rw[hgn,hg1] at hsucc;generalize hr:m.next[i]=r at *;by_cases c1:0<=cur[i]
    .have b1:decide (0<=cur[i])=true:=by simpa using c1
     simp only[c1,true_or,↓reduceIte] at hsucc;try (simp[hlt,hi1,hi3,c1,b1,hw])
     repeat ((first|refine sR ?_|refine sC ?_|refine sX ?_);simp[hlt,hi1,hi3,c1,b1,hw])
     refine sE ?_;refine⟨⟨c,i+1⟩,⟨hlt,by simp only;rw[hsucc];exact hIc,?_⟩,by simp only;omega,wM (nr _) rfl (by simp[ToL,lk,lb_at]) (by simp[BoxL,lk,hsucc])⟩;simp only;rw[hsucc];exact hinv
    .have b1:decide (0<=cur[i])=false:=by simpa using c1
     simp only[c1,false_or] at hsucc;have hcf:=containsFunc_c r 97 [.ptr (nb+12) 0 0] (fun k=>decide (fAt cur k<0)) (by omega) (lb nb box [(36,rowsI cur),(12,[[.msl (nb+36) 0 n 1]]),(10,[m.row])]) (nb+103) tok nt (by simp[lb_at,lk]) (fun k hk box' nb' he=>rkc_c cur n hcl k (hrR k hk) (nb+12) (nb+36) nb' box' tok nt (he _ _ (by simp[lb_at,lk])) (he _ _ (by simp[lb_at,lk])));have hany:anyB (fun k:Int=>decide (fAt cur k<0)) r=r.any fun k=>decide (fAt cur k<0):=rfl
     rw[hany] at hcf;try (simp[hlt,hi1,hi3,c1,b1,hr])
     repeat ((first|refine sR ?_|refine sC ?_|refine sX ?_);simp[hlt,hi1,hi3,c1,b1,hr])
     generalize hA:(r.any fun k=>decide (fAt cur k<0))=A at *;refine Stop.of_b (hcf) ?_;simp;cases A
     .simp only[Bool.false_eq_true,↓reduceIte] at hsucc;try (simp[hi3,hlt,hr])
      repeat ((first|refine sR ?_|refine sC ?_|refine sX ?_);simp[hi3,hlt,hr])
      have hk0:∀k∈r,0<=fAt cur k:=fun k hk=>by
       have:=List.any_eq_false.1 hA k hk
       simp at this;exact this
      have hneg:cur.getD i 0<0:=by rw[hg1];omega
      have hrl:0<r.length:=List.length_pos_iff.2 hrN
      obtain⟨E,hE⟩:∃E,r.foldl (rankK i) cur=E:=⟨_,rfl⟩
      rw[hE] at hsucc;refine sN ?_;refine sL (stRkJ m r i c n nb box tok nt) (fun a=>a.j<=r.length/\RkJ n cur i a.o a.j/\(r.drop a.j).foldl (rankK i) a.o=E) (fun a=>r.length-a.j) ⟨0,cur⟩ ⟨Nat.zero_le _,rkJ_zero hIc hlt,hE⟩ wkA ?_;rintro⟨j,o2⟩ S ⟨hj,hJ,hE2⟩ hS;simp only[stRkJ] at hS hj hJ hE2;subst hS;have hw2:=sW (i:=j) (by omega);repeat first|simp|refine sR ?_|refine sC ?_
      refine⟨fun hlt2=>?_,fun hge2=>?_⟩
      .have hxr:=hrR _ (List.getElem_mem hlt2);have hx0:=hk0 _ (List.getElem_mem hlt2);obtain⟨hJ2,hfk⟩:=rkJ_step hIc hlt hneg hJ hxr hx0;obtain⟨hx1,hx2⟩:=hxr;rw[List.drop_eq_getElem_cons hlt2,List.foldl_cons] at hE2;have hl2:=hJ.len;have hx3:r[j].toNat<o2.length:=by omega
       have hx4:i<o2.length:=by omega
       have hgk:fAt o2 r[j]=o2[r[j].toNat]:=by simp[fAt,hx3]
       have hgi:o2.getD i 0=o2[i]:=by simp[hx4]
       have hhi:=hIc.hi r[j].toNat (by omega);have hfc:fAt cur r[j]=cur.getD r[j].toNat 0:=rfl
       have hwk:IntKind.i64.wrap (o2[r[j].toNat]+1)=o2[r[j].toNat]+1:=wrap_in (by omega) (by omega)
       have hset:rankK i o2 r[j]=o2.set i (max o2[i] (o2[r[j].toNat]+1)):=by unfold rankK;rw[hgk,hgi]
       rw[hset] at hJ2 hE2;try (simp[hlt2,hlt,hx1,hx2,hx3,hx4,hwk,hw2])
       repeat ((first|refine sR ?_|refine sC ?_|refine sX ?_);simp[hlt2,hlt,hx1,hx2,hx3,hx4,hwk,hw2])
       refine sE ?_;exact⟨⟨j+1,o2.set i (max o2[i] (o2[r[j].toNat]+1))⟩,⟨hlt2,hJ2,hE2⟩,by simp only;omega,wkA⟩
      .refine sX ?_;simp only[AU,↓reduceIte];have:j=r.length:=by omega
       subst this;rw[List.drop_length,List.foldl_nil] at hE2;obtain⟨hI2,hng⟩:=rkJ_end hIc hlt hneg hJ hrl;rw[hE2] at hI2 hng ⊢;try (simp[hw])
       repeat ((first|refine sR ?_|refine sC ?_|refine sX ?_);simp[hw])
       refine sE ?_;refine⟨⟨true,i+1⟩,⟨hlt,by simp only;rw[hsucc];exact hI2,?_⟩,by simp only;omega,wM (nr _) rfl (by simp[ToL,lk,lb_at]) (by simp[BoxL,lk,hsucc])⟩;simp only[↓reduceIte];rw[hsucc];cases c with
       | false=>simp only[Bool.false_eq_true,↓reduceIte] at hinv;rw[hinv] at hng;omega
       | true=>simp only[↓reduceIte] at hinv;omega
     .simp only[↓reduceIte] at hsucc;try (simp[hw])
      repeat ((first|refine sR ?_|refine sC ?_|refine sX ?_);simp[hw])
      refine sE ?_;refine⟨⟨c,i+1⟩,⟨hlt,by simp only;rw[hsucc];exact hIc,?_⟩,by simp only;omega,wM (nr _) rfl (by simp[ToL,lk,lb_at]) (by simp[BoxL,lk,hsucc])⟩;simp only;rw[hsucc];exact hinv
   .refine sX ?_;simp only[AU,↓reduceIte];have:i=n:=by omega
    subst this;rw[hol] at hstep;rw[hcur] at hstep;cases c with
    | false =>
     simp only[Bool.false_eq_true,↓reduceIte] at hinv;subst hinv;rcases hstep with ⟨h1,h2⟩|⟨h1,h2⟩
     .try (simp)
      repeat ((first|refine sR ?_|refine sC ?_|refine sX ?_);simp)
      refine sE ?_;refine⟨⟨false,cur⟩,⟨hIc,?_⟩,by simp,wkA⟩;simp only[Bool.false_eq_true,↓reduceIte];exact h2
     .exact absurd rfl h1
    | true =>
     simp only[↓reduceIte] at hinv;rcases hstep with ⟨h1,h2⟩|⟨h1,h2⟩
     .rw[h1] at hinv;omega
     .try (simp)
      repeat ((first|refine sR ?_|refine sC ?_|refine sX ?_);simp)
      refine sE ?_;refine⟨⟨true,cur⟩,⟨hIc,?_⟩,by simp;omega,wkA⟩;simp only[↓reduceIte];exact⟨F-1,by omega,h2⟩
def enumL(ok:List Int->Nat->Bool)(m:Nat):Nat->List Int->List (List Int)
 | 0,L=>[L]
 | r+1,L=>(List.range m).flatMap fun k=>if ok L k=true then enumL ok m r (L++[(k:Int)]) else []
theorem take_app{α:Type}(n:Nat)(a b:List α):((a.take n)++b).take n=(a++b).take n:=by
 by_cases h:a.length<=n
 .rw[List.take_of_length_le h]
 .rw[List.take_append_of_le_length (by simp;omega),List.take_append_of_le_length (by omega),List.take_take,Nat.min_self]
theorem fold_take{α β:Type}(most:Nat)(g:List β->α->List β)(f:α->List β):∀(l:List α) (out:List β),(∀x∈l,∀out,out.length<=most->g out x=(out++f x).take most)->out.length<=most ->
  l.foldl g out=(out++l.flatMap f).take most
 | [],out,_,h=>by simp[List.take_of_length_le h]
 | x::l,out,hg,h=>by
  rw[List.foldl_cons,hg x (by simp) out h,fold_take most g f l _ (fun y hy=>hg y (by simp[hy])) (by simp;omega),take_app,List.flatMap_cons,List.append_assoc]
theorem full_take{β:Type}{most:Nat}{out:List β}(h:out.length=most)(l:List β):(out++l).take most=out:=by
 rw[List.take_append_of_le_length (by omega),List.take_of_length_le (by omega)]
def fndE(most:Nat)(ok:List Int->Nat->Bool)(m:Nat)(N:List Int):Nat->List Int->List Mo->List Mo
 | 0,E,out=>if out.length=most then out else out++[⟨N,E⟩]
 | r+1,E,out=>if out.length=most then out else (List.range m).foldl (fun out k=>if ok E k=true then fndE most ok m N r (E++[(k:Int)]) out else out) out
theorem fndE_eq(most:Nat)(ok:List Int->Nat->Bool)(m:Nat)(N:List Int):∀(r:Nat) (E:List Int) (out:List Mo),out.length<=most->fndE most ok m N r E out=(out++(enumL ok m r E).map (Mo.mk N)).take most
 | 0,E,out,h=>by
  unfold fndE;split
  .rename_i e;rw[full_take e]
  .rw[enumL,List.map_cons,List.map_nil,List.take_of_length_le (by simp;omega)]
 | r+1,E,out,h=>by
  unfold fndE;split
  .rename_i e;rw[full_take e]
  .rw[fold_take most _ (fun k=>if ok E k=true then (enumL ok m r (E++[(k:Int)])).map (Mo.mk N) else []) _ _ (fun k _ out ho=>by
    split
    .exact fndE_eq most ok m N r _ out ho
    .rw[List.append_nil,List.take_of_length_le ho]) h,enumL,List.map_flatMap]
   refine congrArg (fun f=>(out++List.flatMap f (List.range m)).take most) (funext fun k=>?_);split<;>simp
def fndN(most:Nat)(okN pos:List Int->Nat->Bool)(mn:Nat)(okE:List Int->List Int->Nat->Bool)(me re:Nat):Nat->List Int->List Mo->List Mo
 | 0,N,out=>fndE most (okE N) me N re [] out
 | r+1,N,out=>if out.length=most then out else (List.range mn).foldl (fun out k=>if okN N k=true then (if pos N k=true then fndN most okN pos mn okE me re r (N++[(k:Int)]) out else out) else out) out
def allF(okN:List Int->Nat->Bool)(mn:Nat)(okE:List Int->List Int->Nat->Bool)(me re:Nat)(r:Nat)(N:List Int):List Mo:=(enumL okN mn r N).flatMap fun N=>(enumL (okE N) me re []).map (Mo.mk N)
theorem allF_zero(okN:List Int->Nat->Bool)(mn:Nat)(okE:List Int->List Int->Nat->Bool)(me re:Nat)(N:List Int):allF okN mn okE me re 0 N=(enumL (okE N) me re []).map (Mo.mk N):=by simp[allF,enumL]
theorem allF_succ(okN:List Int->Nat->Bool)(mn:Nat)(okE:List Int->List Int->Nat->Bool)(me re:Nat)(r:Nat)(N:List Int):
  allF okN mn okE me re (r+1) N=(List.range mn).flatMap fun k=>if okN N k=true then allF okN mn okE me re r (N++[(k:Int)]) else []:=by
 unfold allF;rw[enumL,List.flatMap_assoc];congr 1
 funext k
 split<;>simp
theorem fndN_eq(most:Nat)(okN pos:List Int->Nat->Bool)(mn:Nat)(okE:List Int->List Int->Nat->Bool)(me re:Nat)(P:List Int->Prop)(hP:∀N k,P N->k<mn->okN N k=true->P (N++[(k:Int)]))(hpos:∀r N k,P N->okN N k=true->pos N k=false->allF okN mn okE me re r (N++[(k:Int)])=[]):∀(r:Nat) (N:List Int) (out:List Mo),P N->out.length<=most ->
  fndN most okN pos mn okE me re r N out=(out++allF okN mn okE me re r N).take most
 | 0,N,out,hN,h=>by rw[fndN,fndE_eq _ _ _ _ _ _ _ h,allF_zero]
 | r+1,N,out,hN,h=>by
  rw[fndN,allF_succ];split
  .rename_i e;rw[full_take e]
  .refine fold_take most _ _ _ _ (fun k hk out ho=>?_) h;have hk:=List.mem_range.1 hk;cases e:okN N k
   .simp[List.take_of_length_le ho]
   .simp only[if_true];cases e2:pos N k
    .simp only[Bool.false_eq_true,if_false];rw[hpos r N k hN e e2,List.append_nil,List.take_of_length_le ho]
    .simp only[if_true];exact fndN_eq most okN pos mn okE me re P hP hpos r _ out (hP N k hN hk e) ho
theorem fndE_len{most:Nat}{ok:List Int->Nat->Bool}{m:Nat}{N:List Int}{r:Nat}{E:List Int}{out:List Mo}(h:out.length<=most):(fndE most ok m N r E out).length<=most:=by
 rw[fndE_eq _ _ _ _ _ _ _ h];simp;omega
theorem enumL_mem{ok:List Int->Nat->Bool}{m:Nat}:∀{r:Nat} {L x:List Int},x∈enumL ok m r L↔∃T:List Nat,T.length=r/\(∀k∈T,k<m)/\x=L++T.map (fun (k:Nat)=>(k:Int))/\∀i (h:i<T.length),ok (L++(T.take i).map (fun (k:Nat)=>(k:Int))) T[i]=true
 | 0,L,x=>by
  rw[enumL,List.mem_singleton];constructor
  .rintro rfl;exact⟨[],rfl,by simp,by simp,fun i h=>by simp at h⟩
  .rintro⟨T,h1,_,h2,_⟩;have:T=[]:=List.eq_nil_of_length_eq_zero h1
   subst this;simpa using h2
 | r+1,L,x=>by
  rw[enumL,List.mem_flatMap];constructor
  .rintro⟨k,hk,hx⟩;split at hx
   .rename_i hok;obtain⟨T,h1,h2,rfl,h4⟩:=enumL_mem.1 hx;refine⟨k::T,by simp[h1],fun q hq=>?_,by simp,fun i hi=>?_⟩
    .rcases List.mem_cons.1 hq with rfl|hq
     .exact List.mem_range.1 hk
     .exact h2 q hq
    .cases i with
     | zero=>simpa using hok
     | succ i =>
      have:=h4 i (by simpa using hi)
      simpa using this
   .simp at hx
  .rintro⟨T,h1,h2,rfl,h4⟩;cases T with
   | nil=>simp at h1
   | cons k T =>
    refine⟨k,List.mem_range.2 (h2 k (by simp)),?_⟩;have h0:=h4 0 (by simp);simp only[List.take_zero,List.map_nil,List.append_nil,List.getElem_cons_zero] at h0;rw[if_pos h0];refine enumL_mem.2 ⟨T,by simpa using h1,fun q hq=>h2 q (by simp[hq]),by simp,fun i hi=>?_⟩;have:=h4 (i+1) (by simpa using hi)
    simpa using this
structure Sr where
 t:Ty
 p:Gr
 g:Gr
 pt:Mo
 inj:Bool
 most:Nat
abbrev Sr.row(s:Sr)(out:List Mo)(own:Own):List AV:=[.d (nts s.t.nodes),.d (ets s.t.edges),.d (ints s.p.nodes),.d (AM.edges s.p.edges),.d (ints s.g.nodes),.d (AM.edges s.g.edges),.d (ints s.pt.nodes),.d (ints s.pt.edges),B s.inj,I s.most,.osl 2 (out.map fun m=>[ints m.nodes,ints m.edges]) own]
structure Sr.Ok (s:Sr):Prop where
 t:s.t.Fit
 tp:∀j,j<s.t.nodes.length->(s.t.nd j).par<j
 p:s.p.Fit
 g:s.g.Fit
 m:s.most<=1000000
 vp:∀e∈s.p.edges,0<=e.fr/\e.fr<s.p.nodes.length/\0<=e.to/\e.to<s.p.nodes.length
 pn:s.pt.nodes.length=s.p.nodes.length
 pe:s.pt.edges.length=s.p.edges.length
 np:∀n∈s.p.nodes,0<=n/\n<s.t.nodes.length
 ng:∀n∈s.g.nodes,0<=n/\n<s.t.nodes.length
def gvB(l:List Int)(i k:Nat):Bool:=if 0<=l.getD i 0 then decide (l.getD i 0=(k:Int)) else true
def usB(inj:Bool)(L:List Int)(k:Nat):Bool:=if inj=true then decide ((k:Int)∈L) else false
def Sr.okE(s:Sr)(N E:List Int)(k:Nat):Bool :=
 if gvB s.pt.edges E.length k=true then (if usB s.inj E k=true then false else decide (s.g.edges.getD k default=wantX s.p N E.length)) else false
def Sr.okN(s:Sr)(N:List Int)(k:Nat):Bool :=
 if gvB s.pt.nodes N.length k=true then (if usB s.inj N k=true then false else isB s.t (s.g.nodes.getD k 0) (s.p.nodes.getD N.length 0)) else false
def Sr.eqE(s:Sr)(N:List Int)(i k:Nat):Bool:=decide (s.g.edges.getD k default=wantX s.p N i)
def Sr.anE(s:Sr)(N:List Int)(i k:Nat):Bool:=(List.range k).any (s.eqE N i)
def Sr.fitE(s:Sr)(N:List Int)(i:Nat):Bool :=
 if (N.length:Int)<=(s.p.edges.getD i default).fr then true else if (N.length:Int)<=(s.p.edges.getD i default).to then true else s.anE N i s.g.edges.length
def Sr.fit(s:Sr)(N:List Int):Bool:=(List.range s.p.edges.length).all (s.fitE N)
theorem Sr.fit_true{s:Sr}{N:List Int}(h:∀i,i<s.p.edges.length->s.fitE N i=true):s.fit N=true:=by
 unfold Sr.fit;rw[List.all_eq_true];exact fun i hi=>h i (List.mem_range.1 hi)
def Sr.fnR(s:Sr):Nat->List Int->List Mo->List Mo
 | 0,N,out=>if out.length=s.most+1 then out else if s.fit N=true then fndE (s.most+1) (s.okE N) s.g.edges.length N s.p.edges.length [] out else out
 | r+1,N,out=>if out.length=s.most+1 then out else if s.fit N=true then (List.range s.g.nodes.length).foldl (fun out k=>if s.okN N k=true then s.fnR r (N++[(k:Int)]) out else out) out else out
abbrev Sr.fnN(s:Sr):Nat->List Int->List Mo->List Mo:=fndN (s.most+1) s.okN (fun N k=>s.fit (N++[(k:Int)])) s.g.nodes.length s.okE s.g.edges.length s.p.edges.length
theorem Sr.fnR_eq(s:Sr):∀(r:Nat) (N:List Int) (out:List Mo),s.fnR r N out=if s.fit N=true then s.fnN r N out else out
 | 0,N,out=>by
  unfold Sr.fnR Sr.fnN fndN;by_cases h:out.length=s.most+1
  .rw[if_pos h];cases s.p.edges.length<;>simp[fndE,h]
  .rw[if_neg h]
 | r+1,N,out=>by
  unfold Sr.fnR Sr.fnN fndN;by_cases h:out.length=s.most+1
  .rw[if_pos h,if_pos h];simp
  .rw[if_neg h,if_neg h];have e:(fun (out:List Mo) (k:Nat)=>if s.okN N k=true then s.fnR r (N++[(k:Int)]) out else out)=fun out k=>if s.okN N k=true then (if s.fit (N++[(k:Int)])=true then s.fnN r (N++[(k:Int)]) out else out) else out:=by
    funext out k
    rw[Sr.fnR_eq s r]
   rw[e]
variable {P:Program} {wr:Bool}
def typN(t:Ty)(n:Int):Bool:=decide (0<=n/\n<t.nodes.length)
def typX(t:Ty)(e:E):Bool:=decide (0<=e.ty/\e.ty<t.edges.length)
def typG(t:Ty)(g:Gr):Bool:=g.nodes.all (typN t)&&g.edges.all (typX t)
def opM(p:Gr):Mo:=⟨List.replicate p.nodes.length (-1),List.replicate p.edges.length (-1)⟩
abbrev mosR(l:List Mo):List (List D):=l.map fun m=>[ints m.nodes,ints m.edges]
def givS(t:Ty)(p g:Gr):Int:=if tyE t≠0 then tyE t else if vG p≠0 then vG p else if vG g≠0 then vG g else if typG t p=false then 13 else if typG t g=false then 13 else 0
def allSr(t:Ty)(p g:Gr)(inj:Bool):Sr:=⟨t,p,g,opM p,inj,5000⟩
def allL(t:Ty)(p g:Gr)(inj:Bool):List Mo:=(allSr t p g inj).fnR p.nodes.length [] []
def allS(t:Ty)(p g:Gr)(inj:Bool):List Mo × Int:=if givS t p g≠0 then ([],givS t p g) else if 5000<(allL t p g inj).length then ([],3) else (allL t p g inj,0)
theorem typG_nodes{t:Ty}{g:Gr}(h:typG t g=true):∀n∈g.nodes,0<=n/\n<t.nodes.length:=by
 unfold typG at h;rw[Bool.and_eq_true] at h;intro n hn;have:=List.all_eq_true.1 h.1 n hn
 simpa[typN] using this
theorem givS_zero{t:Ty}{p g:Gr}(h:givS t p g=0):tyE t=0/\vG p=0/\vG g=0/\typG t p=true/\typG t g=true:=by
 unfold givS at h;split at h
 .contradiction
 .split at h
  .contradiction
  .split at h
   .contradiction
   .split at h
    .simp at h
    .split at h
     .simp at h
     .rename_i a b c d e;exact⟨by simpa using a,by simpa using b,by simpa using c,by simpa using d,by simpa using e⟩
theorem allSr_ok{t:Ty}{p g:Gr}{inj:Bool}(ht:t.Fit)(hp:p.Fit)(hg:g.Fit)(h:givS t p g=0):(allSr t p g inj).Ok:=by
 obtain⟨h1,h2,h3,h4,h5⟩:=givS_zero h;exact⟨ht,tyE_par h1,hp,hg,by simp[allSr],validG_edges h2,by simp[allSr,opM],by simp[allSr,opM],typG_nodes h4,typG_nodes h5⟩
theorem wantX_app{p:Gr}{N M:List Int}{i:Nat}(h1:(p.edges.getD i default).fr.toNat<N.length)(h2:(p.edges.getD i default).to.toNat<N.length):wantX p (N++M) i=wantX p N i:=by
 unfold wantX;generalize p.edges.getD i default=e at *;rw[List.getD_eq_getElem?_getD,List.getD_eq_getElem?_getD,List.getD_eq_getElem?_getD,List.getD_eq_getElem?_getD,List.getElem?_append_left h1,List.getElem?_append_left h2]
theorem Sr.fit_dead{s:Sr}(h:s.Ok){N:List Int}(hf:s.fit N=false)(r:Nat):allF s.okN s.g.nodes.length s.okE s.g.edges.length s.p.edges.length r N=[]:=by
 rw[List.eq_nil_iff_forall_not_mem];intro m hm;unfold allF at hm;obtain⟨N',hN',hm⟩:=List.mem_flatMap.1 hm;obtain⟨es,hes,rfl⟩:=List.mem_map.1 hm;obtain⟨T,t1,t2,rfl,t4⟩:=enumL_mem.1 hN';obtain⟨U,u1,u2,rfl,u4⟩:=enumL_mem.1 hes;unfold Sr.fit at hf;obtain⟨i,hi,hfi⟩:=List.all_eq_false.1 hf;have hi:=List.mem_range.1 hi;have hfi:s.fitE N i=false:=by simpa using hfi
 unfold Sr.fitE at hfi;have hgd:s.p.edges.getD i default=s.p.edges[i]:=by simp[hi]
 obtain⟨x1,x2,x3,x4⟩:=h.vp _ (List.getElem_mem hi);split at hfi
 .cases hfi
 .split at hfi
  .cases hfi
  .rename_i a b;rw[hgd] at a b;have hiU:i<U.length:=by omega
   have hu:=u4 i hiU;have hk:=u2 _ (List.getElem_mem hiU);unfold Sr.anE at hfi;have hno:=List.any_eq_false.1 hfi U[i] (List.mem_range.2 hk);unfold Sr.eqE at hno;unfold Sr.okE at hu;split at hu
   .split at hu
    .cases hu
    .have hl:(([]:List Int)++(U.take i).map (fun (k:Nat)=>(k:Int))).length=i:=by simp;omega
     rw[hl,wantX_app (by rw[hgd];omega) (by rw[hgd];omega)] at hu;exact hno hu
   .cases hu
theorem Sr.fit_nil{s:Sr}(h:s.Ok):s.fit []=true:=by
 refine Sr.fit_true fun i hi=>?_
 have hgd:s.p.edges.getD i default=s.p.edges[i]:=by simp[hi]
 obtain⟨x1,x2,x3,x4⟩:=h.vp _ (List.getElem_mem hi);unfold Sr.fitE;rw[if_pos (by rw[hgd];simpa using x1)]
theorem Sr.fnR_all{s:Sr}(h:s.Ok):s.fnR s.p.nodes.length [] []=(allF s.okN s.g.nodes.length s.okE s.g.edges.length s.p.edges.length s.p.nodes.length []).take (s.most+1):=by
 rw[Sr.fnR_eq,if_pos (Sr.fit_nil h)];have:=fndN_eq (s.most+1) s.okN (fun N k=>s.fit (N++[(k:Int)])) s.g.nodes.length s.okE s.g.edges.length s.p.edges.length (fun _=>True) (fun _ _ _ _ _=>trivial) (fun r N k _ _ hp=>Sr.fit_dead h hp r) s.p.nodes.length [] [] trivial (by simp)
 simpa using this
def Sr.fitK(s:Sr)(N:List Int)(i k:Nat):Bool:=if gvB s.pt.edges i k=true then decide (s.g.edges.getD k default=wantX s.p N i) else false
def Sr.posE(s:Sr)(N:List Int)(i:Nat):Bool :=
 if max (s.p.edges.getD i default).fr (s.p.edges.getD i default).to=(N.length:Int)-1 then (List.range s.g.edges.length).any (s.fitK N i) else true
def Sr.pos(s:Sr)(N:List Int):Bool:=(List.range s.p.edges.length).all (s.posE N)
theorem Sr.pos_false{s:Sr}{N:List Int}{i:Nat}(hi:i<s.p.edges.length)(h:s.posE N i=false):s.pos N=false:=by
 unfold Sr.pos;rw[List.all_eq_false];exact⟨i,List.mem_range.2 hi,by simp[h]⟩
theorem Sr.pos_true{s:Sr}{N:List Int}(h:∀i,i<s.p.edges.length->s.posE N i=true):s.pos N=true:=by
 unfold Sr.pos;rw[List.all_eq_true];exact fun i hi=>h i (List.mem_range.1 hi)
theorem Sr.okE_eq(s:Sr)(N E:List Int)(k:Nat):s.okE N E k=(s.fitK N E.length k&&!usB s.inj E k):=by
 unfold Sr.okE Sr.fitK;cases gvB s.pt.edges E.length k<;>cases usB s.inj E k<;>simp
theorem Sr.pos_dead{s:Sr}(h:s.Ok){N:List Int}(hf:s.pos N=false)(r:Nat):allF s.okN s.g.nodes.length s.okE s.g.edges.length s.p.edges.length r N=[]:=by
 rw[List.eq_nil_iff_forall_not_mem];intro m hm;unfold allF at hm;obtain⟨N',hN',hm⟩:=List.mem_flatMap.1 hm;obtain⟨es,hes,rfl⟩:=List.mem_map.1 hm;obtain⟨T,t1,t2,rfl,t4⟩:=enumL_mem.1 hN';obtain⟨U,u1,u2,rfl,u4⟩:=enumL_mem.1 hes;unfold Sr.pos at hf;obtain⟨i,hi,hfi⟩:=List.all_eq_false.1 hf;have hi:=List.mem_range.1 hi;have hfi:s.posE N i=false:=by simpa using hfi
 unfold Sr.posE at hfi;have hgd:s.p.edges.getD i default=s.p.edges[i]:=by simp[hi]
 obtain⟨x1,x2,x3,x4⟩:=h.vp _ (List.getElem_mem hi);split at hfi
 .rename_i hmx;rw[hgd] at hmx;have hiU:i<U.length:=by omega
  have hu:=u4 i hiU;have hk:=u2 _ (List.getElem_mem hiU);have hno:=List.any_eq_false.1 hfi U[i] (List.mem_range.2 hk);have hl:(([]:List Int)++(U.take i).map (fun (k:Nat)=>(k:Int))).length=i:=by simp;omega
  rw[Sr.okE_eq,hl] at hu;have hu:=(Bool.and_eq_true_iff.1 hu).1;unfold Sr.fitK at hu hno;rw[wantX_app (by rw[hgd];omega) (by rw[hgd];omega)] at hu;exact hno hu
 .cases hfi
abbrev Sr.fnP(s:Sr)(fm:Nat):Nat->List Int->List Mo->List Mo:=fndN fm s.okN (fun N k=>s.pos (N++[(k:Int)])) s.g.nodes.length s.okE s.g.edges.length s.p.edges.length
theorem Sr.fnP_eq{s:Sr}(h:s.Ok)(fm r:Nat)(N:List Int)(out:List Mo)(ho:out.length<=fm):s.fnP fm r N out=(out++allF s.okN s.g.nodes.length s.okE s.g.edges.length s.p.edges.length r N).take fm :=
 fndN_eq fm s.okN (fun N k=>s.pos (N++[(k:Int)])) s.g.nodes.length s.okE s.g.edges.length s.p.edges.length (fun _=>True) (fun _ _ _ _ _=>trivial) (fun r N k _ _ hp=>Sr.pos_dead h hp r) r N out trivial ho
theorem Sr.fnP_len{s:Sr}(h:s.Ok){fm r:Nat}{N:List Int}{out:List Mo}(ho:out.length<=fm):(s.fnP fm r N out).length<=fm:=by
 rw[Sr.fnP_eq h _ _ _ _ ho];simp;omega
theorem Sr.fnP_fnR{s:Sr}(h:s.Ok):s.fnP (s.most+1) s.p.nodes.length [] []=s.fnR s.p.nodes.length [] []:=by
 rw[Sr.fnR_all h,Sr.fnP_eq h _ _ _ _ (by simp)];simp
def belK(t:Ty)(a:Int)(i:Nat):List Int:=((List.range i).filter fun (b:Nat)=>isB t (b:Int) a).map fun (b:Nat)=>(b:Int)
theorem belK_zero(t:Ty)(a:Int):belK t a 0=[]:=rfl
theorem belK_succ(t:Ty)(a:Int)(i:Nat):belK t a (i+1)=if isB t i a=true then belK t a i++[(i:Int)] else belK t a i:=by
 unfold belK;rw[List.range_succ,List.filter_append,List.map_append];by_cases h:isB t i a=true<;>simp[h]
theorem belK_len(t:Ty)(a:Int)(i:Nat):(belK t a i).length<=i:=by
 unfold belK;rw[List.length_map];exact Nat.le_trans (List.length_filter_le _ _) (by simp)
theorem leafK1_c(x:NT)(y:Int)(box:Bxs)(nb k:Nat)(tok:Tks)(nt:Nat)(h1:box k=some [[I y]]):
  ACalls prog 170 [x.av,.ptr k 0 0] ⟨box,nb,tok,nt⟩ fun v m=>v=B (x.par==y)/\m=⟨box,nb,tok,nt⟩:=by
 refine sI func170 ntmps170 fun Hb Ht=>?_
 have k1n:=key_lt Hb h1;repeat first|simp[lO k1n,h1]|refine sR ?_
 refine sT (sH Hb Ht ?_);simp
theorem leafK_c(t:Ty)(ht:t.nodes.length<=1000000)(k:Int):DC 101 [t.av,I k] (B (leafB t k)):=by
 intro tok nt box nb;obtain⟨p,hpp⟩:∃p:NT->Bool,(fun n=>n.par==k)=p:=⟨_,rfl⟩
 have h2:=fun y box nb q hbk=>leafK1_c y k box nb q tok nt hbk
 have hpy:∀y:NT,(y.par==k)=p y:=fun y=>by rw[<-hpp]
 simp only[hpy] at h2;unfold leafB;rw[hpp];refine sI func101 ntmps101 fun Hb Ht=>?_
 repeat first|simp|refine sR ?_
 refine Stop.of_b (containsFuncN_c t.nodes 170 [.ptr (nb+3) 0 0] p ht _ _ _ _ (fun c hc=>by rw[List.mem_singleton.1 hc];simp[lb_at]) (fun y hy box' nb' he=>h2 y box' nb' _ (he _ _ (by simp[lb_at])))) ?_;repeat first|simp|refine sR ?_
 refine sT (sH Hb Ht ?_);simp
theorem leavesK1_c(t:Ty)(ht:t.Fit)(g:Gr)(e:E)(h0:0<=e.fr/\e.fr<g.nodes.length)(h2:0<=e.to/\e.to<g.nodes.length)(box:Bxs)(nb k1 k2:Nat)(tok:Tks)(nt:Nat)(h1:box k1=some [[.d (nts t.nodes),.d (ets t.edges)]])(h3:box k2=some [[.d (ints g.nodes),.d (AM.edges g.edges)]]):
  ACalls prog 136 [.agg [I e.ty,I e.fr,I e.to],.ptr k1 0 0,.ptr k2 0 0] ⟨box,nb,tok,nt⟩ fun v m=>v=B (!lvE t g e)/\m=⟨box,nb,tok,nt⟩:=by
 obtain⟨ty,fr,to'⟩:=e;simp only at h0 h2;obtain⟨a,rfl⟩:=Int.eq_ofNat_of_zero_le h0.1;obtain⟨b,rfl⟩:=Int.eq_ofNat_of_zero_le h2.1;have ha:a<g.nodes.length:=by omega
 have hb:b<g.nodes.length:=by omega
 have hc:=fits_c4 t ht ty g.nodes[a] g.nodes[b];have hL:lvE t g ⟨ty,a,b⟩=fitB t ty g.nodes[a] g.nodes[b]:=by simp[lvE,ha,hb]
 rw[hL];generalize fitB t ty g.nodes[a] g.nodes[b]=R at *;refine sI func136 ntmps136 fun Hb Ht=>?_
 have k1n:=key_lt Hb h1;have k2n:=key_lt Hb h3;repeat first|simp[lO k1n,lO k2n,h1,h3,ha,hb]|refine sR ?_
 refine sD (hc _ _) ?_;repeat first|simp|refine sR ?_
 refine sT (sH Hb Ht ?_);simp
def stKv(t:Ty)(g:Gr)(nb:Nat)(box:Bxs)(tok:Tks)(nt:Nat)(i:Nat):AS :=
 ⟨tl [(10,I i),(9,I g.nodes.length),(8,.d (ints g.nodes)),(3,.ptr (nb+3) 0 0),(2,.ptr (nb+2) 0 0)],lb nb box [(3,[[.d (ints g.nodes),.d (AM.edges g.edges)]]),(2,[[.d (nts t.nodes),.d (ets t.edges)]])],tok,nt⟩
theorem leavesK_c(t:Ty)(ht:t.Fit)(g:Gr)(hg:g.Fit)(hv:∀e∈g.edges,0<=e.fr/\e.fr<g.nodes.length/\0<=e.to/\e.to<g.nodes.length):DC 67 [t.av,g.av] (B (lvsB t g)):=by
 intro tok nt box nb;have hgn:=hg.n;have hge:=hg.e;have htn:=ht.n;obtain⟨N,hN⟩:∃N,lvsB t g=N:=⟨_,rfl⟩
 rw[hN];unfold lvsB at hN;refine sI func67 ntmps67 fun Hb Ht=>?_
 repeat first|simp|refine sR ?_
 refine sN ?_;refine sL (stKv t g nb box tok nt) (fun i=>i<=g.nodes.length/\allP (lvN t) (g.nodes.take i)=true) (fun i=>g.nodes.length-i) 0 ⟨Nat.zero_le _,by simp[allP]⟩ wkA ?_;rintro i S' ⟨hi,hok⟩ hS;simp only[stKv] at hS;subst hS;have hw:=sW (i:=i) (by omega);repeat first|simp|refine sR ?_|refine sC ?_
 refine⟨fun hlt=>?_,fun hge=>?_⟩
 .have hno:=fun h=>all_no (p:=lvN t) hlt h
  have hyes:=fun h=>all_more (p:=lvN t) hlt hok h
  have hl:lvN t g.nodes[i]=if (t.nodes.length:Int)<=g.nodes[i] then false else leafB t g.nodes[i]:=rfl
  have hc:=leafK_c t (by omega) g.nodes[i];by_cases e1:(t.nodes.length:Int)<=g.nodes[i]
  .rw[if_pos e1] at hl;rw[hno hl,if_neg (by simp)] at hN;repeat first|simp[hlt,e1]|refine sR ?_
   refine sC ?_;simp[e1];repeat first|simp|refine sR ?_
   refine sT (sH Hb Ht ?_);simp[<-hN]
  .rw[if_neg e1] at hl;repeat first|simp[hlt,e1]|refine sR ?_
   refine sD (hc _ _) ?_;simp;cases e2:leafB t g.nodes[i]
   .rw[e2] at hl;rw[hno hl,if_neg (by simp)] at hN;repeat first|simp|refine sR ?_
    refine sC ?_;repeat first|simp|refine sR ?_
    refine sT (sH Hb Ht ?_);simp[<-hN]
   .rw[e2] at hl;repeat first|simp[hw]|refine sR ?_|refine sC ?_
    refine sE ?_;exact⟨i+1,⟨hlt,hyes hl⟩,by omega,wkA⟩
 .refine sX ?_;simp only[AU,↓reduceIte];have:i=g.nodes.length:=by omega
  subst this;rw[List.take_length] at hok;rw[if_pos hok] at hN;obtain⟨p,hpp⟩:∃p:E->Bool,(fun e=>!lvE t g e)=p:=⟨_,rfl⟩
  have h2:=fun y (hy:y∈g.edges) box nb k1 k2 hk1 hk2=>leavesK1_c t ht g y ⟨(hv y hy).1,(hv y hy).2.1⟩ ⟨(hv y hy).2.2.1,(hv y hy).2.2.2⟩ box nb k1 k2 tok nt hk1 hk2
  have hpy:∀y:E,(!lvE t g y)=p y:=fun y=>by rw[<-hpp]
  simp only[hpy] at h2;have hN2:(!anyB p g.edges)=N:=by
   rw[<-hN,<-hpp,allP,anyB,List.any_eq_not_all_not,Bool.not_not];simp
  repeat first|simp|refine sR ?_
  have hcap:∀c∈[AV.ptr (nb+2) 0 0,AV.ptr (nb+3) 0 0],OkIn (fun k=>(lb nb box [(3,[[.d (ints g.nodes),.d (AM.edges g.edges)]]),(2,[[.d (nts t.nodes),.d (ets t.edges)]])]) k≠none) (fun _=>True) c:=by
   intro c hc;simp only[List.mem_cons,List.not_mem_nil,or_false] at hc;rcases hc with h|h
   .rw[h];simp[lb_at]
   .rw[h];simp[lb_at]
  refine Stop.of_b (containsFuncE_c g.edges 136 [.ptr (nb+2) 0 0,.ptr (nb+3) 0 0] p hg.e _ _ _ _ hcap (fun y hy box' nb' he=>h2 y hy box' nb' _ _ (he _ _ (by simp[lb_at])) (he _ _ (by simp[lb_at])))) ?_;repeat first|simp|refine sR ?_
  refine sT (sH Hb Ht ?_);simp[<-hN2]
def stIX(xs:List Xt)(f:FuncId)(caps:List AV)(nb:Nat)(box:Bxs)(tok:Tks)(nt:Nat)(i:Nat):AS:=⟨tl [(0,.d (xts xs)),(1,.fn (.func f) caps),(7,I xs.length),(8,I i)],lb nb box [],tok,nt⟩
theorem indexFuncX_c(xs:List Xt)(f:FuncId)(caps:List AV)(p:Xt->Bool)(hx:xs.length<=1000000)(box:Bxs)(nb:Nat)(tok:Tks)(nt:Nat)(hc:∀c∈caps,OkIn (fun k=>box k≠none) (fun _=>True) c)(hf:∀x∈xs,∀box' nb',Ext box box'->ACalls prog f (x.av::caps) ⟨box',nb',tok,nt⟩ fun v m=>v=B (p x)/\m=⟨box',nb',tok,nt⟩):
  ACalls prog 138 [.d (xts xs),.fn (.func f) caps] ⟨box,nb,tok,nt⟩ fun v m=>v=I (if anyB p xs=true then (xs.findIdx p:Nat) else -1)/\m=⟨box,nb,tok,nt⟩:=by
 refine sI func138 ntmps138 fun Hb Ht=>?_
 repeat first|simp|refine sR ?_
 refine sN ?_;refine sL (stIX xs f caps nb box tok nt) (fun i=>i<=xs.length/\∀x∈xs.take i,p x=false) (fun i=>xs.length-i) 0 ⟨Nat.zero_le _,by simp⟩ (wM (nr _) rfl (by simp[ToL];exact .same (okFn hc Hb [] (by simp) rfl _)) trivial) ?_;rintro i S' ⟨hi,htk⟩ hS;simp only[stIX] at hS;subst hS;have hw:=sW (i:=i) (by omega);repeat first|simp|refine sR ?_|refine sC ?_
 refine⟨fun hlt=>?_,fun hge=>?_⟩
 .have hfx:=hf xs[i] (List.getElem_mem _);have hpx:p xs[i]=true->anyB p xs=true/\(xs.findIdx p=i):=fun he=>any_takeG hlt htk he
  have hmore:p xs[i]=false->∀x∈xs.take (i+1),p x=false:=fun he x hx=>by
   rw[List.take_succ_eq_append_getElem hlt] at hx;rcases List.mem_append.1 hx with hx|hx
   .exact htk x hx
   .simp at hx;rw[hx];exact he
  repeat first|simp[hlt]|refine sR ?_
  generalize xs[i]=x at *;refine Stop.of_b (hfx _ _ ((Ext.refl box).lb Hb [])) ?_;simp;cases he:p x
  .refine sC ?_;simp;repeat first|simp[hw]|refine sR ?_
   refine sE ?_;refine⟨i+1,⟨hlt,?_⟩,by omega,wM (nr _) rfl (by simp[ToL];exact .same (okFn hc Hb [] (by simp) rfl _)) trivial⟩;exact hmore he
  .obtain⟨h1,h2⟩:=hpx he;refine sC ?_;repeat first|simp|refine sR ?_
   refine sT (sH Hb Ht ?_);simp[h1,h2]
 .have hn:anyB p xs=false:=by
   rw[List.take_of_length_le hge] at htk;simpa[anyB] using htk
  refine sX ?_;simp only[AU,↓reduceIte];repeat first|simp|refine sR ?_
  refine sT (sH Hb Ht ?_);simp[hn]
theorem containsFuncX_c(xs:List Xt)(f:FuncId)(caps:List AV)(p:Xt->Bool)(hx:xs.length<=1000000)(box:Bxs)(nb:Nat)(tok:Tks)(nt:Nat)(hc:∀c∈caps,OkIn (fun k=>box k≠none) (fun _=>True) c)(hf:∀x∈xs,∀box' nb',Ext box box'->ACalls prog f (x.av::caps) ⟨box',nb',tok,nt⟩ fun v m=>v=B (p x)/\m=⟨box',nb',tok,nt⟩):
  ACalls prog 68 [.d (xts xs),.fn (.func f) caps] ⟨box,nb,tok,nt⟩ fun v m=>v=B (anyB p xs)/\m=⟨box,nb,tok,nt⟩:=by
 obtain⟨A,hany⟩:∃A,anyB p xs=A:=⟨_,rfl⟩
 have hi:=fun b nb' h1 h2=>indexFuncX_c xs f caps p hx b nb' tok nt h1 h2
 rw[hany];simp only[hany] at hi;refine sI func68 ntmps68 fun Hb Ht=>?_
 repeat first|simp|refine sR ?_
 refine Stop.of_b (hi (lb nb box []) _ (fun c h=>(hc c h).mono (fun k hk=>by rw[Hb];exact hk) fun _ h=>h) (fun x hx' box' nb' he=>hf x hx' box' nb' (by rw[Hb] at he;exact he))) ?_;simp;cases A
 .repeat first|simp|refine sR ?_
  refine sT (sH Hb Ht ?_);simp
 .have h0:(0:Int)<=(xs.findIdx p:Nat):=by omega
  repeat first|simp|refine sR ?_
  refine sT (sH Hb Ht ?_);simp[h0]
theorem lrgK_c(g:Gr)(hg:g.Fit):DC 123 [g.av] (B (lrgB g)):=by
 intro tok nt box nb;have hn:=hg.n;have he:=hg.e;obtain⟨N,hN⟩:∃N,lrgB g=N:=⟨_,rfl⟩
 rw[hN];unfold lrgB at hN;by_cases e1:6<g.nodes.length
 .have e1':(6:Int)<g.nodes.length:=by omega
  rw[if_pos e1] at hN;refine sI func123 ntmps123 fun Hb Ht=>?_
  try (simp[e1,e1'])
  repeat ((first|refine sR ?_|refine sC ?_|refine sX ?_);simp[e1,e1'])
  refine sT (sH Hb Ht ?_);simp[<-hN]
 .have e1':¬(6:Int)<g.nodes.length:=by omega
  rw[if_neg e1] at hN;by_cases e2:8<g.edges.length
  .have e2':(8:Int)<g.edges.length:=by omega
   rw[decide_eq_true e2] at hN;refine sI func123 ntmps123 fun Hb Ht=>?_
   try (simp[e1,e1',e2,e2'])
   repeat ((first|refine sR ?_|refine sC ?_|refine sX ?_);simp[e1,e1',e2,e2'])
   refine sT (sH Hb Ht ?_);simp[<-hN,e2']
  .have e2':¬(8:Int)<g.edges.length:=by omega
   rw[decide_eq_false e2] at hN;refine sI func123 ntmps123 fun Hb Ht=>?_
   try (simp[e1,e1',e2,e2'])
   repeat ((first|refine sR ?_|refine sC ?_|refine sX ?_);simp[e1,e1',e2,e2'])
   refine sT (sH Hb Ht ?_);simp[<-hN,e2']
theorem kd_cases(c:Co):(c.kind=1/\c.exts=[]/\kdE c=0)∨(c.kind=1/\c.exts≠[]/\kdE c=1)∨(c.kind=2/\c.exts=[]/\kdE c=7)∨(c.kind=2/\c.exts≠[]/\6<c.exts.length/\kdE c=3)∨(c.kind=2/\c.exts≠[]/\¬6<c.exts.length/\kdE c=0)∨(c.kind≠1/\c.kind≠2/\kdE c=1):=by
 unfold kdE;by_cases h1:c.kind=1
 .by_cases h2:c.exts=[]<;>simp[h1,h2]
 .by_cases h2:c.kind=2
  .by_cases h3:c.exts=[]
   .simp[h2,h3]
   .by_cases h4:6<c.exts.length<;>simp[h2,h3,h4]
  .simp[h1,h2]
def stSx(c:Co)(nb:Nat)(box:Bxs)(tok:Tks)(nt:Nat)(i:Nat):AS :=
 ⟨tl [(59,I i),(58,I c.exts.length),(57,.d (xts c.exts)),(1,.ptr (nb+1) 0 0)],lb nb box [(1,[c.row])],tok,nt⟩
theorem shpK_c(c:Co)(hc:c.Fit):DC 60 [c.av] (I (shpE c)):=by
 intro tok nt box nb;have h1:=isName_c c.name hc.name;have h2:=graphValid_c c.g hc.g;have h3:=lrgK_c c.g hc.g;have hxn:=hc.n;obtain⟨N,hN⟩:∃N,shpE c=N:=⟨_,rfl⟩
 rw[hN];unfold shpE at hN;generalize nameB c.name=B1 at *;generalize vG c.g=E2 at *;generalize lrgB c.g=B3 at *;cases B1
 .rw[if_pos rfl] at hN;refine sI func60 ntmps60 fun Hb Ht=>?_
  repeat first|simp|refine sR ?_
  refine sD (h1 _ _) ?_;simp;try (simp)
  repeat ((first|refine sR ?_|refine sC ?_|refine sX ?_);simp)
  refine sT (sH Hb Ht ?_);simp[<-hN]
 .rw[if_neg (by simp)] at hN;have xp:=fun (h:c.exts≠[])=>List.length_pos_iff.2 h
  rcases kd_cases c with ⟨k1,x1,kd⟩|⟨k1,x1,kd⟩|⟨k1,x1,kd⟩|⟨k1,x1,x2,kd⟩|⟨k1,x1,x2,kd⟩|⟨k1,k2,kd⟩
  .rw[if_neg (by rw[kd];decide)] at hN;refine sI func60 ntmps60 fun Hb Ht=>?_
   repeat first|simp|refine sR ?_
   refine sD (h1 _ _) ?_;simp;try (simp[k1,x1])
   repeat ((first|refine sR ?_|refine sC ?_|refine sX ?_);simp[k1,x1])
   refine sD (h2 _ _) ?_;repeat first|simp|refine sR ?_
   by_cases v0:E2=0
   .rw[if_neg (by simp[v0])] at hN;refine sC ?_;simp[v0];repeat first|simp|refine sR ?_
    refine sD (h3 _ _) ?_;simp;cases B3
    .rw[if_neg (by simp)] at hN;repeat first|simp|refine sR ?_
     refine sC ?_;repeat first|simp|refine sR ?_
     refine sN ?_;refine sL (stSx c nb box tok nt) (fun i=>i<=c.exts.length/\firstE (xtAt c) i=0) (fun i=>c.exts.length-i) 0 ⟨Nat.zero_le _,rfl⟩ wkA ?_;rintro i S' ⟨hi,hok⟩ hS;simp only[stSx] at hS;subst hS;have hw:=sW (i:=i) (by omega);repeat first|simp|refine sR ?_|refine sC ?_
     refine⟨fun hlt=>?_,fun hge=>?_⟩
     .have hx:=hc.exts _ (List.getElem_mem hlt);have hR:xtAt c i≠0->firstE (xtAt c) c.exts.length=xtAt c i:=fun h0=>firstE_stop hok h0 _ hlt
      have hnx:xtAt c i=0->firstE (xtAt c) (i+1)=0:=fun h0=>by simp only[firstE,hok,h0,↓reduceIte]
      have hd:xtAt c i=xtE c.g c.exts[i]:=xtAt_at hlt
      unfold xtE at hd;have c1:=valid51_c c.g c.exts[i].g c.exts[i].m hc.g hx.g;have c2:=lrgK_c c.exts[i].g hx.g;have c3:=injective56_c c.g c.exts[i].g c.exts[i].m hc.g hx.g hx.m;generalize xtAt c i=E at *;repeat first|simp[hlt]|refine sR ?_
      refine sD (c1 _ _) ?_;repeat first|simp|refine sR ?_
      by_cases f1:validM c.g c.exts[i].g c.exts[i].m=0
      .rw[if_neg (by simp[f1])] at hd;simp only[f1];refine sC ?_;repeat first|simp|refine sR ?_
       refine sD (c2 _ _) ?_;simp;cases f2:lrgB c.exts[i].g
       .rw[f2,if_neg (by simp)] at hd;repeat first|simp|refine sR ?_
        refine sC ?_;repeat first|simp|refine sR ?_
        refine sD (c3 _ _) ?_;simp;cases f3:injM c.g c.exts[i].g c.exts[i].m
        .rw[f3,if_neg (by simp)] at hd;rw[hR (by rw[hd];decide),hd] at hN;repeat first|simp|refine sR ?_
         refine sC ?_;repeat first|simp|refine sR ?_
         refine sT (sH Hb Ht ?_);simp[<-hN]
        .rw[f3,if_pos rfl] at hd;repeat first|simp[hw]|refine sR ?_|refine sC ?_
         refine sE ?_;exact⟨i+1,⟨hlt,hnx hd⟩,by omega,wkA⟩
       .rw[f2,if_pos rfl] at hd;rw[hR (by rw[hd];decide),hd] at hN;repeat first|simp|refine sR ?_
        refine sC ?_;repeat first|simp|refine sR ?_
        refine sT (sH Hb Ht ?_);simp[<-hN]
      .rw[if_pos f1] at hd;have b1:(validM c.g c.exts[i].g c.exts[i].m != 0)=true:=by simp[f1]
       rw[hR (by rw[hd];exact f1),hd] at hN;simp only[b1];refine sC ?_;repeat first|simp|refine sR ?_
       refine sT (sH Hb Ht ?_);simp[<-hN]
     .refine sX ?_;simp only[AU,↓reduceIte];have:i=c.exts.length:=by omega
      subst this;rw[hok] at hN;repeat first|simp|refine sR ?_
      refine sT (sH Hb Ht ?_);simp[<-hN]
    .rw[if_pos rfl] at hN;repeat first|simp|refine sR ?_
     refine sC ?_;repeat first|simp|refine sR ?_
     refine sT (sH Hb Ht ?_);simp[<-hN]
   .have b0:(E2 != 0)=true:=by simp[v0]
    rw[if_pos v0] at hN;refine sC ?_;simp[v0,b0];repeat first|simp|refine sR ?_
    refine sT (sH Hb Ht ?_);simp[<-hN]
  .rw[if_pos (by rw[kd];decide),kd] at hN;have x1':=xp x1
   refine sI func60 ntmps60 fun Hb Ht=>?_
   repeat first|simp|refine sR ?_
   refine sD (h1 _ _) ?_;simp;try (simp[k1,x1,x1'])
   repeat ((first|refine sR ?_|refine sC ?_|refine sX ?_);simp[k1,x1,x1'])
   refine sT (sH Hb Ht ?_);simp[<-hN]
  .rw[if_pos (by rw[kd];decide),kd] at hN;refine sI func60 ntmps60 fun Hb Ht=>?_
   repeat first|simp|refine sR ?_
   refine sD (h1 _ _) ?_;simp;try (simp[k1,x1])
   repeat ((first|refine sR ?_|refine sC ?_|refine sX ?_);simp[k1,x1])
   refine sT (sH Hb Ht ?_);simp[<-hN]
  .rw[if_pos (by rw[kd];decide),kd] at hN;have x2':(6:Int)<c.exts.length:=by omega
   refine sI func60 ntmps60 fun Hb Ht=>?_
   repeat first|simp|refine sR ?_
   refine sD (h1 _ _) ?_;simp;try (simp[k1,x1,x2,x2'])
   repeat ((first|refine sR ?_|refine sC ?_|refine sX ?_);simp[k1,x1,x2,x2'])
   refine sT (sH Hb Ht ?_);simp[<-hN]
  .rw[if_neg (by rw[kd];decide)] at hN;have x2':¬(6:Int)<c.exts.length:=by omega
   refine sI func60 ntmps60 fun Hb Ht=>?_
   repeat first|simp|refine sR ?_
   refine sD (h1 _ _) ?_;simp;try (simp[k1,x1,x2,x2'])
   repeat ((first|refine sR ?_|refine sC ?_|refine sX ?_);simp[k1,x1,x2,x2'])
   refine sD (h2 _ _) ?_;repeat first|simp|refine sR ?_
   by_cases v0:E2=0
   .rw[if_neg (by simp[v0])] at hN;refine sC ?_;simp[v0];repeat first|simp|refine sR ?_
    refine sD (h3 _ _) ?_;simp;cases B3
    .rw[if_neg (by simp)] at hN;repeat first|simp|refine sR ?_
     refine sC ?_;repeat first|simp|refine sR ?_
     refine sN ?_;refine sL (stSx c nb box tok nt) (fun i=>i<=c.exts.length/\firstE (xtAt c) i=0) (fun i=>c.exts.length-i) 0 ⟨Nat.zero_le _,rfl⟩ wkA ?_;rintro i S' ⟨hi,hok⟩ hS;simp only[stSx] at hS;subst hS;have hw:=sW (i:=i) (by omega);repeat first|simp|refine sR ?_|refine sC ?_
     refine⟨fun hlt=>?_,fun hge=>?_⟩
     .have hx:=hc.exts _ (List.getElem_mem hlt);have hR:xtAt c i≠0->firstE (xtAt c) c.exts.length=xtAt c i:=fun h0=>firstE_stop hok h0 _ hlt
      have hnx:xtAt c i=0->firstE (xtAt c) (i+1)=0:=fun h0=>by simp only[firstE,hok,h0,↓reduceIte]
      have hd:xtAt c i=xtE c.g c.exts[i]:=xtAt_at hlt
      unfold xtE at hd;have c1:=valid51_c c.g c.exts[i].g c.exts[i].m hc.g hx.g;have c2:=lrgK_c c.exts[i].g hx.g;have c3:=injective56_c c.g c.exts[i].g c.exts[i].m hc.g hx.g hx.m;generalize xtAt c i=E at *;repeat first|simp[hlt]|refine sR ?_
      refine sD (c1 _ _) ?_;repeat first|simp|refine sR ?_
      by_cases f1:validM c.g c.exts[i].g c.exts[i].m=0
      .rw[if_neg (by simp[f1])] at hd;simp only[f1];refine sC ?_;repeat first|simp|refine sR ?_
       refine sD (c2 _ _) ?_;simp;cases f2:lrgB c.exts[i].g
       .rw[f2,if_neg (by simp)] at hd;repeat first|simp|refine sR ?_
        refine sC ?_;repeat first|simp|refine sR ?_
        refine sD (c3 _ _) ?_;simp;cases f3:injM c.g c.exts[i].g c.exts[i].m
        .rw[f3,if_neg (by simp)] at hd;rw[hR (by rw[hd];decide),hd] at hN;repeat first|simp|refine sR ?_
         refine sC ?_;repeat first|simp|refine sR ?_
         refine sT (sH Hb Ht ?_);simp[<-hN]
        .rw[f3,if_pos rfl] at hd;repeat first|simp[hw]|refine sR ?_|refine sC ?_
         refine sE ?_;exact⟨i+1,⟨hlt,hnx hd⟩,by omega,wkA⟩
       .rw[f2,if_pos rfl] at hd;rw[hR (by rw[hd];decide),hd] at hN;repeat first|simp|refine sR ?_
        refine sC ?_;repeat first|simp|refine sR ?_
        refine sT (sH Hb Ht ?_);simp[<-hN]
      .rw[if_pos f1] at hd;have b1:(validM c.g c.exts[i].g c.exts[i].m != 0)=true:=by simp[f1]
       rw[hR (by rw[hd];exact f1),hd] at hN;simp only[b1];refine sC ?_;repeat first|simp|refine sR ?_
       refine sT (sH Hb Ht ?_);simp[<-hN]
     .refine sX ?_;simp only[AU,↓reduceIte];have:i=c.exts.length:=by omega
      subst this;rw[hok] at hN;repeat first|simp|refine sR ?_
      refine sT (sH Hb Ht ?_);simp[<-hN]
    .rw[if_pos rfl] at hN;repeat first|simp|refine sR ?_
     refine sC ?_;repeat first|simp|refine sR ?_
     refine sT (sH Hb Ht ?_);simp[<-hN]
   .have b0:(E2 != 0)=true:=by simp[v0]
    rw[if_pos v0] at hN;refine sC ?_;simp[v0,b0];repeat first|simp|refine sR ?_
    refine sT (sH Hb Ht ?_);simp[<-hN]
  .rw[if_pos (by rw[kd];decide),kd] at hN;have b1:(c.kind==1)=false:=by simp[k1]
   have b2:(c.kind==2)=false:=by simp[k2]
   have b3:(c.kind != 1)=true:=by simp[k1]
   have b4:(c.kind != 2)=true:=by simp[k2]
   refine sI func60 ntmps60 fun Hb Ht=>?_
   repeat first|simp|refine sR ?_
   refine sD (h1 _ _) ?_;simp;try (simp[k1,k2,b1,b2,b3,b4])
   repeat ((first|refine sR ?_|refine sC ?_|refine sX ?_);simp[k1,k2,b1,b2,b3,b4])
   refine sT (sH Hb Ht ?_);simp[<-hN]
theorem validK1_c(t:Ty)(ht:t.Fit)(x:Xt)(hx:x.g.Fit)(hv:∀e∈x.g.edges,0<=e.fr/\e.fr<x.g.nodes.length/\0<=e.to/\e.to<x.g.nodes.length)(box:Bxs)(nb k1:Nat)(tok:Tks)(nt:Nat)(h1:box k1=some [[.d (nts t.nodes),.d (ets t.edges)]]):
  ACalls prog 69 [x.av,.ptr k1 0 0] ⟨box,nb,tok,nt⟩ fun v m=>v=B (!lvsB t x.g)/\m=⟨box,nb,tok,nt⟩:=by
 have hc:=leavesK_c t ht x.g hx hv;generalize lvsB t x.g=R at *;refine sI func69 ntmps69 fun Hb Ht=>?_
 have k1n:=key_lt Hb h1;repeat first|simp[lO k1n,h1]|refine sR ?_
 refine sD (hc _ _) ?_;repeat first|simp|refine sR ?_
 refine sT (sH Hb Ht ?_);simp
theorem validK_c(t:Ty)(ht:t.Fit)(c:Co)(hc:c.Fit):DC 17 [t.av,c.av] (I (cnE t c)):=by
 intro tok nt box nb;have h1:=valid_c4 t ht ht.hM;have h2:=shpK_c c hc;have hv:=@shpE_zero c;obtain⟨N,hN⟩:∃N,cnE t c=N:=⟨_,rfl⟩
 rw[hN];unfold cnE at hN;generalize tyE t=E at *;generalize tyN t=Z at *;generalize shpE c=S at *;refine sI func17 ntmps17 fun Hb Ht=>?_
 repeat first|simp|refine sR ?_
 refine sD (h1 _ _) ?_;repeat first|simp|refine sR ?_
 by_cases e1:E=0
 .rw[if_neg (by simp[e1])] at hN;refine sC ?_;simp[e1];repeat first|simp|refine sR ?_
  refine sD (h2 _ _) ?_;repeat first|simp|refine sR ?_
  by_cases e2:S=0
  .rw[if_neg (by simp[e2])] at hN;obtain⟨_,_,v1,_,v2⟩:=hv e2;have l1:=leavesK_c t ht c.g hc.g (validG_edges v1);have l2:=fun x (hx:x∈c.exts)=>validK1_c t ht x (hc.exts x hx).g (validG_edges (validM_VM (v2 x hx).1).vb)
   unfold lvX at hN;refine sC ?_;simp[e2];repeat first|simp|refine sR ?_
   refine sD (l1 _ _) ?_;simp;cases e3:lvsB t c.g
   .rw[e3,if_neg (by simp)] at hN;repeat first|simp|refine sR ?_
    refine sC ?_;repeat first|simp|refine sR ?_
    refine sT (sH Hb Ht ?_);simp[<-hN]
   .rw[e3,if_pos rfl] at hN;obtain⟨p,hpp⟩:∃p:Xt->Bool,(fun x:Xt=>!lvsB t x.g)=p:=⟨_,rfl⟩
    have hpy:∀y:Xt,(!lvsB t y.g)=p y:=fun y=>by rw[<-hpp]
    simp only[hpy] at l2;have hN2:(!anyB p c.exts)=allP (fun x:Xt=>lvsB t x.g) c.exts:=by
     rw[<-hpp,allP,anyB,List.any_eq_not_all_not,Bool.not_not];simp
    rw[<-hN2] at hN;repeat first|simp|refine sR ?_
    refine Stop.of_b (containsFuncX_c c.exts 69 [.ptr (nb+2) 0 0] p hc.n _ _ _ _ (fun c hc=>by rw[List.mem_singleton.1 hc];simp[lb_at]) (fun y hy box' nb' he=>l2 y hy box' nb' _ _ _ (he _ _ (by simp[lb_at])))) ?_;simp;cases e4:anyB p c.exts
    .rw[e4,Bool.not_false,if_pos rfl] at hN;repeat first|simp|refine sR ?_
     refine sC ?_;repeat first|simp|refine sR ?_
     refine sT (sH Hb Ht ?_);simp[<-hN]
    .rw[e4,Bool.not_true,if_neg (by simp)] at hN;repeat first|simp|refine sR ?_
     refine sC ?_;repeat first|simp|refine sR ?_
     refine sT (sH Hb Ht ?_);simp[<-hN]
  .rw[if_pos e2] at hN;have b2:(S != 0)=true:=by simp[e2]
   refine sC ?_;simp[b2];repeat first|simp|refine sR ?_
   refine sT (sH Hb Ht ?_);simp[<-hN]
 .rw[if_pos e1] at hN;have b1:(E != 0)=true:=by simp[e1]
  refine sC ?_;simp[b1];repeat first|simp|refine sR ?_
  refine sT (sH Hb Ht ?_);simp[<-hN]
def xC(m:Mo)(g:Gr)(k:Cd):Cd:=.mk 5 [k] m g [] 0 []
def cndC(c:Co):Cd:=cdOf 2 [xC ⟨[],[]⟩ c.g (if c.kind=1 then cdOf 1 [] else cdOf 2 [cdOf 4 (c.exts.map fun x=>xC x.m x.g (cdOf 1 []))])]
def condR(c:Co):Cd × Int:=if shpE c≠0 then (cdOf 0 [],shpE c) else (cndC c,0)
def belR(t:Ty)(a:Int):List Int × Int:=if givE t [a]≠0 then ([],givE t [a]) else (belK t a t.nodes.length,0)
theorem givE_leaf{t:Ty}(h:tyE t=0){a:Int}(h0:0<=a):givE t [a]=if (t.nodes.length:Int)<=a then 6 else 0:=by
 unfold givE;rw[if_pos h];by_cases h1:(t.nodes.length:Int)<=a
 .have:¬a<t.nodes.length:=by omega
  simp[anyB,insB,h1,this]
 .have:a<t.nodes.length:=by omega
  simp[anyB,insB,h1,this,h0]
def stBw(t:Ty)(a:Int)(nb:Nat)(box:Bxs)(x:Acc):AS :=
 ⟨tl [(19,I x.i),(18,I t.nodes.length),(7,.osl 1 (rI (belK t a x.i)) x.own),(1,I a),(2,.ptr (nb+2) 0 0)],lb nb box [(2,[[.d (nts t.nodes),.d (ets t.edges)]])],x.tok,x.nt⟩
theorem below_c(t:Ty)(ht:t.Fit)(a:Int):DC 304 [t.av,I a] (.tup [.d (ints (belR t a).1),I (belR t a).2]):=by
 intro tok nt box nb;have htn:=ht.n;have h1:=given_c t ht [a] (by simp);have hin:=@givE_in t [a];obtain⟨N,hN⟩:∃N,belR t a=N:=⟨_,rfl⟩
 rw[hN];unfold belR at hN;generalize givE t [a]=E at *;refine sI func304 ntmps304 fun Hb Ht=>?_
 repeat first|simp|refine sR ?_
 refine Stop.data ?_;refine sD (h1 _ _) ?_;repeat first|simp|refine sR ?_
 by_cases e1:E=0
 .rw[if_neg (by simp[e1])] at hN;have hp:=tyE_par (hin e1).1;refine sC ?_;simp[e1];repeat first|simp|refine sR ?_
  refine sN ?_;refine sL (stBw t a nb box) (fun x=>x.i<=t.nodes.length/\TK tok nt x.tok x.nt [x.own]) (fun x=>t.nodes.length-x.i) ⟨0,.full,tok,nt⟩ ⟨Nat.zero_le _,(TK.start Ht).full⟩ (wM (nr _) rfl (by simp[ToL,lk,belK_zero]) (by simp[BoxL,lk])) ?_;rintro⟨i,own,tok',nt'⟩ S ⟨hi,htk⟩ hS;simp only[stBw] at hS hi htk;subst hS;have hw:=sW (i:=i) (by omega);have hlen:=belK_len t a i;have hsc:=belK_succ t a i;repeat first|simp|refine sR ?_|refine sC ?_
  refine⟨fun hlt=>?_,fun hge=>?_⟩
  .have hc:=is_c t ht i a (by omega) (by omega) hp;generalize belK t a i=L at *;repeat first|simp[hlt]|refine sR ?_
   refine sD (hc _ _) ?_;simp;cases e2:isB t i a
   .rw[e2,if_neg (by simp)] at hsc;repeat first|simp[hw]|refine sR ?_|refine sC ?_
    refine sE ?_;exact⟨⟨i+1,own,tok',nt'⟩,⟨hlt,htk⟩,by simp only;omega,wM htk.le rfl (by simp[ToL,lk,hsc]) (by simp[BoxL,lk])⟩
   .rw[e2,if_pos rfl] at hsc;repeat first|simp|refine sR ?_
    refine sC ?_;repeat first|simp|refine sR ?_
    refine⟨⟨by omega,htk.live⟩,?_⟩;repeat first|simp[hw]|refine sR ?_
    refine sE ?_;exact⟨⟨i+1,_,_,_⟩,⟨hlt,htk.app⟩,by simp only;omega,wM htk.app.le rfl (by simp[ToL,lk,hsc]) (by simp[BoxL,lk])⟩
  .refine sX ?_;simp only[AU,↓reduceIte];have:i=t.nodes.length:=by omega
   subst this;repeat first|simp|refine sR ?_
   refine sT (sG Hb Ht htk.old htk.le ?_);simp[<-hN]
 .rw[if_pos e1] at hN;have b1:(E != 0)=true:=by simp[e1]
  refine sC ?_;simp[b1];repeat first|simp|refine sR ?_
  refine sT (sH Hb Ht ?_);simp[<-hN,ints]
abbrev blB(l:List Bool):D:=.sl 1 (l.map fun b=>[D.raw (.bool b)])
def isRow(t:Ty)(a:Nat):List Bool:=(List.range t.nodes.length).map fun (b:Nat)=>isB t (b:Int) (a:Int)
def isTb(t:Ty):List (List Bool):=(List.range t.nodes.length).map (isRow t)
def isD(t:Ty):D:=.sl 1 ((isTb t).map fun r=>[blB r])
def ptD(nl:Bool)(l:List Int):D:=if nl=true then .raw nilV else ints l
structure Sr.Nl (s:Sr) (nl:Bool):Prop where
 n:nl=true->∀x∈s.pt.nodes,x = -1
 e:nl=true->∀x∈s.pt.edges,x = -1
def Sr.rowD(s:Sr)(nl:Bool)(fm:Nat)(N E:List Int)(out:List Mo):List D :=
 [ints s.p.nodes,AM.edges s.p.edges,ints s.g.nodes,AM.edges s.g.edges,isD s.t,ptD nl s.pt.nodes,ptD nl s.pt.edges,.raw (.bool s.inj),.raw (.int .i64 fm),ints N,ints E,.sl 2 (mosR out)]
abbrev Sr.rowF(s:Sr)(nl:Bool)(fm:Nat)(N:List Int)(a:Nat)(E:List Int)(b:Nat)(out:List Mo)(own:Own):List AV :=
 [.d (ints s.p.nodes),.d (AM.edges s.p.edges),.d (ints s.g.nodes),.d (AM.edges s.g.edges),.d (isD s.t),.d (ptD nl s.pt.nodes),.d (ptD nl s.pt.edges),B s.inj,I fm,.stk a 1 (rI N),.stk b 1 (rI E),.osl 2 (mosR out) own]
theorem Sr.row_cds{s:Sr}{nl:Bool}{fm:Nat}{N:List Int}{a:Nat}{E:List Int}{b:Nat}{out:List Mo}{own:Own}{tok:Nat->Bool}(ha:tok a=true)(hb:tok b=true):CellDs tok (s.rowF nl fm N a E b out own) (s.rowD nl fm N E out) :=
 ⟨.d,.d,.d,.d,.d,.d,.d,.d,.d,.stk ha,.stk hb,.osl,trivial⟩
def gvI(nl:Bool)(l:List Int)(i:Nat):Int:=if nl=true then -1 else l.getD i 0
theorem gvB_gvI{nl:Bool}{l:List Int}{i:Nat}(h:nl=true->∀x∈l,x = -1)(hi:i<l.length)(k:Nat):gvB l i k=if 0<=gvI nl l i then decide (gvI nl l i=(k:Int)) else true:=by
 unfold gvB gvI;cases nl
 .simp
 .have:l.getD i 0 = -1:=by
   have:=h rfl _ (List.getElem_mem hi)
   simp[hi,this]
  rw[this];simp
theorem givenF_c(nl:Bool)(l:List Int)(i:Nat)(hi:i<l.length)(hl:l.length<=1000000):DC 305 [.d (ptD nl l),I i] (I (gvI nl l i)):=by
 intro tok nt box nb;cases nl
 .refine sI func305 ntmps305 fun Hb Ht=>?_
  simp only[ptD,Bool.false_eq_true,if_false];repeat first|simp[hi]|refine sR ?_
  refine⟨?_,fun h=>by rw[h] at hi;simp at hi⟩;try (simp[hi])
  repeat ((first|refine sR ?_|refine sC ?_|refine sX ?_);simp[hi])
  refine sT (sH Hb Ht ?_);simp[gvI,hi]
 .refine sI func305 ntmps305 fun Hb Ht=>?_
  simp only[ptD,if_true];try (simp)
  repeat ((first|refine sR ?_|refine sC ?_|refine sX ?_);simp)
  refine sT (sH Hb Ht ?_);simp[gvI]
theorem E.dec3(e:E)(a b c:Int):decide (e=⟨a,b,c⟩)=(decide (e.ty=a)&&(decide (e.fr=b)&&decide (e.to=c))):=by
 cases e;simp
theorem fitsF_c(s:Sr)(h:s.Ok)(nl:Bool)(hnl:s.Nl nl)(fm:Nat)(N E:List Int)(out:List Mo)(i k:Nat)(hi:i<s.p.edges.length)(hk:k<s.g.edges.length)(hf:(s.p.edges.getD i default).fr<N.length)(ht:(s.p.edges.getD i default).to<N.length):DC 307 [.cptr (s.rowD nl fm N E out) 0,I i,I k] (B (s.fitK N i k)):=by
 intro tok nt box nb;have hpe:=h.p.e;have hpl:i<s.pt.edges.length:=by rw[h.pe];exact hi
 have hg:=givenF_c nl s.pt.edges i hpl (by rw[h.pe];omega);have hgv:=gvB_gvI hnl.e hpl k;obtain⟨x1,x2,x3,x4⟩:=h.vp _ (List.getElem_mem hi);have hgd:s.p.edges.getD i default=s.p.edges[i]:=by simp[hi]
 rw[hgd] at hf ht;have y1:s.p.edges[i].fr.toNat<N.length:=by omega
 have y2:s.p.edges[i].to.toNat<N.length:=by omega
 have hwx:wantX s.p N i=⟨s.p.edges[i].ty,N[s.p.edges[i].fr.toNat],N[s.p.edges[i].to.toNat]⟩:=by simp[wantX,hi,y1,y2]
 have hgi:s.g.edges.getD k default=s.g.edges[k]:=by simp[hk]
 obtain⟨R,hR⟩:∃R,s.fitK N i k=R:=⟨_,rfl⟩
 rw[hR];unfold Sr.fitK at hR;rw[hgv,hwx,hgi] at hR;generalize gvI nl s.pt.edges i=W at *;refine sI func307 ntmps307 fun Hb Ht=>?_
 repeat first|simp[Sr.rowD,hi]|refine sR ?_
 refine sD (hg _ _) ?_;simp;by_cases p01:0<=W/\W≠(k:Int)
 .obtain⟨p0,p1⟩:=p01;have b1:(W != (k:Int))=true:=by simp[p1]
  rw[if_pos p0,if_neg (by simp[p1])] at hR;try (simp[p0,b1])
  repeat ((first|refine sR ?_|refine sC ?_|refine sX ?_);simp[p0,b1])
  refine sT (sH Hb Ht ?_);simp[<-hR]
 .have hW:(if 0<=W then decide (W=(k:Int)) else true)=true:=by
   by_cases p0:0<=W
   .rw[if_pos p0];by_cases p1:W=(k:Int)
    .simp[p1]
    .exact absurd ⟨p0,p1⟩ p01
   .rw[if_neg p0]
  rw[if_pos hW,_root_.Go.AM.E.dec3] at hR;have hst:∀Q,(0<=W->(W != (k:Int))=false->Q)->(¬0<=W->Q)->Q:=by
   intro Q h1 h2;by_cases p0:0<=W
   .refine h1 p0 ?_;by_cases p1:W=(k:Int)
    .simp[p1]
    .exact absurd ⟨p0,p1⟩ p01
   .exact h2 p0
  refine hst _ (fun p0 b1=>?_) (fun p0=>?_)
  .try (simp[p0,b1,hk,x1,x3,y1,y2,hf,ht,Sr.rowD])
   repeat ((first|refine sR ?_|refine sC ?_|refine sX ?_);simp[p0,b1,hk,x1,x3,y1,y2,hf,ht,Sr.rowD])
   refine sT (sH Hb Ht ?_);simp[<-hR]
  .try (simp[p0,hk,x1,x3,y1,y2,hf,ht,Sr.rowD])
   repeat ((first|refine sR ?_|refine sC ?_|refine sX ?_);simp[p0,hk,x1,x3,y1,y2,hf,ht,Sr.rowD])
   refine sT (sH Hb Ht ?_);simp[<-hR]
def stPo1(s:Sr)(nl:Bool)(fm:Nat)(N E:List Int)(out:List Mo)(nb:Nat)(box:Bxs)(tok:Tks)(nt:Nat)(i:Nat):AS :=
 ⟨tl [(20,I i),(19,I s.p.edges.length),(18,.d (AM.edges s.p.edges)),(3,I ((N.length:Int)-1)),(0,.cptr (s.rowD nl fm N E out) 0)],lb nb box [],tok,nt⟩
def stPo2(s:Sr)(nl:Bool)(fm:Nat)(N E:List Int)(out:List Mo)(nb:Nat)(box:Bxs)(tok:Tks)(nt:Nat)(i:Nat)(q:Nat):AS :=
 ⟨tl [(38,I q),(37,I s.g.edges.length),(6,B false),(5,.ptr (nb+5) 0 0),(4,I i),(20,I i),(19,I s.p.edges.length),(18,.d (AM.edges s.p.edges)),(3,I ((N.length:Int)-1)),(0,.cptr (s.rowD nl fm N E out) 0)],
  lb nb box [(5,[[I (s.p.edges.getD i default).ty,I (s.p.edges.getD i default).fr,I (s.p.edges.getD i default).to]])],tok,nt⟩
theorem possibleF_c(s:Sr)(h:s.Ok)(nl:Bool)(hnl:s.Nl nl)(fm:Nat)(N E:List Int)(hN:N.length<=s.p.nodes.length)(out:List Mo):DC 306 [.cptr (s.rowD nl fm N E out) 0] (B (s.pos N)):=by
 intro tok nt box nb;have hpe:=h.p.e;have hpn:=h.p.n;have hge:=h.g.e;have hw0:IntKind.i64.wrap (↑N.length-1)=(N.length:Int)-1:=wrap_in (by omega) (by omega)
 have hfit:=fun i k hi hk hf ht=>fitsF_c s h nl hnl fm N E out i k hi hk hf ht
 obtain⟨R,hR⟩:∃R,s.pos N=R:=⟨_,rfl⟩
 rw[hR];refine sI func306 ntmps306 fun Hb Ht=>?_
 repeat first|simp[Sr.rowD,hw0]|refine sR ?_
 refine sN ?_;refine sL (stPo1 s nl fm N E out nb box tok nt) (fun i=>i<=s.p.edges.length/\∀j,j<i->s.posE N j=true) (fun i=>s.p.edges.length-i) 0 ⟨Nat.zero_le _,fun j hj=>absurd hj (Nat.not_lt_zero _)⟩ (wM (nr _) rfl (by simp[ToL,lk,Sr.rowD]) (by simp[BoxL,lk])) ?_;rintro i S' ⟨hi,hall⟩ hS;simp only[stPo1] at hS;subst hS;have hw:=sW (i:=i) (by omega);by_cases hlt:i<s.p.edges.length
 .have hgd:s.p.edges.getD i default=s.p.edges[i]:=by simp[hlt]
  have hfit:=fun k hk=>hfit i k hlt hk
  obtain⟨x1,x2,x3,x4⟩:=h.vp _ (List.getElem_mem hlt);by_cases hmx:max s.p.edges[i].fr s.p.edges[i].to=(N.length:Int)-1
  .have b1:(max s.p.edges[i].fr s.p.edges[i].to != (N.length:Int)-1)=false:=by simp[hmx]
   have hpe0:s.posE N i=(List.range s.g.edges.length).any (s.fitK N i):=by unfold Sr.posE;rw[hgd,if_pos hmx]
   have hfit:=fun k hk=>hfit k hk (by rw[hgd];omega) (by rw[hgd];omega)
   try (simp[hlt,b1,Sr.rowD])
   repeat ((first|refine sR ?_|refine sC ?_|refine sX ?_);simp[hlt,b1,Sr.rowD])
   refine sN ?_;refine sL (stPo2 s nl fm N E out nb box tok nt i) (fun q=>q<=s.g.edges.length/\∀j,j<q->s.fitK N i j=false) (fun q=>s.g.edges.length-q) 0 ⟨Nat.zero_le _,fun j hj=>absurd hj (Nat.not_lt_zero _)⟩ (wM (nr _) rfl (by simp[ToL,lk,hlt,Sr.rowD]) (by simp[BoxL,lk,hlt])) ?_;rintro q S' ⟨hq0,hno⟩ hS;simp only[stPo2] at hS;subst hS;have hwq:=sW (i:=q) (by omega);by_cases hq:q<s.g.edges.length
   .have hc:=hfit q hq;try (simp[hq])
    repeat ((first|refine sR ?_|refine sC ?_|refine sX ?_);simp[hq])
    refine sD (hc _ _) ?_;cases e:s.fitK N i q
    .try (simp[hwq])
     repeat ((first|refine sR ?_|refine sC ?_|refine sX ?_);simp[hwq])
     refine sE ?_;exact⟨q+1,⟨hq,fun j hj=>(Nat.lt_or_ge j q).elim (hno j) fun hh=>by rw[show j=q by omega];exact e⟩,by omega,wM (nr _) rfl (by simp[ToL,lk,hlt]) (by simp[BoxL,lk,hlt])⟩
    .have hp:s.posE N i=true:=by
      rw[hpe0,List.any_eq_true];exact⟨q,List.mem_range.2 hq,e⟩
     try (simp[hw])
     repeat ((first|refine sR ?_|refine sC ?_|refine sX ?_);simp[hw])
     refine sE ?_;exact⟨i+1,⟨hlt,fun j hj=>(Nat.lt_or_ge j i).elim (hall j) fun hh=>by rw[show j=i by omega];exact hp⟩,by omega,wkA⟩
   .have:q=s.g.edges.length:=by omega
    subst this;have hp:s.posE N i=false:=by
     rw[hpe0,List.any_eq_false];exact fun j hj=>by simp[hno j (List.mem_range.1 hj)]
    rw[Sr.pos_false hlt hp] at hR;try (simp)
    repeat ((first|refine sR ?_|refine sC ?_|refine sX ?_);simp)
    refine sT (sH Hb Ht ?_);simp[<-hR]
  .have b1:(max s.p.edges[i].fr s.p.edges[i].to != (N.length:Int)-1)=true:=by simp[hmx]
   have hp:s.posE N i=true:=by unfold Sr.posE;rw[hgd,if_neg hmx]
   try (simp[hlt,b1,hw])
   repeat ((first|refine sR ?_|refine sC ?_|refine sX ?_);simp[hlt,b1,hw])
   refine sE ?_;exact⟨i+1,⟨hlt,fun j hj=>(Nat.lt_or_ge j i).elim (hall j) fun hh=>by rw[show j=i by omega];exact hp⟩,by omega,wkA⟩
 .have:i=s.p.edges.length:=by omega
  subst this;rw[Sr.pos_true hall] at hR;try (simp)
  repeat ((first|refine sR ?_|refine sC ?_|refine sX ?_);simp)
  refine sT (sH Hb Ht ?_);simp[<-hR]
def QFd(s:Sr)(nl:Bool)(fm:Nat)(box:Bxs)(nb k:Nat)(mtok:Tks)(nt0 nt:Nat)(N E:List Int)(R:List Mo)(v:AV)(m:AMem):Prop :=
 v=.tup []/\∃a b own tok nt',m=⟨upd box k (some [s.rowF nl fm N a E b R own]),nb,tok,nt'⟩/\TK mtok nt0 tok nt' [.tok a,.tok b,own]/\nt<=nt'
theorem outFd{s:Sr}{nl:Bool}{fm:Nat}{N E:List Int}{a b:Nat}{out:List Mo}{own:Own}{box:Bxs}{k base:Nat}{p q:Nat->Prop}(hq:q=fun _=>True):∀k' rows,k'<base->(upd box k (some [s.rowF nl fm N a E b out own])) k'=some rows->box k'=some rows∨∀r∈rows,∀x∈r,OkIn p q x:=by
 subst hq;intro k' rows hk' hr;by_cases e:k'=k
 .subst e;rw[uS] at hr;cases hr;exact .inr (by simp)
 .rw[uO _ _ e] at hr;exact .inl hr
theorem flat_ints{c:Addr->Option Value}{ps:Addr->Prop}{xs:List Int}{vs:List Value}(h:FlatV c ps 1 (rI xs) vs):∀j,j<xs.length->vs[j]?=some (.int .i64 (xs.getD j 0)):=by
 intro j hj;have hj':j<(rI xs).length:=by simpa using hj
 obtain⟨u,h1,h2⟩:=h.read j 0 hj' (by simp);rw[Nat.mul_one,Nat.add_zero] at h1;have e:(rI xs)[j][0]'(by simp)=D.raw (.int .i64 xs[j]):=by simp
 rw[e] at h2;cases h2;rw[h1];simp[hj]
theorem cloneS_c(xs:List Int)(hx:xs.length<=1000000)(t:Nat)(tok:Tks)(nt:Nat)(ht:tok t=true):DCall prog 126 [.stk t 1 (rI xs)] tok nt (.d (ints xs)) tok nt:=by
 intro box nb;refine⟨Enters.mk func126 rfl (by kernel_rfl),fun G w vals hm hr=>?_⟩;obtain⟨hlen,hrv⟩:=hr
 match vals,hlen with
 | [v],_ =>
  have h0:=hrv 0 (by simp) (by simp);simp only[List.getElem_cons_zero] at h0;cases h0 with|stk h0 =>
  obtain⟨h1,A,cap,rfl,hcap,hmax,h2⟩:=h0;obtain⟨_,x,hx2⟩:=hm.toks t ht;have h3:=h2 x hx2;have hl:(rI xs).length=xs.length:=by simp
  rw[hl] at hcap ⊢;cases A with
  | none =>
   have he:xs=[]:=by
    cases x with
    | none=>exact List.length_eq_zero_iff.1 (by simp only at h3;omega)
    | some g=>cases h3.1
   subst he;refine(Tryz.slices_Clone_int_nil _ cap w).mono ?_;rintro e w' ⟨rfl,rfl⟩;exact⟨_,_,_,G,rfl,⟨rfl,rfl⟩,rfl,hm,.d (.sl (es:=[]) (fun _ _=>default) (nr _) (by decide) (by simp) (by simp) (by simp) (by simp)),Le.refl _ _,fun k hk=>⟨hk,rfl⟩⟩
  | some a =>
   by_cases e:xs=[]
   .subst e;refine(Tryz.slices_Clone_int_zero a cap w).mono ?_;rintro e w' ⟨v,rfl,hown,hnn,hb⟩;exact⟨v,_,_,G,rfl,⟨rfl,rfl⟩,rfl,relM_below hm hb,.d (rvd_owns hm hown),le_below hm hb,fun k hk=>⟨hk,rfl⟩⟩
   .have hne:xs.length≠0:=fun h=>e (List.length_eq_zero_iff.1 h)
    cases x with
    | none=>simp only at h3;omega
    | some g =>
     obtain⟨hA,vs,sp,et,hg,hh,hln,hfl,_⟩:=h3;cases hA;have hc:∀j,j<xs.length->w.cell? ⟨g,0+j,none⟩=some (.int .i64 (xs.getD j 0)):=by
      intro j hj;have:=flat_ints hfl j hj
      rw[Nat.zero_add,cell_of_row w g _ _ et (0,0) hh];have hj2:j<vs.length:=by rw[hfl.len];simpa using hj
      simp only[List.getElem?_toArray,List.getElem?_append_left hj2];exact this
     have:=Tryz.slices_Clone_int g 0 xs.length cap xs w (nr _) (by omega) hc
     rw[List.take_length] at this;refine this.mono ?_;rintro e w' ⟨v,rfl,hown,hnn,hb⟩;exact⟨v,_,_,G,rfl,⟨rfl,rfl⟩,rfl,relM_below hm hb,.d (rvd_owns hm hown),le_below hm hb,fun k hk=>⟨hk,rfl⟩⟩
structure AccK where
 i:Nat
 out:List Mo
 a:Nat
 b:Nat
 own:Own
 tok:Nat->Bool
 nt:Nat
def Sr.stEp(s:Sr)(fm:Nat)(N E:List Int)(n:Nat)(out:List Mo)(k:Nat):List Mo:=if s.okE N E k=true then fndE fm (s.okE N) s.g.edges.length N n (E++[(k:Int)]) out else out
def stFdE(s:Sr)(nl:Bool)(fm:Nat)(N E:List Int)(nb k:Nat)(box:Bxs)(x:AccK):AS :=
 ⟨tl [(164,I x.i),(163,I s.g.edges.length),(162,.d (AM.edges s.g.edges)),(6,I E.length),(0,.ptr k 0 0)],lb nb (upd box k (some [s.rowF nl fm N x.a E x.b x.out x.own])) [],x.tok,x.nt⟩
theorem rI_cut(E:List Int)(v:Int):List.take E.length (rI (E++[v]))=rI E:=by
 unfold rI;rw[List.map_append,List.take_append_of_le_length (by simp),List.take_of_length_le (by simp)]
set_option maxRecDepth 100000 in
theorem findE_c(s:Sr)(h:s.Ok)(nl:Bool)(hnl:s.Nl nl)(fm:Nat)(hfm:fm<=1000000)(N:List Int)(hN:N.length=s.p.nodes.length)(mtok:Tks)(nt0:Nat):∀(n:Nat) (E:List Int) (out:List Mo) (a b:Nat) (own:Own) (box:Bxs) (nb k:Nat) (tok:Tks) (nt:Nat),E.length+n=s.p.edges.length->out.length<=fm ->
  box k=some [s.rowF nl fm N a E b out own]->TK mtok nt0 tok nt [.tok a,.tok b,own]->ACalls prog 286 [.ptr k 0 0] ⟨box,nb,tok,nt⟩ (QFd s nl fm box nb k mtok nt0 nt N E (fndE fm (s.okE N) s.g.edges.length N n E out)):=by
 have hpn:=h.p.n;have hpe:=h.p.e;have hgn:=h.g.n;have hge:=h.g.e;intro n;induction n with
 | zero =>
  intro E out a b own box nb k tok nt hE ho hk htk;have hself:box=upd box k (some [s.rowF nl fm N a E b out own]):=(upd_self box k _ hk).symm
  refine sI func286 ntmps286 fun Hb Ht=>?_
  have hkn:=key_lt Hb hk;have hEl:E.length=s.p.edges.length:=by omega
  repeat first|simp[lO hkn,hk]|refine sR ?_
  by_cases hbig:out.length=fm
  .have b1:((out.length:Int)==(fm:Int))=true:=by simp[hbig]
   try (simp[lO hkn,hk,b1])
   repeat ((first|refine sR ?_|refine sC ?_|refine sX ?_);simp[lO hkn,hk,b1])
   refine sN ?_;refine sE ?_;refine⟨by simp,(Fin.own (vs:=[]) (av:=.tup []) (by simp[resAs,resA]) Hb rfl (nr _) (by simp)).mono fun v m hq=>⟨hq.1,a,b,own,tok,nt,?_,htk,nr _⟩⟩;rw[hq.2,fndE,if_pos hbig,<-hself]
  .have b1:((out.length:Int)==(fm:Int))=false:=by simp;omega
   have hta:tok a=true:=htk.live
   have htb:tok b=true:=htk.swap.live
   try (simp[lO hkn,hk,b1,hN,hEl])
   repeat ((first|refine sR ?_|refine sC ?_|refine sX ?_);simp[lO hkn,hk,b1,hN,hEl])
   refine sD (cloneS_c N (by omega) a _ _ hta) ?_;simp[lO hkn,hk];refine sD (cloneS_c E (by omega) b _ _ htb) ?_;simp[lO hkn,hk];refine⟨⟨by omega,htk.pick3.live⟩,?_⟩;simp only[uL hkn];refine sN ?_;refine sE ?_;have htk2:=htk.pick3.app.put3;refine⟨by simp,(Fin.gen (vs:=[]) (av:=.tup []) (tok':=upd (own.kill tok) nt true) (nt':=nt+1) (by simp[resAs,resA]) ?_ (by omega) (nr _) (fun t h=>⟨h,.inl rfl⟩) ?_ (by simp)).mono fun v m hq=>⟨hq.1,a,b,.tok nt,_,nt+1,?_,htk2,by omega⟩⟩
   .rw[<-uL hkn,Hb]
   .intro k' rows hk' hr;by_cases e:k'=k
    .subst e;rw[uS] at hr;cases hr;exact .inr (by simp)
    .rw[uO _ _ e] at hr;exact .inl hr
   .rw[hq.2,fndE,if_neg hbig];simp[Sr.rowF]
 | succ n ih =>
  intro E out a b own box nb k tok nt hE ho hk htk;have hself:box=upd box k (some [s.rowF nl fm N a E b out own]):=(upd_self box k _ hk).symm
  have hlt:E.length<s.p.edges.length:=by omega
  refine sI func286 ntmps286 fun Hb Ht=>?_
  have hkn:=key_lt Hb hk;repeat first|simp[lO hkn,hk]|refine sR ?_
  by_cases hbig:out.length=fm
  .have b1:((out.length:Int)==(fm:Int))=true:=by simp[hbig]
   try (simp[lO hkn,hk,b1])
   repeat ((first|refine sR ?_|refine sC ?_|refine sX ?_);simp[lO hkn,hk,b1])
   refine sN ?_;refine sE ?_;refine⟨by simp,(Fin.own (vs:=[]) (av:=.tup []) (by simp[resAs,resA]) Hb rfl (nr _) (by simp)).mono fun v m hq=>⟨hq.1,a,b,own,tok,nt,?_,htk,nr _⟩⟩;rw[hq.2,fndE,if_pos hbig,<-hself]
  .have b1:((out.length:Int)==(fm:Int))=false:=by simp;omega
   try (simp[lO hkn,hk,b1,hN,hlt])
   repeat ((first|refine sR ?_|refine sC ?_|refine sX ?_);simp[lO hkn,hk,b1,hN,hlt])
   refine sN ?_;have hlb:∀loc,lb nb box loc=lb nb (upd box k (some [s.rowF nl fm N a E b out own])) loc:=fun loc=>by rw[<-hself]
   rw[hlb];refine sL (stFdE s nl fm N E nb k box) (fun x=>x.i<=s.g.edges.length/\x.out=(List.range x.i).foldl (s.stEp fm N E n) out/\x.out.length<=fm/\TK mtok nt0 x.tok x.nt [.tok x.a,.tok x.b,x.own]/\nt<=x.nt) (fun x=>s.g.edges.length-x.i)
    ⟨0,out,a,b,own,tok,nt⟩ ⟨Nat.zero_le _,rfl,ho,htk,nr _⟩ (Weaks.mk' (nr _) (by simp[ToL,lk];exact to_ptr (by rw[lO hkn,uS];simp)) (by simp[BoxL,lk]) (outFd rfl)) ?_
   rintro⟨i,out2,a2,b2,own2,tok2,nt2⟩ S ⟨hi,hout,ho2,htk2,hnt2⟩ hS;simp only[stFdE] at hS hi hout ho2 htk2 hnt2;subst hS;have hw:IntKind.i64.wrap (↑i+1)=((i+1:Nat):Int):=by rw[wrap_in (by omega) (by omega)];omega
   have hfold:(List.range (i+1)).foldl (s.stEp fm N E n) out=s.stEp fm N E n out2 i:=by
    rw[hout,List.range_succ,List.foldl_append];rfl
   have hta:tok2 a2=true:=htk2.live
   have htb:tok2 b2=true:=htk2.swap.live
   by_cases hli:i<s.g.edges.length
   .obtain⟨x1,x2,x3,x4⟩:=h.vp _ (List.getElem_mem hlt);have hgd:s.p.edges.getD E.length default=s.p.edges[E.length]:=by simp[hlt]
    have hfit:=fitsF_c s h nl hnl fm N E out2 E.length i hlt hli (by rw[hgd];omega) (by rw[hgd];omega);have hoke:=s.okE_eq N E i;try (simp[lO hkn,uS,hli])
    repeat ((first|refine sR ?_|refine sC ?_|refine sX ?_);simp[lO hkn,uS,hli])
    refine Stop.of_r (RCall.lends rfl (fun tok=>hfit tok nt2) ⟨.ptr (by simp only[lO hkn,uS]) (Sr.row_cds (own:=own2) hta htb),.same (by simp),.same (by simp),trivial⟩) ?_;cases e1:s.fitK N E.length i
    .have hok:s.okE N E i=false:=by rw[hoke,e1];rfl
     try (simp[lO hkn,uS,hw])
     repeat ((first|refine sR ?_|refine sC ?_|refine sX ?_);simp[lO hkn,uS,hw])
     refine sE ?_;exact⟨⟨i+1,out2,a2,b2,own2,tok2,nt2⟩,⟨hli,by rw[hfold,Sr.stEp,hok];simp,ho2,htk2,hnt2⟩,by simp only;omega,Weaks.mk' (by have:=htk2.le;omega) (by simp[ToL,lk];exact to_ptr (by rw[lO hkn,uS];simp)) (by simp[BoxL,lk]) (outFd rfl)⟩
    .have hoke:s.okE N E i=!usB s.inj E i:=by rw[hoke,e1];simp
     have skip:∀Q:Prop,(s.inj=true->decide ((i:Int)∈E)=true->Q)->(s.inj=true->decide ((i:Int)∈E)=false->Q)->(s.inj=false->Q)->Q:=by
      intro Q h1 h2 h3;cases ei:s.inj
      .exact h3 ei
      .cases ed:decide ((i:Int)∈E)
       .exact h2 ei ed
       .exact h1 ei ed
     refine skip _ (fun ei ed=>?_) (fun ei ed=>?_) (fun ei=>?_)
     .have hok:s.okE N E i=false:=by rw[hoke,usB,if_pos ei,ed];rfl
      simp[lO hkn,uS,ei];refine Stop.of_r (RCall.lends rfl (fun tok=>contains_c E i (by omega) tok nt2) ⟨.stk htb,.same (by simp),trivial⟩) ?_;rw[ed];try (simp[hw])
      repeat ((first|refine sR ?_|refine sC ?_|refine sX ?_);simp[hw])
      refine sE ?_;exact⟨⟨i+1,out2,a2,b2,own2,tok2,nt2⟩,⟨hli,by rw[hfold,Sr.stEp,hok];simp,ho2,htk2,hnt2⟩,by simp only;omega,Weaks.mk' (by have:=htk2.le;omega) (by simp[ToL,lk];exact to_ptr (by rw[lO hkn,uS];simp)) (by simp[BoxL,lk]) (outFd rfl)⟩
     .have hok:s.okE N E i=true:=by rw[hoke,usB,if_pos ei,ed];rfl
      simp[lO hkn,uS,ei];refine Stop.of_r (RCall.lends rfl (fun tok=>contains_c E i (by omega) tok nt2) ⟨.stk htb,.same (by simp),trivial⟩) ?_;rw[ed];try (simp[lO hkn,uS])
      repeat ((first|refine sR ?_|refine sC ?_|refine sX ?_);simp[lO hkn,uS])
      refine⟨⟨by omega,htb⟩,?_⟩;have htk3:=htk2.swap.app.swap;simp only[uL hkn,upd_upd];try (simp[lO hkn,uS])
      repeat ((first|refine sR ?_|refine sC ?_|refine sX ?_);simp[lO hkn,uS])
      refine Stop.of_a (ih (E++[(i:Int)]) out2 a2 nt2 own2 _ _ k _ _ (by simp;omega) ho2 (by simp[lO hkn,uS]) htk3) ?_;rintro v m' ⟨rfl,a3,b3,own3,tok3,nt3,rfl,htk4,hle4⟩;have hle4:nt2+1<=nt3:=hle4
      have hle5:nt<=nt3:=by omega
      simp[uL hkn,upd_upd];try (simp[lO hkn,uS,rI_cut,hw])
      repeat ((first|refine sR ?_|refine sC ?_|refine sX ?_);simp[lO hkn,uS,rI_cut,hw])
      simp only[uL hkn,upd_upd];refine sE ?_;exact⟨⟨i+1,fndE fm (s.okE N) s.g.edges.length N n (E++[(i:Int)]) out2,a3,b3,own3,tok3,nt3⟩,⟨hli,by rw[hfold,Sr.stEp,hok];simp,fndE_len ho2,htk4,by omega⟩,by simp only;omega,Weaks.mk' hle5 (by simp[ToL,lk];exact to_ptr (by rw[lO hkn,uS];simp)) (by simp[BoxL,lk]) (outFd rfl)⟩
     .have hok:s.okE N E i=true:=by rw[hoke,usB,if_neg (by simp[ei])];rfl
      simp[lO hkn,uS,ei];try (simp[lO hkn,uS])
      repeat ((first|refine sR ?_|refine sC ?_|refine sX ?_);simp[lO hkn,uS])
      refine⟨⟨by omega,htb⟩,?_⟩;have htk3:=htk2.swap.app.swap;simp only[uL hkn,upd_upd];try (simp[lO hkn,uS])
      repeat ((first|refine sR ?_|refine sC ?_|refine sX ?_);simp[lO hkn,uS])
      refine Stop.of_a (ih (E++[(i:Int)]) out2 a2 nt2 own2 _ _ k _ _ (by simp;omega) ho2 (by simp[lO hkn,uS]) htk3) ?_;rintro v m' ⟨rfl,a3,b3,own3,tok3,nt3,rfl,htk4,hle4⟩;have hle4:nt2+1<=nt3:=hle4
      have hle5:nt<=nt3:=by omega
      simp[uL hkn,upd_upd];try (simp[lO hkn,uS,rI_cut,hw])
      repeat ((first|refine sR ?_|refine sC ?_|refine sX ?_);simp[lO hkn,uS,rI_cut,hw])
      simp only[uL hkn,upd_upd];refine sE ?_;exact⟨⟨i+1,fndE fm (s.okE N) s.g.edges.length N n (E++[(i:Int)]) out2,a3,b3,own3,tok3,nt3⟩,⟨hli,by rw[hfold,Sr.stEp,hok];simp,fndE_len ho2,htk4,by omega⟩,by simp only;omega,Weaks.mk' hle5 (by simp[ToL,lk];exact to_ptr (by rw[lO hkn,uS];simp)) (by simp[BoxL,lk]) (outFd rfl)⟩
   .have:i=s.g.edges.length:=by omega
    subst this;try (simp[lO hkn,uS])
    repeat ((first|refine sR ?_|refine sC ?_|refine sX ?_);simp[lO hkn,uS])
    refine sN ?_;refine sE ?_;refine⟨by simp,(Fin.gen (vs:=[]) (av:=.tup []) (tok':=tok2) (nt':=nt2) (by simp[resAs,resA]) ?_ hnt2 (nr _) (fun t h=>⟨h,.inl rfl⟩) (outFd (by simp)) (by simp)).mono fun v m hq=>⟨hq.1,a2,b2,own2,tok2,nt2,?_,htk2,hnt2⟩⟩
    .rw[<-uL hkn,Hb]
    .rw[hq.2,fndE,if_neg hbig,hout];rfl
def Sr.stNp(s:Sr)(fm:Nat)(N:List Int)(r:Nat)(out:List Mo)(k:Nat):List Mo :=
 if s.okN N k=true then (if s.pos (N++[(k:Int)])=true then s.fnP fm r (N++[(k:Int)]) out else out) else out
def stFdN(s:Sr)(nl:Bool)(fm:Nat)(N:List Int)(nb k:Nat)(box:Bxs)(x:AccK):AS :=
 ⟨tl [(63,I x.i),(62,I s.g.nodes.length),(61,.d (ints s.g.nodes)),(2,I N.length),(0,.ptr k 0 0)],lb nb (upd box k (some [s.rowF nl fm N x.a [] x.b x.out x.own])) [],x.tok,x.nt⟩
theorem isD_row{t:Ty}{a:Nat}(h:a<t.nodes.length):(isTb t)[a]'(by simp[isTb];exact h)=isRow t a:=by simp[isTb]
set_option maxRecDepth 100000 in
theorem findN_c(s:Sr)(h:s.Ok)(nl:Bool)(hnl:s.Nl nl)(fm:Nat)(hfm:fm<=1000000)(mtok:Tks)(nt0:Nat):∀(r:Nat) (N:List Int) (out:List Mo) (a b:Nat) (own:Own) (box:Bxs) (nb k:Nat) (tok:Tks) (nt:Nat),N.length+r=s.p.nodes.length->out.length<=fm ->
  box k=some [s.rowF nl fm N a [] b out own]->TK mtok nt0 tok nt [.tok a,.tok b,own]->ACalls prog 286 [.ptr k 0 0] ⟨box,nb,tok,nt⟩ (QFd s nl fm box nb k mtok nt0 nt N [] (s.fnP fm r N out)):=by
 have hpn:=h.p.n;have hpe:=h.p.e;have hgn:=h.g.n;have hge:=h.g.e;have htn:=h.t.n;intro r;induction r with
 | zero =>
  intro N out a b own box nb k tok nt hN ho hk htk;exact findE_c s h nl hnl fm hfm N (by omega) mtok nt0 s.p.edges.length [] out a b own box nb k tok nt (by simp) ho hk htk
 | succ r ih =>
  intro N out a b own box nb k tok nt hN ho hk htk;have hself:box=upd box k (some [s.rowF nl fm N a [] b out own]):=(upd_self box k _ hk).symm
  have hlt:N.length<s.p.nodes.length:=by omega
  refine sI func286 ntmps286 fun Hb Ht=>?_
  have hkn:=key_lt Hb hk;repeat first|simp[lO hkn,hk]|refine sR ?_
  by_cases hbig:out.length=fm
  .have b1:((out.length:Int)==(fm:Int))=true:=by simp[hbig]
   try (simp[lO hkn,hk,b1])
   repeat ((first|refine sR ?_|refine sC ?_|refine sX ?_);simp[lO hkn,hk,b1])
   refine sN ?_;refine sE ?_;refine⟨by simp,(Fin.own (vs:=[]) (av:=.tup []) (by simp[resAs,resA]) Hb rfl (nr _) (by simp)).mono fun v m hq=>⟨hq.1,a,b,own,tok,nt,?_,htk,nr _⟩⟩;rw[hq.2,Sr.fnP,fndN,if_pos hbig,<-hself]
  .have b1:((out.length:Int)==(fm:Int))=false:=by simp;omega
   try (simp[lO hkn,hk,b1,hlt])
   repeat ((first|refine sR ?_|refine sC ?_|refine sX ?_);simp[lO hkn,hk,b1,hlt])
   refine sN ?_;have hlb:∀loc,lb nb box loc=lb nb (upd box k (some [s.rowF nl fm N a [] b out own])) loc:=fun loc=>by rw[<-hself]
   rw[hlb];refine sL (stFdN s nl fm N nb k box) (fun x=>x.i<=s.g.nodes.length/\x.out=(List.range x.i).foldl (s.stNp fm N r) out/\x.out.length<=fm/\TK mtok nt0 x.tok x.nt [.tok x.a,.tok x.b,x.own]/\nt<=x.nt) (fun x=>s.g.nodes.length-x.i)
    ⟨0,out,a,b,own,tok,nt⟩ ⟨Nat.zero_le _,rfl,ho,htk,nr _⟩ (Weaks.mk' (nr _) (by simp[ToL,lk];exact to_ptr (by rw[lO hkn,uS];simp)) (by simp[BoxL,lk]) (outFd rfl)) ?_
   rintro⟨i,out2,a2,b2,own2,tok2,nt2⟩ S ⟨hi,hout,ho2,htk2,hnt2⟩ hS;simp only[stFdN] at hS hi hout ho2 htk2 hnt2;subst hS;have hw:IntKind.i64.wrap (↑i+1)=((i+1:Nat):Int):=by rw[wrap_in (by omega) (by omega)];omega
   have hfold:(List.range (i+1)).foldl (s.stNp fm N r) out=s.stNp fm N r out2 i:=by
    rw[hout,List.range_succ,List.foldl_append];rfl
   have hta:tok2 a2=true:=htk2.live
   have htb:tok2 b2=true:=htk2.swap.live
   by_cases hli:i<s.g.nodes.length
   .have hlp:N.length<s.pt.nodes.length:=by rw[h.pn];exact hlt
    have hgv:=gvB_gvI hnl.n hlp i;have hgiv:=givenF_c nl s.pt.nodes N.length hlp (by rw[h.pn];omega);obtain⟨z1,z2⟩:=h.np _ (List.getElem_mem hlt);obtain⟨z3,z4⟩:=h.ng _ (List.getElem_mem hli);have hgi:s.g.nodes.getD i 0=s.g.nodes[i]:=by simp[hli]
    have hpn2:s.p.nodes.getD N.length 0=s.p.nodes[N.length]:=by simp[hlt]
    obtain⟨q,hq⟩:=Int.eq_ofNat_of_zero_le z1;obtain⟨u,hu⟩:=Int.eq_ofNat_of_zero_le z3;have hq2:q<s.t.nodes.length:=by omega
    have hu2:u<s.t.nodes.length:=by omega
    have hokN:s.okN N i=if (if 0<=gvI nl s.pt.nodes N.length then decide (gvI nl s.pt.nodes N.length=(i:Int)) else true)=true then (if usB s.inj N i=true then false else isB s.t (u:Int) (q:Int)) else false:=by
     unfold Sr.okN;rw[hgv,hgi,hpn2,hq,hu]
    generalize gvI nl s.pt.nodes N.length=W at *;have hisD:D.sl 1 (List.map (fun r=>[blB r]) (isTb s.t))=isD s.t:=rfl
    have hlt1:(isTb s.t).length=s.t.nodes.length:=by simp[isTb]
    have hlt2:(isRow s.t q).length=s.t.nodes.length:=by simp[isRow]
    have hrow:(isTb s.t)[q]'(by rw[hlt1];exact hq2)=isRow s.t q:=isD_row hq2
    have hcol:(isRow s.t q)[u]'(by rw[hlt2];exact hu2)=isB s.t (u:Int) (q:Int):=by simp[isRow]
    try (simp[lO hkn,uS,hli])
    repeat ((first|refine sR ?_|refine sC ?_|refine sX ?_);simp[lO hkn,uS,hli])
    refine sD (hgiv _ _) ?_;simp;by_cases p01:0<=W/\W≠(i:Int)
    .obtain⟨p0,p1⟩:=p01;have bw:(W != (i:Int))=true:=by simp[p1]
     have hok:s.okN N i=false:=by rw[hokN,if_pos p0];simp[p1]
     try (simp[lO hkn,uS,p0,bw,hw])
     repeat ((first|refine sR ?_|refine sC ?_|refine sX ?_);simp[lO hkn,uS,p0,bw,hw])
     refine sE ?_;exact⟨⟨i+1,out2,a2,b2,own2,tok2,nt2⟩,⟨hli,by rw[hfold,Sr.stNp,hok];simp,ho2,htk2,hnt2⟩,by simp only;omega,Weaks.mk' (by have:=htk2.le;omega) (by simp[ToL,lk];exact to_ptr (by rw[lO hkn,uS];simp)) (by simp[BoxL,lk]) (outFd rfl)⟩
    .have hW:(if 0<=W then decide (W=(i:Int)) else true)=true:=by
      by_cases p0:0<=W
      .rw[if_pos p0];by_cases p1:W=(i:Int)
       .simp[p1]
       .exact absurd ⟨p0,p1⟩ p01
      .rw[if_neg p0]
     rw[if_pos hW] at hokN;have hst:∀Q,(0<=W->(W != (i:Int))=false->Q)->(¬0<=W->Q)->Q:=by
      intro Q h1 h2;by_cases p0:0<=W
      .refine h1 p0 ?_;by_cases p1:W=(i:Int)
       .simp[p1]
       .exact absurd ⟨p0,p1⟩ p01
      .exact h2 p0
     have skip:∀Q:Prop,(s.inj=true->decide ((i:Int)∈N)=true->Q)->(s.inj=true->decide ((i:Int)∈N)=false->Q)->(s.inj=false->Q)->Q:=by
      intro Q h1 h2 h3;cases ei:s.inj
      .exact h3 ei
      .cases ed:decide ((i:Int)∈N)
       .exact h2 ei ed
       .exact h1 ei ed
     refine hst _ (fun p0 bw=>?_) (fun p0=>?_)
     .cases hB:isB s.t (u:Int) (q:Int)
      .have hok:s.okN N i=false:=by rw[hokN,hB];simp
       try (simp[lO hkn,uS,p0,bw,hw,hlt,hq,hu,hq2,hu2,isD,hlt1,hlt2,hrow,hcol,hB])
       repeat ((first|refine sR ?_|refine sC ?_|refine sX ?_);simp[lO hkn,uS,p0,bw,hw,hlt,hq,hu,hq2,hu2,isD,hlt1,hlt2,hrow,hcol,hB])
       refine sE ?_;exact⟨⟨i+1,out2,a2,b2,own2,tok2,nt2⟩,⟨hli,by rw[hfold,Sr.stNp,hok];simp,ho2,htk2,hnt2⟩,by simp only;omega,Weaks.mk' (by have:=htk2.le;omega) (by simp[ToL,lk];exact to_ptr (by rw[lO hkn,uS];simp)) (by simp[BoxL,lk]) (outFd rfl)⟩
      .rw[hB] at hokN;refine skip _ (fun ei ed=>?_) (fun ei ed=>?_) (fun ei=>?_)
       .have hok:s.okN N i=false:=by rw[hokN,usB,if_pos ei,ed];rfl
        try (simp[lO hkn,uS,p0,bw,hw,hlt,hq,hu,hq2,hu2,isD,hlt1,hlt2,hrow,hcol,hB,ei])
        repeat ((first|refine sR ?_|refine sC ?_|refine sX ?_);simp[lO hkn,uS,p0,bw,hw,hlt,hq,hu,hq2,hu2,isD,hlt1,hlt2,hrow,hcol,hB,ei])
        refine Stop.of_r (RCall.lends rfl (fun tok=>contains_c N i (by omega) tok nt2) ⟨.stk hta,.same (by simp),trivial⟩) ?_;rw[ed];try (simp[hw])
        repeat ((first|refine sR ?_|refine sC ?_|refine sX ?_);simp[hw])
        refine sE ?_;exact⟨⟨i+1,out2,a2,b2,own2,tok2,nt2⟩,⟨hli,by rw[hfold,Sr.stNp,hok];simp,ho2,htk2,hnt2⟩,by simp only;omega,Weaks.mk' (by have:=htk2.le;omega) (by simp[ToL,lk];exact to_ptr (by rw[lO hkn,uS];simp)) (by simp[BoxL,lk]) (outFd rfl)⟩
       .have hok:s.okN N i=true:=by rw[hokN,usB,if_pos ei,ed];rfl
        try (simp[lO hkn,uS,p0,bw,hw,hlt,hq,hu,hq2,hu2,isD,hlt1,hlt2,hrow,hcol,hB,ei])
        repeat ((first|refine sR ?_|refine sC ?_|refine sX ?_);simp[lO hkn,uS,p0,bw,hw,hlt,hq,hu,hq2,hu2,isD,hlt1,hlt2,hrow,hcol,hB,ei])
        refine Stop.of_r (RCall.lends rfl (fun tok=>contains_c N i (by omega) tok nt2) ⟨.stk hta,.same (by simp),trivial⟩) ?_;rw[ed];try (simp[lO hkn,uS])
        repeat ((first|refine sR ?_|refine sC ?_|refine sX ?_);simp[lO hkn,uS])
        refine⟨⟨by omega,hta⟩,?_⟩;have htk3:=htk2.app;simp only[uL hkn,upd_upd];have hta3:(upd (upd tok2 a2 false) nt2 true) nt2=true:=uS _ _ _
        have htb3:(upd (upd tok2 a2 false) nt2 true) b2=true:=htk3.swap.live
        have hpos:=possibleF_c s h nl hnl fm (N++[(i:Int)]) [] (by simp;omega) out2;try (simp[lO hkn,uS])
        repeat ((first|refine sR ?_|refine sC ?_|refine sX ?_);simp[lO hkn,uS])
        refine Stop.of_r (RCall.lends rfl (fun tok=>hpos tok (nt2+1)) ⟨.ptr (row:=s.rowF nl fm (N++[(i:Int)]) nt2 [] b2 out2 own2) (by simp[lO hkn,uS]) (Sr.row_cds (own:=own2) hta3 htb3),trivial⟩) ?_;cases hP:s.pos (N++[(i:Int)])
        .try (simp[lO hkn,uS,rI_cut,hw])
         repeat ((first|refine sR ?_|refine sC ?_|refine sX ?_);simp[lO hkn,uS,rI_cut,hw])
         simp only[uL hkn,upd_upd];refine sE ?_;exact⟨⟨i+1,out2,nt2,b2,own2,_,nt2+1⟩,⟨hli,by rw[hfold,Sr.stNp,hok,hP];simp,ho2,htk3,Nat.le_succ_of_le hnt2⟩,by simp only;omega,Weaks.mk' (Nat.le_succ_of_le hnt2) (by simp[ToL,lk];exact to_ptr (by rw[lO hkn,uS];simp)) (by simp[BoxL,lk]) (outFd (s:=s) (nl:=nl) (fm:=fm) (N:=N) (E:=[]) (a:=nt2) (b:=b2) (out:=out2) (own:=own2) rfl)⟩
        .try (simp[lO hkn,uS])
         repeat ((first|refine sR ?_|refine sC ?_|refine sX ?_);simp[lO hkn,uS])
         refine Stop.of_a (ih (N++[(i:Int)]) out2 nt2 b2 own2 _ _ k _ _ (by simp;omega) ho2 (by simp[lO hkn,uS]) htk3) ?_;rintro v m' ⟨rfl,a3,b3,own3,tok3,nt3,rfl,htk4,hle4⟩;have hle4:nt2+1<=nt3:=hle4
         have hle5:nt<=nt3:=by omega
         simp[uL hkn,upd_upd];try (simp[lO hkn,uS,rI_cut,hw])
         repeat ((first|refine sR ?_|refine sC ?_|refine sX ?_);simp[lO hkn,uS,rI_cut,hw])
         simp only[uL hkn,upd_upd];refine sE ?_;exact⟨⟨i+1,s.fnP fm r (N++[(i:Int)]) out2,a3,b3,own3,tok3,nt3⟩,⟨hli,by rw[hfold,Sr.stNp,hok,hP];simp,Sr.fnP_len h ho2,htk4,by omega⟩,by simp only;omega,Weaks.mk' hle5 (by simp[ToL,lk];exact to_ptr (by rw[lO hkn,uS];simp)) (by simp[BoxL,lk]) (outFd (s:=s) (nl:=nl) (fm:=fm) (N:=N) (E:=[]) (a:=a3) (b:=b3) (out:=s.fnP fm r (N++[(i:Int)]) out2) (own:=own3) rfl)⟩
       .have hok:s.okN N i=true:=by rw[hokN,usB,if_neg (by simp[ei])]
        refine sR ?_;simp[lO hkn,uS,p0,bw,hw,hlt,hq,hu,hq2,hu2,isD,hlt1,hlt2,hrow,hcol,hB,ei];refine sC ?_;simp;try (simp[lO hkn,uS])
        repeat ((first|refine sR ?_|refine sC ?_|refine sX ?_);simp[lO hkn,uS])
        refine⟨⟨by omega,hta⟩,?_⟩;have htk3:=htk2.app;simp only[uL hkn,upd_upd];have hta3:(upd (upd tok2 a2 false) nt2 true) nt2=true:=uS _ _ _
        have htb3:(upd (upd tok2 a2 false) nt2 true) b2=true:=htk3.swap.live
        have hpos:=possibleF_c s h nl hnl fm (N++[(i:Int)]) [] (by simp;omega) out2;try (simp[lO hkn,uS])
        repeat ((first|refine sR ?_|refine sC ?_|refine sX ?_);simp[lO hkn,uS])
        refine Stop.of_r (RCall.lends rfl (fun tok=>hpos tok (nt2+1)) ⟨.ptr (row:=s.rowF nl fm (N++[(i:Int)]) nt2 [] b2 out2 own2) (by simp[lO hkn,uS]) (Sr.row_cds (own:=own2) hta3 htb3),trivial⟩) ?_;cases hP:s.pos (N++[(i:Int)])
        .try (simp[lO hkn,uS,rI_cut,hw])
         repeat ((first|refine sR ?_|refine sC ?_|refine sX ?_);simp[lO hkn,uS,rI_cut,hw])
         simp only[uL hkn,upd_upd];refine sE ?_;exact⟨⟨i+1,out2,nt2,b2,own2,_,nt2+1⟩,⟨hli,by rw[hfold,Sr.stNp,hok,hP];simp,ho2,htk3,Nat.le_succ_of_le hnt2⟩,by simp only;omega,Weaks.mk' (Nat.le_succ_of_le hnt2) (by simp[ToL,lk];exact to_ptr (by rw[lO hkn,uS];simp)) (by simp[BoxL,lk]) (outFd (s:=s) (nl:=nl) (fm:=fm) (N:=N) (E:=[]) (a:=nt2) (b:=b2) (out:=out2) (own:=own2) rfl)⟩
        .try (simp[lO hkn,uS])
         repeat ((first|refine sR ?_|refine sC ?_|refine sX ?_);simp[lO hkn,uS])
         refine Stop.of_a (ih (N++[(i:Int)]) out2 nt2 b2 own2 _ _ k _ _ (by simp;omega) ho2 (by simp[lO hkn,uS]) htk3) ?_;rintro v m' ⟨rfl,a3,b3,own3,tok3,nt3,rfl,htk4,hle4⟩;have hle4:nt2+1<=nt3:=hle4
         have hle5:nt<=nt3:=by omega
         simp[uL hkn,upd_upd];try (simp[lO hkn,uS,rI_cut,hw])
         repeat ((first|refine sR ?_|refine sC ?_|refine sX ?_);simp[lO hkn,uS,rI_cut,hw])
         simp only[uL hkn,upd_upd];refine sE ?_;exact⟨⟨i+1,s.fnP fm r (N++[(i:Int)]) out2,a3,b3,own3,tok3,nt3⟩,⟨hli,by rw[hfold,Sr.stNp,hok,hP];simp,Sr.fnP_len h ho2,htk4,by omega⟩,by simp only;omega,Weaks.mk' hle5 (by simp[ToL,lk];exact to_ptr (by rw[lO hkn,uS];simp)) (by simp[BoxL,lk]) (outFd (s:=s) (nl:=nl) (fm:=fm) (N:=N) (E:=[]) (a:=a3) (b:=b3) (out:=s.fnP fm r (N++[(i:Int)]) out2) (own:=own3) rfl)⟩
     .cases hB:isB s.t (u:Int) (q:Int)
      .have hok:s.okN N i=false:=by rw[hokN,hB];simp
       try (simp[lO hkn,uS,p0,hw,hlt,hq,hu,hq2,hu2,isD,hlt1,hlt2,hrow,hcol,hB])
       repeat ((first|refine sR ?_|refine sC ?_|refine sX ?_);simp[lO hkn,uS,p0,hw,hlt,hq,hu,hq2,hu2,isD,hlt1,hlt2,hrow,hcol,hB])
       refine sE ?_;exact⟨⟨i+1,out2,a2,b2,own2,tok2,nt2⟩,⟨hli,by rw[hfold,Sr.stNp,hok];simp,ho2,htk2,hnt2⟩,by simp only;omega,Weaks.mk' (by have:=htk2.le;omega) (by simp[ToL,lk];exact to_ptr (by rw[lO hkn,uS];simp)) (by simp[BoxL,lk]) (outFd rfl)⟩
      .rw[hB] at hokN;refine skip _ (fun ei ed=>?_) (fun ei ed=>?_) (fun ei=>?_)
       .have hok:s.okN N i=false:=by rw[hokN,usB,if_pos ei,ed];rfl
        try (simp[lO hkn,uS,p0,hw,hlt,hq,hu,hq2,hu2,isD,hlt1,hlt2,hrow,hcol,hB,ei])
        repeat ((first|refine sR ?_|refine sC ?_|refine sX ?_);simp[lO hkn,uS,p0,hw,hlt,hq,hu,hq2,hu2,isD,hlt1,hlt2,hrow,hcol,hB,ei])
        refine Stop.of_r (RCall.lends rfl (fun tok=>contains_c N i (by omega) tok nt2) ⟨.stk hta,.same (by simp),trivial⟩) ?_;rw[ed];try (simp[hw])
        repeat ((first|refine sR ?_|refine sC ?_|refine sX ?_);simp[hw])
        refine sE ?_;exact⟨⟨i+1,out2,a2,b2,own2,tok2,nt2⟩,⟨hli,by rw[hfold,Sr.stNp,hok];simp,ho2,htk2,hnt2⟩,by simp only;omega,Weaks.mk' (by have:=htk2.le;omega) (by simp[ToL,lk];exact to_ptr (by rw[lO hkn,uS];simp)) (by simp[BoxL,lk]) (outFd rfl)⟩
       .have hok:s.okN N i=true:=by rw[hokN,usB,if_pos ei,ed];rfl
        try (simp[lO hkn,uS,p0,hw,hlt,hq,hu,hq2,hu2,isD,hlt1,hlt2,hrow,hcol,hB,ei])
        repeat ((first|refine sR ?_|refine sC ?_|refine sX ?_);simp[lO hkn,uS,p0,hw,hlt,hq,hu,hq2,hu2,isD,hlt1,hlt2,hrow,hcol,hB,ei])
        refine Stop.of_r (RCall.lends rfl (fun tok=>contains_c N i (by omega) tok nt2) ⟨.stk hta,.same (by simp),trivial⟩) ?_;rw[ed];try (simp[lO hkn,uS])
        repeat ((first|refine sR ?_|refine sC ?_|refine sX ?_);simp[lO hkn,uS])
        refine⟨⟨by omega,hta⟩,?_⟩;have htk3:=htk2.app;simp only[uL hkn,upd_upd];have hta3:(upd (upd tok2 a2 false) nt2 true) nt2=true:=uS _ _ _
        have htb3:(upd (upd tok2 a2 false) nt2 true) b2=true:=htk3.swap.live
        have hpos:=possibleF_c s h nl hnl fm (N++[(i:Int)]) [] (by simp;omega) out2;try (simp[lO hkn,uS])
        repeat ((first|refine sR ?_|refine sC ?_|refine sX ?_);simp[lO hkn,uS])
        refine Stop.of_r (RCall.lends rfl (fun tok=>hpos tok (nt2+1)) ⟨.ptr (row:=s.rowF nl fm (N++[(i:Int)]) nt2 [] b2 out2 own2) (by simp[lO hkn,uS]) (Sr.row_cds (own:=own2) hta3 htb3),trivial⟩) ?_;cases hP:s.pos (N++[(i:Int)])
        .try (simp[lO hkn,uS,rI_cut,hw])
         repeat ((first|refine sR ?_|refine sC ?_|refine sX ?_);simp[lO hkn,uS,rI_cut,hw])
         simp only[uL hkn,upd_upd];refine sE ?_;exact⟨⟨i+1,out2,nt2,b2,own2,_,nt2+1⟩,⟨hli,by rw[hfold,Sr.stNp,hok,hP];simp,ho2,htk3,Nat.le_succ_of_le hnt2⟩,by simp only;omega,Weaks.mk' (Nat.le_succ_of_le hnt2) (by simp[ToL,lk];exact to_ptr (by rw[lO hkn,uS];simp)) (by simp[BoxL,lk]) (outFd (s:=s) (nl:=nl) (fm:=fm) (N:=N) (E:=[]) (a:=nt2) (b:=b2) (out:=out2) (own:=own2) rfl)⟩
        .try (simp[lO hkn,uS])
         repeat ((first|refine sR ?_|refine sC ?_|refine sX ?_);simp[lO hkn,uS])
         refine Stop.of_a (ih (N++[(i:Int)]) out2 nt2 b2 own2 _ _ k _ _ (by simp;omega) ho2 (by simp[lO hkn,uS]) htk3) ?_;rintro v m' ⟨rfl,a3,b3,own3,tok3,nt3,rfl,htk4,hle4⟩;have hle4:nt2+1<=nt3:=hle4
         have hle5:nt<=nt3:=by omega
         simp[uL hkn,upd_upd];try (simp[lO hkn,uS,rI_cut,hw])
         repeat ((first|refine sR ?_|refine sC ?_|refine sX ?_);simp[lO hkn,uS,rI_cut,hw])
         simp only[uL hkn,upd_upd];refine sE ?_;exact⟨⟨i+1,s.fnP fm r (N++[(i:Int)]) out2,a3,b3,own3,tok3,nt3⟩,⟨hli,by rw[hfold,Sr.stNp,hok,hP];simp,Sr.fnP_len h ho2,htk4,by omega⟩,by simp only;omega,Weaks.mk' hle5 (by simp[ToL,lk];exact to_ptr (by rw[lO hkn,uS];simp)) (by simp[BoxL,lk]) (outFd (s:=s) (nl:=nl) (fm:=fm) (N:=N) (E:=[]) (a:=a3) (b:=b3) (out:=s.fnP fm r (N++[(i:Int)]) out2) (own:=own3) rfl)⟩
       .have hok:s.okN N i=true:=by rw[hokN,usB,if_neg (by simp[ei])]
        refine sR ?_;simp[lO hkn,uS,p0,hw,hlt,hq,hu,hq2,hu2,isD,hlt1,hlt2,hrow,hcol,hB,ei];refine sC ?_;simp;try (simp[lO hkn,uS])
        repeat ((first|refine sR ?_|refine sC ?_|refine sX ?_);simp[lO hkn,uS])
        refine⟨⟨by omega,hta⟩,?_⟩;have htk3:=htk2.app;simp only[uL hkn,upd_upd];have hta3:(upd (upd tok2 a2 false) nt2 true) nt2=true:=uS _ _ _
        have htb3:(upd (upd tok2 a2 false) nt2 true) b2=true:=htk3.swap.live
        have hpos:=possibleF_c s h nl hnl fm (N++[(i:Int)]) [] (by simp;omega) out2;try (simp[lO hkn,uS])
        repeat ((first|refine sR ?_|refine sC ?_|refine sX ?_);simp[lO hkn,uS])
        refine Stop.of_r (RCall.lends rfl (fun tok=>hpos tok (nt2+1)) ⟨.ptr (row:=s.rowF nl fm (N++[(i:Int)]) nt2 [] b2 out2 own2) (by simp[lO hkn,uS]) (Sr.row_cds (own:=own2) hta3 htb3),trivial⟩) ?_;cases hP:s.pos (N++[(i:Int)])
        .try (simp[lO hkn,uS,rI_cut,hw])
         repeat ((first|refine sR ?_|refine sC ?_|refine sX ?_);simp[lO hkn,uS,rI_cut,hw])
         simp only[uL hkn,upd_upd];refine sE ?_;exact⟨⟨i+1,out2,nt2,b2,own2,_,nt2+1⟩,⟨hli,by rw[hfold,Sr.stNp,hok,hP];simp,ho2,htk3,Nat.le_succ_of_le hnt2⟩,by simp only;omega,Weaks.mk' (Nat.le_succ_of_le hnt2) (by simp[ToL,lk];exact to_ptr (by rw[lO hkn,uS];simp)) (by simp[BoxL,lk]) (outFd (s:=s) (nl:=nl) (fm:=fm) (N:=N) (E:=[]) (a:=nt2) (b:=b2) (out:=out2) (own:=own2) rfl)⟩
        .try (simp[lO hkn,uS])
         repeat ((first|refine sR ?_|refine sC ?_|refine sX ?_);simp[lO hkn,uS])
         refine Stop.of_a (ih (N++[(i:Int)]) out2 nt2 b2 own2 _ _ k _ _ (by simp;omega) ho2 (by simp[lO hkn,uS]) htk3) ?_;rintro v m' ⟨rfl,a3,b3,own3,tok3,nt3,rfl,htk4,hle4⟩;have hle4:nt2+1<=nt3:=hle4
         have hle5:nt<=nt3:=by omega
         simp[uL hkn,upd_upd];try (simp[lO hkn,uS,rI_cut,hw])
         repeat ((first|refine sR ?_|refine sC ?_|refine sX ?_);simp[lO hkn,uS,rI_cut,hw])
         simp only[uL hkn,upd_upd];refine sE ?_;exact⟨⟨i+1,s.fnP fm r (N++[(i:Int)]) out2,a3,b3,own3,tok3,nt3⟩,⟨hli,by rw[hfold,Sr.stNp,hok,hP];simp,Sr.fnP_len h ho2,htk4,by omega⟩,by simp only;omega,Weaks.mk' hle5 (by simp[ToL,lk];exact to_ptr (by rw[lO hkn,uS];simp)) (by simp[BoxL,lk]) (outFd (s:=s) (nl:=nl) (fm:=fm) (N:=N) (E:=[]) (a:=a3) (b:=b3) (out:=s.fnP fm r (N++[(i:Int)]) out2) (own:=own3) rfl)⟩
   .have:i=s.g.nodes.length:=by omega
    subst this;try (simp[lO hkn,uS])
    repeat ((first|refine sR ?_|refine sC ?_|refine sX ?_);simp[lO hkn,uS])
    refine sN ?_;refine sE ?_;refine⟨by simp,(Fin.gen (vs:=[]) (av:=.tup []) (tok':=tok2) (nt':=nt2) (by simp[resAs,resA]) ?_ hnt2 (nr _) (fun t h=>⟨h,.inl rfl⟩) (outFd (by simp)) (by simp)).mono fun v m hq=>⟨hq.1,a2,b2,own2,tok2,nt2,?_,htk2,hnt2⟩⟩
    .rw[<-uL hkn,Hb]
    .rw[hq.2,Sr.fnP,fndN,if_neg hbig,hout];rfl
theorem to_frzW{p q:Nat->Prop}{k n:Nat}{L:List Bool}(h:L.length=n):To p q (some (k,1,L.map fun b=>[D.raw (.bool b)])) (.msl k 0 n 1) (.d (blB L)):=by
 have h2:=To.frz (p:=p) (q:=q) (fz:=some (k,1,L.map fun b=>[D.raw (.bool b)])) (k:=k) (sz:=1) (es:=L.map fun b=>[D.raw (.bool b)]) rfl;have:(L.map fun b=>[D.raw (.bool b)]).length=n:=by simp[h]
 rw[this] at h2;exact h2
def mkB(n:Nat)(l:List Int):List Bool:=(List.range n).map fun (b:Nat)=>decide ((b:Int)∈l)
theorem mkB_len(n:Nat)(l:List Int):(mkB n l).length=n:=by simp[mkB]
theorem mkB_nil(n:Nat):List.replicate n [B false]=rowsB (mkB n []):=by
 refine List.ext_getElem (by simp[mkB]) fun i h1 h2=>?_
 simp[rowsB,mkB]
theorem mkB_set{n:Nat}{l:List Int}{v:Int}(h0:0<=v):(mkB n l).set v.toNat true=mkB n (l++[v]):=by
 refine List.ext_getElem (by simp[mkB]) fun i h1 h2=>?_
 rw[List.getElem_set];simp only[mkB,List.getElem_map,List.getElem_range,List.mem_append,List.mem_singleton];by_cases e:v.toNat=i
 .rw[if_pos e];have:(i:Int)=v:=by omega
  simp[this]
 .rw[if_neg e];have:¬(i:Int)=v:=by omega
  simp[this]
theorem mkB_row(t:Ty)(a:Nat):mkB t.nodes.length (belK t (a:Int) t.nodes.length)=isRow t a:=by
 refine List.ext_getElem (by simp[mkB,isRow]) fun i h1 h2=>?_
 simp only[mkB,isRow,List.getElem_map,List.getElem_range];have hi:i<t.nodes.length:=by simpa[mkB] using h1
 unfold belK;by_cases h:isB t (i:Int) (a:Int)=true
 .rw[h,decide_eq_true_eq];exact List.mem_map.2 ⟨i,List.mem_filter.2 ⟨List.mem_range.2 hi,h⟩,rfl⟩
 .simp only[Bool.not_eq_true] at h;rw[h,decide_eq_false_iff_not];intro hm;obtain⟨x,hx,e⟩:=List.mem_map.1 hm;obtain⟨_,hx⟩:=List.mem_filter.1 hx;have:x=i:=by omega
  subst this;rw[h] at hx;cases hx
theorem isTb_take{t:Ty}{i:Nat}(h:i<t.nodes.length):(isTb t).take (i+1)=(isTb t).take i++[isRow t i]:=by
 have hl:i<(isTb t).length:=by simp[isTb];exact h
 rw[List.take_succ_eq_append_getElem hl,isD_row h]
def isRs(t:Ty)(i:Nat):List (List D):=((isTb t).take i).map fun r=>[blB r]
theorem isRs_succ{t:Ty}{i:Nat}(h:i<t.nodes.length):isRs t (i+1)=isRs t i++[[blB (isRow t i)]]:=by
 unfold isRs;rw[isTb_take h,List.map_append];rfl
theorem isRs_len(t:Ty)(i:Nat):(isRs t i).length<=i:=by unfold isRs;rw[List.length_map,List.length_take];omega
def stBl(t:Ty)(nb:Nat)(box:Bxs)(x:Acc):AS :=
 ⟨tl [(13,I x.i),(12,I t.nodes.length),(11,.d (nts t.nodes)),(3,.osl 1 (isRs t x.i) x.own),(1,.ptr (nb+1) 0 0)],lb nb box [(1,[[.d (nts t.nodes),.d (ets t.edges)]])],x.tok,x.nt⟩
def stBm(t:Ty)(i:Nat)(L:List Int)(own:Own)(nb:Nat)(box:Bxs)(tok:Tks)(nt:Nat)(j:Nat):AS :=
 ⟨tl [(28,I j),(27,I L.length),(26,.d (ints L)),(5,.msl (nb+19) 0 t.nodes.length 1),(13,I i),(12,I t.nodes.length),(11,.d (nts t.nodes)),(3,.osl 1 (isRs t i) own),(1,.ptr (nb+1) 0 0)],
  lb nb box [(19,rowsB (mkB t.nodes.length (L.take j))),(1,[[.d (nts t.nodes),.d (ets t.edges)]])],tok,nt⟩
theorem belowF_c(t:Ty)(ht:t.Fit)(h0:tyE t=0):DC 285 [t.av] (.d (isD t)):=by
 intro tok nt box nb;have htn:=ht.n;have hb:=fun a=>below_c t ht a
 refine sI func285 ntmps285 fun Hb Ht=>?_
 repeat first|simp|refine sR ?_
 refine sN ?_;refine sL (stBl t nb box) (fun x=>x.i<=t.nodes.length/\TK tok nt x.tok x.nt [x.own]) (fun x=>t.nodes.length-x.i) ⟨0,.full,tok,nt⟩ ⟨Nat.zero_le _,(TK.start Ht).full⟩ (wM (nr _) rfl (by simp[ToL,lk,isRs]) (by simp[BoxL,lk])) ?_;rintro⟨i,own,tok',nt'⟩ S ⟨hi,htk⟩ hS;simp only[stBl] at hS hi htk;subst hS;have hw:=sW (i:=i) (by omega);by_cases hlt:i<t.nodes.length
 .have hrow:=mkB_row t i;have hs:=isRs_succ hlt;have hsl:=isRs_len t i;have hlR:belR t (i:Int)=(belK t (i:Int) t.nodes.length,0):=by
   unfold belR;rw[givE_leaf h0 (by omega),if_neg (by omega)]
  have hLn:∀v∈belK t (i:Int) t.nodes.length,0<=v/\v<t.nodes.length:=by
   intro v hv;unfold belK at hv;simp only[List.mem_map,List.mem_filter,List.mem_range] at hv;obtain⟨x,⟨hx,_⟩,rfl⟩:=hv;omega
  have hLl:=belK_len t (i:Int) t.nodes.length;have hbi:=hb (i:Int);rw[hlR] at hbi;generalize belK t (i:Int) t.nodes.length=L at *;try (simp[hlt])
  repeat ((first|refine sR ?_|refine sC ?_|refine sX ?_);simp[hlt])
  refine⟨by omega,?_⟩;try (simp)
  repeat ((first|refine sR ?_|refine sC ?_|refine sX ?_);simp)
  refine sD (hbi _ _) ?_;simp;try (simp)
  repeat ((first|refine sR ?_|refine sC ?_|refine sX ?_);simp)
  refine sN ?_;refine sL (stBm t i L own nb box tok' nt') (fun j=>j<=L.length) (fun j=>L.length-j) 0 (Nat.zero_le _) (wM htk.le rfl (by simp[ToL,lk]) (by simp[BoxL,lk,mkB_nil])) ?_;rintro j S hj hS;simp only[stBm] at hS;subst hS;have hwj:=sW (i:=j) (by omega);by_cases hlj:j<L.length
  .obtain⟨v0,v1⟩:=hLn _ (List.getElem_mem hlj);have hset:(mkB t.nodes.length (L.take j)).set L[j].toNat true=mkB t.nodes.length (L.take (j+1)):=by
    rw[mkB_set v0,<-List.take_succ_eq_append_getElem hlj]
   have hml:=mkB_len t.nodes.length (L.take j);have v2:L[j].toNat<t.nodes.length:=by omega
   try (simp[hlj,v0,v1,v2,hml,hwj])
   repeat ((first|refine sR ?_|refine sC ?_|refine sX ?_);simp[hlj,v0,v1,v2,hml,hwj])
   refine sE ?_;exact⟨j+1,hlj,by omega,wM htk.le rfl (by simp[ToL,lk]) (by simp[BoxL,lk,hset])⟩
  .have:j=L.length:=by omega
   subst this;rw[List.take_length,hrow];refine sR ?_;simp;refine sC ?_;simp;refine sX ?_;simp only[AU,↓reduceIte];have hrl:(isRow t i).length=t.nodes.length:=by simp[isRow]
   refine AL.weak (Weaks.frz (l':=[(5,.d (blB (isRow t i))),(13,I i),(12,I t.nodes.length),(11,.d (nts t.nodes)),(3,.osl 1 (isRs t i) own),(1,.ptr (nb+1) 0 0)]) (loc':=[(1,[[.d (nts t.nodes),.d (ets t.edges)]])]) 19 1 ((isRow t i).map fun b=>[D.raw (.bool b)]) htk.le rfl (by simp[lk,rowsB_eq]) (by simp[lk]) (fun e he=>by obtain⟨b,_,rfl⟩:=List.mem_map.1 he;rfl) (by simp[ToL,lk,lb_at];exact to_frzW hrl) (by simp[BoxL,lk])) ?_;try (simp)
   repeat ((first|refine sR ?_|refine sC ?_|refine sX ?_);simp)
   refine⟨⟨by omega,htk.live⟩,?_⟩;try (simp[hw])
   repeat ((first|refine sR ?_|refine sC ?_|refine sX ?_);simp[hw])
   refine sE ?_;exact⟨⟨i+1,_,_,_⟩,⟨hlt,htk.app⟩,by simp only;omega,wM htk.app.le rfl (by simp[ToL,lk,hs]) (by simp[BoxL,lk])⟩
 .have:i=t.nodes.length:=by omega
  subst this;have htl:isRs t t.nodes.length=(isTb t).map fun r=>[blB r]:=by unfold isRs;rw[List.take_of_length_le (by simp[isTb])]
  rw[htl];try (simp)
  repeat ((first|refine sR ?_|refine sC ?_|refine sX ?_);simp)
  refine sN ?_;refine AL.ret ?_;try simp only[AU]
  exact⟨by simp,Fin.data (av:=.d (isD t)) (by simp[resAs,resA];rfl) Hb rfl Ht htk.old htk.le (by simp[isD])⟩
theorem within1_c(x:Int)(box:Bxs)(nb k:Nat)(tok:Tks)(nt:Nat)(t:Ty)(hk:box k=some [[.d (nts t.nodes),.d (ets t.edges)]]):
  ACalls prog 283 [I x,.ptr k 0 0] ⟨box,nb,tok,nt⟩ fun v m=>v=B (decide ((t.nodes.length:Int)<=x))/\m=⟨box,nb,tok,nt⟩:=by
 refine sI func283 ntmps283 fun Hb Ht=>?_
 have kn:=key_lt Hb hk;repeat first|simp[lO kn,hk]|refine sR ?_
 refine sT (sH Hb Ht ?_);simp
theorem within2_c(x:E)(box:Bxs)(nb k:Nat)(tok:Tks)(nt:Nat)(t:Ty)(hk:box k=some [[.d (nts t.nodes),.d (ets t.edges)]]):
  ACalls prog 284 [.agg [I x.ty,I x.fr,I x.to],.ptr k 0 0] ⟨box,nb,tok,nt⟩ fun v m=>v=B (decide ((t.edges.length:Int)<=x.ty))/\m=⟨box,nb,tok,nt⟩:=by
 refine sI func284 ntmps284 fun Hb Ht=>?_
 have kn:=key_lt Hb hk;repeat first|simp[lO kn,hk]|refine sR ?_
 refine sT (sH Hb Ht ?_);simp
def wiN(t:Ty)(x:Int):Bool:=decide ((t.nodes.length:Int)<=x)
def wiX(t:Ty)(x:E):Bool:=decide ((t.edges.length:Int)<=x.ty)
theorem typG_wi{t:Ty}{g:Gr}(hv:vG g=0):typG t g=(!anyB (wiN t) g.nodes&&!anyB (wiX t) g.edges):=by
 obtain⟨_,h1,h2⟩:=validG_types hv;unfold typG anyB;congr 1
 .rw[Bool.eq_iff_iff,List.all_eq_true,Bool.not_eq_true',List.any_eq_false];refine⟨fun h x hx=>?_,fun h x hx=>?_⟩
  .have:=h x hx
   simp[typN,wiN] at this ⊢;omega
  .have a:=h x hx;have b:=h1 x hx;simp[typN,wiN,withinB] at a b ⊢;omega
 .rw[Bool.eq_iff_iff,List.all_eq_true,Bool.not_eq_true',List.any_eq_false];refine⟨fun h x hx=>?_,fun h x hx=>?_⟩
  .have:=h x hx
   simp[typX,wiX] at this ⊢;omega
  .have a:=h x hx;have b:=h2 x hx;simp[typX,wiX,fitsB,withinB] at a b ⊢;omega
theorem withinF_c(t:Ty)(ht:t.Fit)(g:Gr)(hg:g.Fit)(hv:vG g=0):DC 239 [t.av,g.av] (B (typG t g)):=by
 intro tok nt box nb;have h1:=fun y box nb k tok nt hbk=>within1_c y box nb k tok nt t hbk
 have h2:=fun y box nb k tok nt hbk=>within2_c y box nb k tok nt t hbk
 rw[typG_wi hv];obtain⟨p,hp⟩:∃p,wiN t=p:=⟨_,rfl⟩
 obtain⟨q,hq⟩:∃q,wiX t=q:=⟨_,rfl⟩
 have e1:∀y,decide ((t.nodes.length:Int)<=y)=p y:=fun y=>by rw[<-hp];rfl
 have e2:∀y:E,decide ((t.edges.length:Int)<=y.ty)=q y:=fun y=>by rw[<-hq];rfl
 simp only[e1] at h1;simp only[e2] at h2;rw[hp,hq];have hgn:=hg.n;have hge:=hg.e;refine sI func239 ntmps239 fun Hb Ht=>?_
 repeat first|simp|refine sR ?_
 refine Stop.of_b (containsFunc_c g.nodes 283 [.ptr (nb+2) 0 0] p hgn _ _ _ _ (fun c hc=>by rw[List.mem_singleton.1 hc];simp[lb_at]) (fun y hy box' nb' he=>h1 y box' nb' _ _ _ (he _ _ (by simp[lb_at])))) ?_;simp;cases c1:anyB p g.nodes
 .repeat first|simp|refine sR ?_
  refine Stop.of_b (containsFuncE_c g.edges 284 [.ptr (nb+2) 0 0] q hge _ _ _ _ (fun c hc=>by rw[List.mem_singleton.1 hc];simp[lb_at]) (fun y hy box' nb' he=>h2 y box' nb' _ _ _ (he _ _ (by simp[lb_at])))) ?_;repeat first|simp|refine sR ?_
  refine sT (sH Hb Ht ?_);simp
 .repeat first|simp|refine sR ?_
  refine sT (sH Hb Ht ?_);simp
end Go.AM
