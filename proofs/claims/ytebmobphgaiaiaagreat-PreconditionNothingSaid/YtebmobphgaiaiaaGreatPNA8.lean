/-
 Parts of the proof, as merged from many texts: a machine over data, what the functions compute, plain laws.
-/
import Derived.Test.YtebmobphgaiaiaaGreatPNA7
set_option linter.unusedSimpArgs false
set_option linter.unusedVariables false
namespace Go.AM
open Go Go.Proofs Go.Shelf
open Go.Proofs.Tryz
def quoT(s:ByteArray)(n:Nat):Int :=
 if n<s.size then (if byteAt s n=34 then (n:Int)+1 else if byteAt s n<32∨126<byteAt s n then 0 else quoT s (n+1)) else 0
termination_by s.size-n
theorem quoT_end{s:ByteArray}{n:Nat}(h:¬n<s.size):quoT s n=0:=by rw[quoT,if_neg h]
theorem quoT_q{s:ByteArray}{n:Nat}(h:n<s.size)(h1:byteAt s n=34):quoT s n=(n:Int)+1:=by rw[quoT,if_pos h,if_pos h1]
theorem quoT_bad{s:ByteArray}{n:Nat}(h:n<s.size)(h1:¬byteAt s n=34)(h2:byteAt s n<32∨126<byteAt s n):quoT s n=0:=by rw[quoT,if_pos h,if_neg h1,if_pos h2]
theorem quoT_go{s:ByteArray}{n:Nat}(h:n<s.size)(h1:¬byteAt s n=34)(h2:¬(byteAt s n<32∨126<byteAt s n)):quoT s n=quoT s (n+1):=by rw[quoT,if_pos h,if_neg h1,if_neg h2]
theorem quoT_rng(s:ByteArray):∀(k n:Nat),s.size-n=k->1<=n->quoT s n=0∨2<=quoT s n/\quoT s n<=s.size
 | 0,n,hk,_=>.inl (quoT_end (by omega))
 | k+1,n,hk,h1=>by
  have hlt:n<s.size:=by omega
  by_cases e1:byteAt s n=34
  .rw[quoT_q hlt e1];right;omega
  .by_cases e2:byteAt s n<32∨126<byteAt s n
   .exact .inl (quoT_bad hlt e1 e2)
   .rw[quoT_go hlt e1 e2];exact quoT_rng s k (n+1) (by omega) (by omega)
def stQ01(s:ByteArray)(nb:Nat)(box:Bxs)(tok:Tks)(nt:Nat)(i:Nat):AS:=⟨tl [(0,Sb s),(1,I 0),(5,I i)],lb nb box [],tok,nt⟩
theorem quoted01_c(s:ByteArray)(hs:s.size<=200000000000000):DC 291 [Sb s,I 0] (I (quoT s 1)):=by
 intro tok nt box nb;refine sI func291 ntmps291 fun Hb Ht=>?_
 repeat first|simp|refine sR ?_
 refine sN ?_;by_cases h0:1<=s.size
 .refine sL (stQ01 s nb box tok nt) (fun i=>i<=s.size/\quoT s 1=quoT s i) (fun i=>s.size-i) 1 ⟨h0,rfl⟩ (wM (nr _) rfl (by simp[ToL,lk]) trivial) ?_;rintro i S' ⟨hi,hq⟩ hS;simp only[stQ01] at hS;subst hS;have hw:=sW (i:=i) (by omega);have hwi:IntKind.i64.wrap (i:Int)=i:=wrap_in (by omega) (by omega)
  by_cases hlt:i<s.size
  .have hbb:=byteAt_lt hlt;repeat (first|simp[hlt,hwi]|refine sR ?_)
   refine sC ?_
   repeat (first|simp[hlt,hwi]|refine sR ?_)
   rw[hbb];by_cases e1:byteAt s i=34
   .have b1:(byteAt s i==34)=true:=by simp[e1]
    have hr:=quoT_q hlt e1;simp only[b1];refine sC ?_;simp;repeat first|simp[hw]|refine sR ?_
    refine sT (sH Hb Ht ?_);simp[hq,hr]
   .have b1:(byteAt s i==34)=false:=by simp[e1]
    simp only[b1];refine sC ?_;simp;by_cases e2:byteAt s i<32
    .have hr:=quoT_bad hlt e1 (.inl e2);repeat first|simp[e2]|refine sR ?_
     refine sC ?_;repeat first|simp|refine sR ?_
     refine sT (sH Hb Ht ?_);simp[hq,hr]
    .by_cases e3:126<byteAt s i
     .have hr:=quoT_bad hlt e1 (.inr e3);repeat first|simp[e2,e3]|refine sR ?_
      refine sC ?_;repeat first|simp|refine sR ?_
      refine sT (sH Hb Ht ?_);simp[hq,hr]
     .have hr:=quoT_go hlt e1 (by omega);repeat first|simp[e2,e3]|refine sR ?_
      refine sC ?_;simp;repeat first|simp[hw]|refine sR ?_
      refine sE ?_;exact⟨i+1,⟨hlt,hq.trans hr⟩,by omega,wM (nr _) rfl (by simp[ToL,lk]) trivial⟩
  .have hr:=quoT_end hlt;repeat first|simp[hlt,hwi]|refine sR ?_|refine sC ?_
   refine sX ?_;simp only[AU,↓reduceIte];repeat first|simp|refine sR ?_
   refine sT (sH Hb Ht ?_);simp[hq,hr]
 .have hr:=quoT_end (s:=s) (n:=1) (by omega);refine sL (stQ01 s nb box tok nt) (fun i=>i=1) (fun i=>0) 1 rfl (wM (nr _) rfl (by simp[ToL,lk]) trivial) ?_;rintro i S' rfl hS;simp only[stQ01] at hS;subst hS;have h1:¬(1:Int)<s.size:=by omega
  have hwi:IntKind.i64.wrap (1:Int)=1:=rfl
  repeat first|simp[hwi,h1]|refine sR ?_|refine sC ?_
  refine sX ?_;simp only[AU,↓reduceIte];repeat first|simp|refine sR ?_
  refine sT (sH Hb Ht ?_);simp[hr]
def signL:List ByteArray:=[⟨#[45,62]⟩,⟨#[60,61]⟩,⟨#[62,61]⟩,⟨#[61,61]⟩,⟨#[33,61]⟩,⟨#[123]⟩,⟨#[125]⟩,⟨#[40]⟩,⟨#[41]⟩,⟨#[91]⟩,⟨#[93]⟩,⟨#[44]⟩,⟨#[59]⟩,⟨#[58]⟩,⟨#[61]⟩,⟨#[43]⟩,⟨#[45]⟩,⟨#[42]⟩,⟨#[60]⟩,⟨#[62]⟩,⟨#[33]⟩,⟨#[38]⟩,⟨#[124]⟩,⟨#[46]⟩,⟨#[63]⟩]
theorem signs01_c:DC 292 [] (.d (strs signL)):=by
 intro tok nt box nb;refine sI func292 ntmps292 fun Hb Ht=>?_
 repeat first|simp|refine sR ?_
 refine⟨rfl,?_⟩;repeat first|simp|refine sR ?_
 refine sT (sH Hb Ht ?_);simp[strs,signL]
def sgnT(s:ByteArray):List ByteArray->Int × ByteArray × Int × Int
 | []=>(0,⟨#[]⟩,0,2)
 | x::r=>if x.size<=s.size/\s.extract 0 x.size=x then (4,x,x.size,0) else sgnT s r
theorem sgnT_cons(s x:ByteArray)(r:List ByteArray):sgnT s (x::r)=if x.size<=s.size/\s.extract 0 x.size=x then ((4:Int),x,(x.size:Int),(0:Int)) else sgnT s r:=rfl
theorem sgnT_kind(s:ByteArray):∀l,(sgnT s l).1=4/\(sgnT s l).2.2.2=0∨(sgnT s l).2.2.2=2
 | []=>.inr rfl
 | x::r=>by
  unfold sgnT;split
  .exact .inl ⟨rfl,rfl⟩
  .exact sgnT_kind s r
def oneR(s:ByteArray):Int × ByteArray × Int × Int :=
 if letB (byteAt s 0)=true∨digB (byteAt s 0)=true then
  (if (if digB (byteAt s 0)=true then 9 else 20)<runN (pd (digB (byteAt s 0))) s 0 then (0,⟨#[]⟩,0,3)
   else (if digB (byteAt s 0)=true then 2 else 1,s.extract 0 (runN (pd (digB (byteAt s 0))) s 0),runN (pd (digB (byteAt s 0))) s 0,0))
 else if byteAt s 0=34 then (if quoT s 1=0 then (0,⟨#[]⟩,0,2) else if 60<quoT s 1-2 then (0,⟨#[]⟩,0,3) else (3,s.extract 1 ((quoT s 1).toNat-1),quoT s 1,0))
 else sgnT s signL
def stSg(s:ByteArray)(L:List ByteArray)(nb:Nat)(box:Bxs)(tok:Tks)(nt:Nat)(i:Nat):AS :=
 ⟨tl [(13,I i),(12,.d (strs L)),(4,.ptr (nb+4) 0 0),(0,Sb s),(1,I 0)],lb nb box [(4,[[I 0,Sb ⟨#[]⟩,I 0]])],tok,nt⟩
set_option maxRecDepth 100000 in
theorem one01_c(s:ByteArray)(h1:1<=s.size)(hs:s.size<=200000000000000):DC 261 [Sb s,I 0] (.tup [.agg [I (oneR s).1,Sb (oneR s).2.1,I 0],I (oneR s).2.2.1,I (oneR s).2.2.2]):=by
 intro tok nt box nb;obtain⟨N,hN⟩:∃N,oneR s=N:=⟨_,rfl⟩
 rw[hN];unfold oneR at hN;have hl:=letter01_c (byteAt s 0);have hd:=digit01_c (byteAt s 0);have hr:=fun d=>run01_c s d hs
 have hq:=quoted01_c s hs;have hqr:=quoT_rng s _ 1 rfl (nr _);have hsg:=signs01_c;have h0:0<s.size:=h1
 have h0':(0:Int)<s.size:=by omega
 have hb:=byteAt_lt h0;have hrl:runN (pd (digB (byteAt s 0))) s 0<=s.size:=runN_le _ _ _
 cases ed:digB (byteAt s 0)
 .rw[ed] at hd hrl hN;cases el:letB (byteAt s 0)
  .rw[el] at hl hN;rw[if_neg (by simp)] at hN;refine sI func261 ntmps261 fun Hb Ht=>?_
   repeat first|simp[h0,h0']|refine sR ?_
   rw[hb];refine sD (hl _ _) ?_;repeat first|simp|refine sR ?_
   refine sD (hd _ _) ?_;repeat (first|simp|refine sR ?_)
   refine sC ?_
   repeat (first|simp|refine sR ?_)
   by_cases e3:byteAt s 0=34
   .rw[if_pos e3] at hN;have b3:(byteAt s 0==34)=true:=by simp[e3]
    generalize quoT s 1=q at *;repeat first|simp[b3]|refine sR ?_
    refine sC ?_;repeat first|simp|refine sR ?_
    refine sD (hq _ _) ?_;simp;by_cases q0:q=0
    .have b4:(q==0)=true:=by simp[q0]
     rw[if_pos q0] at hN;repeat first|simp[b4]|refine sR ?_
     refine sC ?_;repeat first|simp|refine sR ?_
     refine sT (sH Hb Ht ?_);simp[<-hN]
    .have b4:(q==0)=false:=by simp[q0]
     obtain⟨q1,q2⟩:=hqr.resolve_left q0;rw[if_neg q0] at hN;have w1:IntKind.i64.wrap (q-2)=q-2:=wrap_in (by omega) (by omega)
     have w2:IntKind.i64.wrap q=q:=wrap_in (by omega) (by omega)
     have w3:IntKind.i64.wrap (q-1)=q-1:=wrap_in (by omega) (by omega)
     have w4:IntKind.i64.wrap 1=1:=rfl
     by_cases q3:60<q-2
     .rw[if_pos q3] at hN;repeat first|simp[b4]|refine sR ?_
      refine sC ?_;simp;repeat first|simp[w1]|refine sR ?_
      refine sC ?_;simp[q3];repeat first|simp|refine sR ?_
      refine sT (sH Hb Ht ?_);simp[<-hN]
     .rw[if_neg q3] at hN;have q4:(1:Int)<=q-1:=by omega
      have q5:q-1<=s.size:=by omega
      have q6:1<=q.toNat-1:=by omega
      have q7:q.toNat-1<=s.size:=by omega
      have q8:0<=q-1:=by omega
      repeat first|simp[b4]|refine sR ?_
      refine sC ?_;simp;repeat first|simp[w1]|refine sR ?_
      refine sC ?_;simp[q3];repeat first|simp[w2,w3,w4,q4,q5,q6,q7,q8]|refine sR ?_
      refine⟨by omega,?_⟩;repeat first|simp|refine sR ?_
      refine sT (sH Hb Ht ?_);simp[<-hN]
   .rw[if_neg e3] at hN;have b3:(byteAt s 0==34)=false:=by simp[e3]
    repeat first|simp[b3]|refine sR ?_
    refine sC ?_;repeat first|simp|refine sR ?_
    refine sD (hsg _ _) ?_;repeat first|simp|refine sR ?_
    refine sN ?_;refine sL (stSg s signL nb box tok nt) (fun i=>i<=signL.length/\sgnT s signL=sgnT s (signL.drop i)) (fun i=>signL.length-i) 0 ⟨Nat.zero_le _,rfl⟩ wkA ?_;rintro i S' ⟨hi,hsq⟩ hS;simp only[stSg] at hS;subst hS;have hlen:signL.length<=1000:=by decide
    have hmax:∀x∈signL,x.size<=2:=by decide
    generalize signL=L at *;have hw:=sW (i:=i) (by omega);repeat first|simp|refine sR ?_|refine sC ?_
    refine⟨fun hlt=>?_,fun hge=>?_⟩
    .have hx:=hmax _ (List.getElem_mem hlt);have hdr:L.drop i=L[i]::L.drop (i+1):=List.drop_eq_getElem_cons hlt
     have hwx:IntKind.i64.wrap (L[i].size:Int)=L[i].size:=wrap_in (by omega) (by omega)
     rw[hdr] at hsq;rw[sgnT_cons] at hsq;by_cases c1:L[i].size<=s.size
     .have c1':(L[i].size:Int)<=s.size:=by omega
      by_cases c2:s.extract 0 L[i].size=L[i]
      .have b2:((s.extract 0 L[i].size).toList==L[i].toList)=true:=by rw[seq_dec];simp[c2]
       rw[if_pos ⟨c1,c2⟩] at hsq;repeat first|simp[hlt,hwx,c1,c1',b2]|refine sR ?_
       refine sC ?_;simp[hlt,hwx,c1,c1',b2]
       refine sN ?_;refine AL.region2 follows_Tryz (nr _) (by kernel_rfl) (Side.of (by simp)) ?_;simp[hlt];refine sT (sH Hb Ht ?_);simp[hsq,<-hN]
      .have b2:((s.extract 0 L[i].size).toList==L[i].toList)=false:=by rw[seq_dec];simp[c2]
       rw[if_neg fun h=>c2 h.2] at hsq;repeat first|simp[hlt,hwx,c1,c1',b2]|refine sR ?_
       refine sC ?_;simp;repeat first|simp[hw]|refine sR ?_
       refine sE ?_;exact⟨i+1,⟨hlt,hsq⟩,by omega,wkA⟩
     .have c1':¬(L[i].size:Int)<=s.size:=by omega
      rw[if_neg fun h=>c1 h.1] at hsq;repeat first|simp[hlt,hwx,c1,c1']|refine sR ?_
      refine sC ?_;simp;repeat first|simp[hw]|refine sR ?_
      refine sE ?_;exact⟨i+1,⟨hlt,hsq⟩,by omega,wkA⟩
    .refine sX ?_;simp only[AU,↓reduceIte];repeat first|simp|refine sR ?_
     have hie:i=L.length:=by omega
     rw[hie,List.drop_length] at hsq;refine sT (sH Hb Ht ?_);simp[<-hN,hsq,sgnT]
  .rw[el] at hl hN;rw[if_pos (by simp)] at hN;have hr:=hr false;generalize runN (pd false) s 0=n at *;refine sI func261 ntmps261 fun Hb Ht=>?_
   repeat first|simp[h0,h0']|refine sR ?_
   rw[hb];refine sD (hl _ _) ?_;repeat first|simp|refine sR ?_
   refine sC ?_;repeat first|simp|refine sR ?_
   refine sD (hd _ _) ?_;repeat first|simp|refine sR ?_
   refine sD (hr _ _) ?_;repeat first|simp|refine sR ?_
   refine sD (hd _ _) ?_;repeat first|simp|refine sR ?_
   refine sC ?_;repeat first|simp|refine sR ?_
   by_cases e3:20<n
   .have e4:(20:Int)<n:=by omega
    simp only[Bool.false_eq_true,if_false] at hN;rw[if_pos e3] at hN;refine sC ?_;simp[e4];repeat first|simp|refine sR ?_
    refine sT (sH Hb Ht ?_);simp[<-hN]
   .have e4:¬(20:Int)<n:=by omega
    simp only[Bool.false_eq_true,if_false] at hN;rw[if_neg e3] at hN;have hwn:IntKind.i64.wrap (n:Int)=n:=wrap_in (by omega) (by omega)
    have hns:(n:Int)<=s.size:=by omega
    refine sC ?_;simp[e4];repeat first|simp[hwn,hns,hrl]|refine sR ?_
    refine sT (sH Hb Ht ?_);simp[<-hN]
 .rw[ed] at hd hrl hN;have el:letB (byteAt s 0)=false:=by
   have:=ed
   unfold digB at this;unfold letB;simp only[decide_eq_true_eq,decide_eq_false_iff_not] at this ⊢;omega
  rw[el] at hl;rw[if_pos (by simp)] at hN;have hr:=hr true;generalize runN (pd true) s 0=n at *;refine sI func261 ntmps261 fun Hb Ht=>?_
  repeat first|simp[h0,h0']|refine sR ?_
  rw[hb];refine sD (hl _ _) ?_;repeat first|simp|refine sR ?_
  refine sD (hd _ _) ?_;repeat first|simp|refine sR ?_
  refine sC ?_;repeat first|simp|refine sR ?_
  refine sD (hd _ _) ?_;repeat first|simp|refine sR ?_
  refine sD (hr _ _) ?_;repeat first|simp|refine sR ?_
  refine sD (hd _ _) ?_;repeat first|simp|refine sR ?_
  refine sC ?_;repeat first|simp|refine sR ?_
  by_cases e3:9<n
  .have e4:(9:Int)<n:=by omega
   simp only[if_true] at hN;rw[if_pos e3] at hN;refine sC ?_;simp[e4];repeat first|simp|refine sR ?_
   refine sT (sH Hb Ht ?_);simp[<-hN]
  .have e4:¬(9:Int)<n:=by omega
   simp only[if_true] at hN;rw[if_neg e3] at hN;have hwn:IntKind.i64.wrap (n:Int)=n:=wrap_in (by omega) (by omega)
   have hns:(n:Int)<=s.size:=by omega
   refine sC ?_;simp[e4];repeat first|simp[hwn,hns,hrl]|refine sR ?_
   refine sT (sH Hb Ht ?_);simp[<-hN]
theorem let_dig{c:Int}(h:letB c=true):digB c=false:=by
 unfold letB at h;unfold digB;simp only[decide_eq_true_eq,decide_eq_false_iff_not] at h ⊢;omega
theorem nameB_one{s:ByteArray}(h1:1<=s.size):((decide ((oneR s).2.2.2=0)&&decide ((oneR s).2.2.1=(s.size:Int)))&&decide ((oneR s).1=1))=nameB s:=by
 unfold nameB oneR;by_cases e1:letB (byteAt s 0)=true
 .have e2:=let_dig e1;rw[if_pos (.inl e1),e2,pd_false];simp only[Bool.false_eq_true,if_false];by_cases e3:20<runN parB s 0
  .rw[if_pos e3,Bool.eq_iff_iff];simp[e1];omega
  .rw[if_neg e3,Bool.eq_iff_iff];simp[e1];omega
 .have e1':letB (byteAt s 0)=false:=by simpa using e1
  rw[e1'];simp only[Bool.and_false,Bool.false_and];split
  .rename_i h;have hd:digB (byteAt s 0)=true:=h.resolve_left (by simp)
   rw[hd];simp only[if_true];split<;>simp
  .split
   .split
    .simp
    .split<;>simp
   .rcases sgnT_kind s signL with ⟨k1,_⟩|k1<;>simp[k1]
theorem text01_c(s:ByteArray):DC 260 [.agg [I 1,Sb s,I 0]] (Sb s):=by
 intro tok nt box nb;refine sI func260 ntmps260 fun Hb Ht=>?_
 repeat first|simp|refine sR ?_
 refine sC ?_;repeat first|simp|refine sR ?_
 refine sT (sH Hb Ht ?_);simp
theorem right01_c(s:ByteArray)(hs:s.size<=200000000000000):DC 215 [.agg [I 1,Sb s,I 0]] (B (nameB s)):=by
 intro tok nt box nb;have ht:=text01_c s;by_cases h0:s.size=0
 .have b0:(s.toList==(⟨#[]⟩:ByteArray).toList)=true:=by rw[empty_dec];simp[h0]
  have b1:s.toList=[]:=by simpa using b0
  have hn:nameB s=false:=by simp[nameB,h0]
  rw[hn];refine sI func215 ntmps215 fun Hb Ht=>?_
  repeat first|simp|refine sR ?_
  refine sD (ht _ _) ?_;repeat first|simp[b1]|refine sR ?_|refine sC ?_
  refine sT (sH Hb Ht ?_);simp
 .have b0:(s.toList==(⟨#[]⟩:ByteArray).toList)=false:=by rw[empty_dec];simp[h0]
  have b1:¬s.toList=[]:=by simpa using b0
  have hx:=one01_c s (by omega) hs;have hnb:=nameB_one (s:=s) (by omega);rw[<-hnb];generalize oneR s=N at *;refine sI func215 ntmps215 fun Hb Ht=>?_
  repeat first|simp|refine sR ?_
  refine sD (ht _ _) ?_;repeat first|simp[b1]|refine sR ?_|refine sC ?_
  refine sD (hx _ _) ?_;simp;by_cases f1:N.2.2.2=0
  .have g1:(N.2.2.2==0)=true:=by simp[f1]
   by_cases f3:N.2.2.1=(s.size:Int)
   .have g3:(N.2.2.1==(s.size:Int))=true:=by simp[f3]
    repeat first|simp[g1,g3]|refine sR ?_
    by_cases f2:N.1=1
    .have g2:(N.1==1)=true:=by simp[f2]
     refine sT (sH Hb Ht ?_);simp[f1,f2,f3,g2]
    .have g2:(N.1==1)=false:=by simp[f2]
     refine sT (sH Hb Ht ?_);simp[f1,f2,f3,g2]
   .have g3:(N.2.2.1==(s.size:Int))=false:=by simp[f3]
    repeat first|simp[g1,g3]|refine sR ?_
    refine sT (sH Hb Ht ?_);simp[f1,f3]
  .have g1:(N.2.2.2==0)=false:=by simp[f1]
   repeat first|simp[g1]|refine sR ?_
   refine sT (sH Hb Ht ?_);simp[f1]
theorem isName01_c(s:ByteArray)(hs:s.size<=200000000000000):DC 151 [Sb s] (B (nameB s)):=by
 intro tok nt box nb;have h:=right01_c s hs;refine sI func151 ntmps151 fun Hb Ht=>?_
 repeat first|simp|refine sR ?_
 refine sD (h _ _) ?_;repeat first|simp|refine sR ?_
 refine sT (sH Hb Ht ?_);simp
variable {P:Program}
def Trans(cx:Cx)(nt0:Nat)(S S':AS):Prop:=∀G0 w0 G a w,Entry cx nt0 G0->G0.nt<=nt0->RelS cx.n cx.nb G S a w->LeC cx G0 w0 G w S->∃G',RelS cx.n cx.nb G' S' a w/\LeC cx G0 w0 G' w S'
theorem AT.trans{cx:Cx}{nt0:Nat}{c:Code}{S S':AS}{K:Exit->AS->Prop}(h:Trans cx nt0 S S')(k:AT P cx nt0 c S' K):AT P cx nt0 c S K:=by
 intro G0 w0 he hn G a w hr hl;obtain⟨G',hr',hl'⟩:=h G0 w0 G a w he hn hr hl;exact k G0 w0 he hn G' a w hr' hl'
theorem AL.trans{cx:Cx}{nt0:Nat}{K:Exit->AS->Prop}{r:List CI}{S S':AS}{x:Code}(hw:Trans cx nt0 S S')(h:AL P cx nt0 K (.c x::r) S'):AL P cx nt0 K (.c x::r) S:=by
 simp only[AL] at h ⊢;exact AT.trans hw h
theorem AL.mid{cx:Cx}{nt0:Nat}{K:Exit->AS->Prop}{r:List CI}{S:AS}{x y:Code}(T:AS)(h1:AL P cx nt0 (fun e S'=>match e with
   | .normal=>Weaks cx nt0 S' T
   | e=>AU P cx nt0 K (.c y::r) e S') [.c x] S)(h2:AL P cx nt0 K (.c y::r) T):AL P cx nt0 K (.c x::.c y::r) S:=by
 have h3:=AL.start h1;simp only[AL] at h2 ⊢;refine h3.mono fun e S' h=>?_
 cases e with
 | normal=>exact AT.weaks h h2
 | _=>exact h
inductive ThTo (t k sz:Nat) (es:List (List D)):AV->AV->Prop
 | bot {x}:ThTo t k sz es x .bot
 | same {x}:ThTo t k sz es x x
 | ex:ThTo t k sz es (.ex t sz es) (.msl k 0 es.length sz)
 | agg {cs ds:List AV} (hl:cs.length=ds.length) (h:∀i (h1:i<cs.length) (h2:i<ds.length),ThTo t k sz es cs[i] ds[i]):ThTo t k sz es (.agg cs) (.agg ds)
def ThR(t k sz:Nat)(es:List (List D))(r r':List AV):Prop:=r.length=r'.length/\∀i (h1:i<r.length) (h2:i<r'.length),ThTo t k sz es r[i] r'[i]
def ThRs(t k sz:Nat)(es:List (List D))(r r':List (List AV)):Prop:=r.length=r'.length/\∀i (h1:i<r.length) (h2:i<r'.length),ThR t k sz es r[i] r'[i]
def ThL(t k sz:Nat)(es:List (List D)):List (Nat × AV)->List (Nat × AV)->Prop
 | [],[]=>True
 | (i,x)::a,(j,y)::b=>i=j/\ThTo t k sz es x y/\ThL t k sz es a b
 | _,_=>False
def ThB(t k sz:Nat)(es:List (List D)):List (Nat × List (List AV))->List (Nat × List (List AV))->Prop
 | [],[]=>True
 | (i,x)::a,(j,y)::b=>i=j/\ThRs t k sz es x y/\ThB t k sz es a b
 | _,_=>False
theorem ThL.at{t k sz:Nat}{es:List (List D)}:∀{l l':List (Nat × AV)},ThL t k sz es l l'->∀i,ThTo t k sz es (tl l i) (tl l' i)
 | [],[],_,i=>.same
 | (i,x)::a,(j,y)::b,h,q=>by
  obtain⟨rfl,h1,h2⟩:=h;rw[tl_cons,tl_cons];split
  .exact h1
  .exact ThL.at h2 q
 | [],_::_,h,_=>h.elim
 | _::_,[],h,_=>h.elim
theorem ThB.at{t k sz:Nat}{es:List (List D)}:∀{l l':List (Nat × List (List AV))},ThB t k sz es l l'->∀i,(lk l i=none/\lk l' i=none)∨∃r r',lk l i=some r/\lk l' i=some r'/\ThRs t k sz es r r'
 | [],[],_,i=>.inl ⟨rfl,rfl⟩
 | (i,x)::a,(j,y)::b,h,q=>by
  obtain⟨rfl,h1,h2⟩:=h;rw[lk_cons,lk_cons];split
  .exact .inr ⟨x,y,rfl,rfl,h1⟩
  .exact ThB.at h2 q
 | [],_::_,h,_=>h.elim
 | _::_,[],h,_=>h.elim
theorem ThRs.flat{t k sz:Nat}{es:List (List D)}:∀{r r':List (List AV)},ThRs t k sz es r r'->ThR t k sz es r.flatten r'.flatten
 | [],[],_=>⟨rfl,fun i h=>by simp at h⟩
 | x::a,y::b,h=>by
  have h0:=h.2 0 (by simp) (by simp);have ih:ThR t k sz es a.flatten b.flatten:=ThRs.flat ⟨by simpa using h.1,fun i h1 h2=>h.2 (i+1) (by simpa using h1) (by simpa using h2)⟩
  simp only[List.getElem_cons_zero] at h0;refine⟨by simp[h0.1,ih.1],fun i h1 h2=>?_⟩;have hl:=h0.1;have hi2:=ih.1;simp only[List.flatten_cons] at h1 h2 ⊢;rw[List.length_append] at h1 h2;by_cases hi:i<x.length
  .have e1:(x++a.flatten)[i]'(by rw[List.length_append];omega)=x[i]:=List.getElem_append_left hi
   have e2:(y++b.flatten)[i]'(by rw[List.length_append];omega)=y[i]'(by omega):=List.getElem_append_left (by omega)
   rw[e1,e2];exact h0.2 i hi _
  .have e1:(x++a.flatten)[i]'(by rw[List.length_append];omega)=a.flatten[i-x.length]'(by omega):=List.getElem_append_right (by omega)
   have e2:(y++b.flatten)[i]'(by rw[List.length_append];omega)=b.flatten[i-y.length]'(by omega):=List.getElem_append_right (by omega)
   rw[e1,e2];have:=ih.2 (i-x.length) (by omega) (by omega)
   simp only[hl] at this ⊢;exact this
 | [],_::_,h=>by have:=h.1;simp at this
 | _::_,[],h=>by have:=h.1;simp at this
theorem rowsD_flat(es:List (List D)):(rowsD es).flatten=es.flatten.map AV.d:=by
 induction es with
 | nil=>rfl
 | cons e es ih=>simp only[rowsD,List.map_cons,List.flatten_cons,List.map_append] at ih ⊢;rw[ih]
theorem Trans.thaw{cx:Cx}{nt0 nt:Nat}{l l':List (Nat × AV)}{out:Bxs}{loc loc':List (Nat × List (List AV))}{tok:Nat->Bool}(t s sz:Nat)(es:List (List D))(r:Nat)(hn:cx.nb=cx.base+cx.n)(hs:s<cx.n)(hk:lk loc s=none)(ht:tok t=true)(hr:tl l r=.ex t sz es)(hl:ThL t (cx.base+s) sz es l l')(hb:ThB t (cx.base+s) sz es loc loc'):
  Trans cx nt0 ⟨tl l,lb cx.base out loc,tok,nt⟩ ⟨tl l',lb cx.base out ((s,rowsD es)::loc'),upd tok t false,nt⟩:=by
 intro G0 w0 G a w he hn0 hS hL;have hm:=hS.mem;have hwit:=hS.tmps r;simp only at hwit;rw[hr] at hwit;have hex:∀{v:Value},RV G w (.ex t sz es) v->ExR G w t sz es v:=fun h=>by cases h with|ex h=>exact h
 obtain⟨hlt,x,hx⟩:=hm.toks t ht;obtain⟨_,_,hw2⟩:=hex hwit;obtain⟨g,cap,cs,e,rfl,_,hcap,hmax,hkind,hheap,hrow,hflat,hrd,hone⟩:=hw2 x hx;have hboxk:lb cx.base out loc (cx.base+s)=none:=by rw[lb_at];exact hk
 have hbxk:G.bx (cx.base+s)=none:=hm.nobox _ hboxk
 let G':Gh:={ bx:=upd G.bx (cx.base+s) (some (g,sz)),kind:=upd G.kind g .box,tk:=upd G.tk t none,nt:=G.nt }
 have hnb:∀{k b z},G.bx k=some (b,z)->b≠g:=fun h e=>by
  have:=(hm.blt h).2
  rw[e,hkind] at this;cases this
 have hntk:∀{q j},q≠t->G.tk q=some (some j)->j≠g:=fun hq h e=>by subst e;exact hq (hm.tinj _ _ _ h hx)
 have hle:Le G w G' w:=by
  refine⟨rfl,rfl,rfl,nr _,fun b _ hb=>⟨?_,rfl⟩,fun b f c hb=>⟨⟨f,nr _,?_⟩,fun _ _ _=>rfl⟩,fun k x hk=>?_,nr _,fun q _=>?_,fun _ _ _ _ h=>⟨_,_,h⟩⟩
  .simp only[G'];rw[uO _ _ (fun e=>by rw[e,hkind] at hb;cases hb)];exact hb
  .simp only[G'];rw[uO _ _ (fun e=>by rw[e,hkind] at hb;cases hb)];exact hb
  .simp only[G'];rw[uO _ _ (fun e=>by rw[e,hbxk] at hk;cases hk)];exact hk
  .by_cases hq:q=t
   .subst hq;exact .inl (by simp[G',uS])
   .refine .inr ⟨by simp only[G'];exact uO _ _ hq,fun j hj=>⟨?_,fun _=>rfl⟩⟩;simp only[G'];exact uO _ _ (hntk hq hj)
 have hto:∀{x y:AV} {v:Value},ThTo t (cx.base+s) sz es x y->RV G w x v->RV G' w y v:=by
  intro x y v hxy;induction hxy generalizing v with
  | bot=>exact fun _=>.bot
  | same=>exact fun h=>h.mono hle
  | ex =>
   intro h;obtain⟨_,_,h2⟩:=hex h;obtain⟨g',cap',cs',e',hg',hv,hc1,hc2,_⟩:=h2 _ hx;cases hg'
   rw[hv];have:=RV.msl (G:=G') (w:=w) (k:=cx.base+s) (off:=0) (n:=es.length) (b:=g) (sz:=sz) (cap:=cap') (by simp[G',uS]) hc1 hc2
   simpa using this
  | agg hl _ ih =>
   intro h;cases h with
   | agg hl' hh hone=>exact .agg (hl.symm.trans hl') (fun i h1 h2=>ih i (by omega) h1 (hh i (by omega) h2)) hone
 have hRVs:∀{xs ys:List AV} {vs:List Value},ThR t (cx.base+s) sz es xs ys->RVs G w xs vs->RVs G' w ys vs:=fun h hr=>⟨h.1.symm.trans hr.1,fun i h1 h2=>hto (h.2 i (by rw[h.1];exact h1) h1) (hr.2 i _ h2)⟩
 have hlt2:=heap_lt hheap;refine⟨G',⟨hS.defers,hS.size,fun i=>hto (hl.at i) (hS.tmps i),?_⟩,?_⟩
 .constructor
  case box =>
   intro k rows b z hk' hb';by_cases e1:k=cx.base+s
   .subst e1;simp only[lb_at,lk_cons,↓reduceIte,Option.some.injEq] at hk';simp only[G',uS,Option.some.injEq,Prod.mk.injEq] at hb';obtain⟨rfl,rfl⟩:=hb';subst hk';refine⟨by simp[G',uS],cs,e,hheap,fun q hq=>?_,?_,hone⟩
    .obtain⟨p,hp,rfl⟩:=List.mem_map.1 hq;simpa using hrow p hp
    .rw[rowsD_flat];refine⟨by rw[List.length_map];exact hflat,fun i h1 h2=>?_⟩;simp only[List.getElem_map];exact .d ((hrd i (by rw[List.length_map] at h1;exact h1) h2).mono hle.cells)
   .simp only[G'] at hb';rw[uO _ _ e1] at hb';have hold:∃rows0,lb cx.base out loc k=some rows0/\(rows0=rows∨ThRs t (cx.base+s) sz es rows0 rows):=by
     by_cases hkb:k<cx.base
     .refine⟨rows,?_,.inl rfl⟩;simp only at hk';rw[lO hkb] at hk' ⊢;exact hk'
     .have hkk:k=cx.base+(k-cx.base):=by omega
      simp only at hk';rw[hkk,lb_at] at hk' ⊢;rw[lk_cons,if_neg (by omega)] at hk';rcases hb.at (k-cx.base) with ⟨_,h2⟩|⟨r0,r',h1,h2,h3⟩
      .rw[h2] at hk';cases hk'
      .rw[h2] at hk';cases hk'
       exact⟨r0,h1,.inr h3⟩
    obtain⟨rows0,h1,h2⟩:=hold;obtain⟨g1,cs',e',g2,g3,g4,g5⟩:=hm.box k rows0 b z h1 hb';refine⟨by simp only[G'];rw[uO _ _ (hnb hb')];exact g1,cs',e',g2,?_,?_,g5⟩
    .rcases h2 with rfl|h2
     .exact g3
     .intro q hq;obtain⟨i,hi,rfl⟩:=List.getElem_of_mem hq;have hi0:i<rows0.length:=by rw[h2.1];exact hi
      rw[<-(h2.2 i hi0 hi).1];exact g3 _ (List.getElem_mem _)
    .rcases h2 with rfl|h2
     .exact g4.mono hle
     .exact hRVs h2.flat g4
  case nobox =>
   intro k hk';have hne:k≠cx.base+s:=fun e=>by subst e;simp[lb_at,lk_cons] at hk'
   simp only[G'];rw[uO _ _ hne];refine hm.nobox k ?_;simp only at hk' ⊢;by_cases hkb:k<cx.base
   .rw[lO hkb] at hk' ⊢;exact hk'
   .have hkk:k=cx.base+(k-cx.base):=by omega
    rw[hkk,lb_at] at hk' ⊢;rw[lk_cons,if_neg (by omega)] at hk';rcases hb.at (k-cx.base) with ⟨h1,_⟩|⟨r0,r',_,h2,_⟩
    .exact h1
    .rw[h2] at hk';cases hk'
  case inj =>
   intro j j' b z z' hj hj';simp only[G'] at hj hj';by_cases e1:j=cx.base+s<;>by_cases e2:j'=cx.base+s
   .exact e1.trans e2.symm
   .subst e1;rw[uS] at hj;rw[uO _ _ e2] at hj';cases hj;exact absurd rfl (hnb hj')
   .subst e2;rw[uS] at hj';rw[uO _ _ e1] at hj;cases hj'
    exact absurd rfl (hnb hj)
   .rw[uO _ _ e1] at hj;rw[uO _ _ e2] at hj';exact hm.inj j j' b z z' hj hj'
  case nb =>
   intro k hk';have h0:=hm.nb k hk';simp only at h0 ⊢;have hkb:¬k<cx.base:=by simp only at hk';omega
   have hkk:k=cx.base+(k-cx.base):=by omega
   rw[hkk,lb_at] at h0 ⊢;rw[lk_cons,if_neg (by simp only at hk';omega)];rcases hb.at (k-cx.base) with ⟨_,h2⟩|⟨r0,r',h1,_,_⟩
   .exact h2
   .rw[h1] at h0;cases h0
  case nt=>exact hm.nt
  case toks =>
   intro q hq;simp only at hq;by_cases e1:q=t
   .subst e1;simp[uS] at hq
   .rw[uO _ _ e1] at hq;obtain⟨h1,y,h2⟩:=hm.toks q hq;exact⟨h1,y,by simp only[G'];rw[uO _ _ e1];exact h2⟩
  case tokb =>
   intro q j hq;simp only[G'] at hq;by_cases e1:q=t
   .subst e1;simp[uS] at hq
   .rw[uO _ _ e1] at hq;obtain⟨f,cur,e',g1,g2⟩:=hm.tokb q j hq;refine⟨f,cur,e',?_,g2⟩;simp only[G'];rw[uO _ _ (hntk e1 hq)];exact g1
  case tinj =>
   intro q q' j hq hq';simp only[G'] at hq hq';by_cases e1:q=t
   .subst e1;simp[uS] at hq
   .by_cases e2:q'=t
    .subst e2;simp[uS] at hq'
    .rw[uO _ _ e1] at hq;rw[uO _ _ e2] at hq';exact hm.tinj q q' j hq hq'
  case tnt =>
   intro q y hq;simp only[G'] at hq ⊢;by_cases e1:q=t
   .subst e1;simp[uS] at hq
   .rw[uO _ _ e1] at hq;exact hm.tnt q y hq
  case glob=>exact hm.glob.mono hle.cells
  case fresh =>
   intro b hb';simp only[G'];rw[uO _ _ (by omega)];exact hm.fresh b hb'
 .refine hL.step ⟨hle,fun k hkb hg=>⟨?_,?_⟩⟩
  .simp only[G'];rw[uO _ _ (by omega)];exact hg
  .simp only;rw[lO hkb,lO hkb]
inductive SeTo (t k sz:Nat) (es:List (List D)):AV->AV->Prop
 | bot {x}:SeTo t k sz es x .bot
 | same {x} (h:OkIn (· ≠ k) (fun _=>True) x):SeTo t k sz es x x
 | msl:SeTo t k sz es (.msl k 0 es.length sz) (.ex t sz es)
 | agg {cs ds:List AV} (hl:cs.length=ds.length) (h:∀i (h1:i<cs.length) (h2:i<ds.length),SeTo t k sz es cs[i] ds[i]):SeTo t k sz es (.agg cs) (.agg ds)
def SeR(t k sz:Nat)(es:List (List D))(r r':List AV):Prop:=r.length=r'.length/\∀i (h1:i<r.length) (h2:i<r'.length),SeTo t k sz es r[i] r'[i]
def SeRs(t k sz:Nat)(es:List (List D))(r r':List (List AV)):Prop:=r.length=r'.length/\∀i (h1:i<r.length) (h2:i<r'.length),SeR t k sz es r[i] r'[i]
def SeL(t k sz:Nat)(es:List (List D)):List (Nat × AV)->List (Nat × AV)->Prop
 | [],[]=>True
 | (i,x)::a,(j,y)::b=>i=j/\SeTo t k sz es x y/\SeL t k sz es a b
 | _,_=>False
def SeB(t k sz:Nat)(es:List (List D)):List (Nat × List (List AV))->List (Nat × List (List AV))->Prop
 | [],[]=>True
 | (i,x)::a,(j,y)::b=>i=j/\SeRs t k sz es x y/\SeB t k sz es a b
 | _,_=>False
theorem SeL.at{t k sz:Nat}{es:List (List D)}:∀{l l':List (Nat × AV)},SeL t k sz es l l'->∀i,SeTo t k sz es (tl l i) (tl l' i)
 | [],[],_,i=>.bot
 | (i,x)::a,(j,y)::b,h,q=>by
  obtain⟨rfl,h1,h2⟩:=h;rw[tl_cons,tl_cons];split
  .exact h1
  .exact SeL.at h2 q
 | [],_::_,h,_=>h.elim
 | _::_,[],h,_=>h.elim
theorem SeB.at{t k sz:Nat}{es:List (List D)}:∀{l l':List (Nat × List (List AV))},SeB t k sz es l l'->∀i,(lk l i=none/\lk l' i=none)∨∃r r',lk l i=some r/\lk l' i=some r'/\SeRs t k sz es r r'
 | [],[],_,i=>.inl ⟨rfl,rfl⟩
 | (i,x)::a,(j,y)::b,h,q=>by
  obtain⟨rfl,h1,h2⟩:=h;rw[lk_cons,lk_cons];split
  .exact .inr ⟨x,y,rfl,rfl,h1⟩
  .exact SeB.at h2 q
 | [],_::_,h,_=>h.elim
 | _::_,[],h,_=>h.elim
theorem SeRs.flat{t k sz:Nat}{es:List (List D)}:∀{r r':List (List AV)},SeRs t k sz es r r'->SeR t k sz es r.flatten r'.flatten
 | [],[],_=>⟨rfl,fun i h=>by simp at h⟩
 | x::a,y::b,h=>by
  have h0:=h.2 0 (by simp) (by simp);have ih:SeR t k sz es a.flatten b.flatten:=SeRs.flat ⟨by simpa using h.1,fun i h1 h2=>h.2 (i+1) (by simpa using h1) (by simpa using h2)⟩
  simp only[List.getElem_cons_zero] at h0;refine⟨by simp[h0.1,ih.1],fun i h1 h2=>?_⟩;have hl:=h0.1;have hi2:=ih.1;simp only[List.flatten_cons] at h1 h2 ⊢;rw[List.length_append] at h1 h2;by_cases hi:i<x.length
  .have e1:(x++a.flatten)[i]'(by rw[List.length_append];omega)=x[i]:=List.getElem_append_left hi
   have e2:(y++b.flatten)[i]'(by rw[List.length_append];omega)=y[i]'(by omega):=List.getElem_append_left (by omega)
   rw[e1,e2];exact h0.2 i hi _
  .have e1:(x++a.flatten)[i]'(by rw[List.length_append];omega)=a.flatten[i-x.length]'(by omega):=List.getElem_append_right (by omega)
   have e2:(y++b.flatten)[i]'(by rw[List.length_append];omega)=b.flatten[i-y.length]'(by omega):=List.getElem_append_right (by omega)
   rw[e1,e2];have:=ih.2 (i-x.length) (by omega) (by omega)
   simp only[hl] at this ⊢;exact this
 | [],_::_,h=>by have:=h.1;simp at this
 | _::_,[],h=>by have:=h.1;simp at this
theorem Trans.seal{cx:Cx}{nt0 nt:Nat}{l l':List (Nat × AV)}{out:Bxs}{loc loc':List (Nat × List (List AV))}{tok:Nat->Bool}(s sz:Nat)(es:List (List D))(r:Nat)(ho:out=cx.B0)(hnt:nt0<=nt)(hsz:∀e∈es,e.length=sz)(hr:tl l r=.msl (cx.base+s) 0 es.length sz)(hk':lk loc' s=none)(hl:SeL nt (cx.base+s) sz es l l')(hb:SeB nt (cx.base+s) sz es loc loc'):
  Trans cx nt0 ⟨tl l,lb cx.base out ((s,rowsD es)::loc),tok,nt⟩ ⟨tl l',lb cx.base out loc',upd tok nt true,nt+1⟩:=by
 intro G0 w0 G a w he hn0 hS hL;have hm:=hS.mem;have hgnt:G.nt=nt:=hm.nt
 have hwit:=hS.tmps r;simp only at hwit;rw[hr] at hwit;obtain⟨b,hbk⟩:∃b,G.bx (cx.base+s)=some (b,sz):=by
  generalize hq:(AV.msl (cx.base+s) 0 es.length sz)=q at hwit;generalize a.tmps.getD r undef=v0 at hwit;cases hwit with
  | msl h1 h2 h3=>cases hq;exact⟨_,h1⟩
  | _=>cases hq
 have hboxk:lb cx.base out ((s,rowsD es)::loc) (cx.base+s)=some (rowsD es):=by rw[lb_at,lk_cons,if_pos rfl]
 obtain⟨hkind,cs,e,hheap,hrows,hR,hone⟩:=hm.box _ _ b sz hboxk hbk
 let G1:Gh:={ bx:=G.bx,kind:=upd G.kind b .ex,tk:=upd G.tk G.nt (some (some b)),nt:=G.nt+1 }
 let G':Gh:={ bx:=upd G.bx (cx.base+s) none,kind:=upd G.kind b .ex,tk:=upd G.tk G.nt (some (some b)),nt:=G.nt+1 }
 have hne:∀{q j},G.tk q=some (some j)->j≠b:=fun h e=>by
  obtain⟨f,cur,e',h1,_⟩:=hm.tokb _ _ h;rw[e,hkind] at h1;rcases h1 with ⟨h1,_⟩|h1<;>cases h1
 have hle:Le G w G1 w:=by
  refine⟨rfl,rfl,rfl,nr _,fun b' _ hb'=>⟨?_,rfl⟩,fun b' f c hb'=>⟨⟨f,nr _,?_⟩,fun _ _ _=>rfl⟩,fun k x hk=>hk,Nat.le_succ _,fun q hq=>?_,fun _ _ _ _ h=>⟨_,_,h⟩⟩
  .simp only[G1];rw[uO _ _ (fun e=>by rw[e,hkind] at hb';cases hb')];exact hb'
  .simp only[G1];rw[uO _ _ (fun e=>by rw[e,hkind] at hb';cases hb')];exact hb'
  .refine .inr ⟨by simp only[G1];exact uO _ _ (by omega),fun j hj=>⟨?_,fun _=>rfl⟩⟩;simp only[G1];exact uO _ _ (hne hj)
 have hcells:∀(q:Addr) (u:Value),G.ps q->w.cell? q=some u->G'.ps q/\w.cell? q=some u:=fun q u h1 h2=>hle.cells q u h1 h2
 -- what does not speak of the box
 have hok:∀{x:AV} {v:Value},OkIn (· ≠ cx.base+s) (fun _=>True) x->RV G w x v->RV G' w x v:=by
  intro x v hx h;have h1:=h.mono hle;clear h;induction h1 with
  | bot=>exact .bot
  | d h2=>exact .d h2
  | osl h2 h3=>exact .osl h2 h3
  | ptr h2=>cases hx with|ptr hp=>exact .ptr (by simp only[G'];rw[uO _ _ hp];exact h2)
  | buf h2 h3 h4 h5=>exact .buf h2 h3 h4 h5
  | here h2 h3=>cases hx with|here hp=>exact .here (by simp only[G'];rw[uO _ _ hp];exact h2) h3
  | cptr q u hc hr=>exact .cptr q u hc hr
  | msl h2 h3 h4=>cases hx with|msl hp=>exact .msl (by simp only[G'];rw[uO _ _ hp];exact h2) h3 h4
  | fn hl _ ih=>cases hx with|fn hp=>exact .fn hl fun i h1 h2=>ih i h1 h2 (hp _ (List.getElem_mem h1))
  | agg hl _ hone ih=>cases hx with|agg hp=>exact .agg hl (fun i h1 h2=>ih i h1 h2 (hp _ (List.getElem_mem h1))) hone
  | tup hl _ ih=>cases hx with|tup hp=>exact .tup hl fun i h1 h2=>ih i h1 h2 (hp _ (List.getElem_mem h1))
  | ex h2=>exact .ex h2
  | stk h2=>exact .stk h2
  | que h2 h3=>exact .que h2 h3
  | mp h2=>exact .mp h2
  | mpd h2=>exact .mpd h2
 have hto:∀{x y:AV} {v:Value},SeTo nt (cx.base+s) sz es x y->RV G w x v->RV G' w y v:=by
  intro x y v hxy;induction hxy generalizing v with
  | bot=>exact fun _=>.bot
  | same h=>exact hok h
  | msl =>
   intro h;generalize hq:(AV.msl (cx.base+s) 0 es.length sz)=q at h;cases h with
   | msl h1 h2 h3 =>
    cases hq;rw[hbk] at h1;cases h1;refine .ex ⟨by simp only[G'];omega,⟨_,_,_,rfl⟩,fun x hx=>?_⟩;simp only[G',<-hgnt,uS,Option.some.injEq] at hx;subst hx;rw[rowsD_flat] at hR;have hlen:es.flatten.length=cs.toList.length:=by have:=hR.1;rw[List.length_map] at this;exact this
    refine⟨b,_,cs,e,rfl,by simp,h2,h3,by simp[G',uS],hheap,hsz,hlen,fun i g1 g2=>?_,hone⟩;have h5:=hR.2 i (by rw[List.length_map];exact g1) g2;simp only[List.getElem_map] at h5;cases h5 with
    | d h6=>exact h6.mono hcells
   | _=>cases hq
  | agg hl _ ih =>
   intro h;cases h with
   | agg hl' hh hone=>exact .agg (hl.symm.trans hl') (fun i h1 h2=>ih i (by omega) h1 (hh i (by omega) h2)) hone
 have hRVs:∀{xs ys:List AV} {vs:List Value},SeR nt (cx.base+s) sz es xs ys->RVs G w xs vs->RVs G' w ys vs:=fun h hr=>⟨h.1.symm.trans hr.1,fun i h1 h2=>hto (h.2 i (by rw[h.1];exact h1) h1) (hr.2 i _ h2)⟩
 refine⟨G',⟨hS.defers,hS.size,fun i=>hto (hl.at i) (hS.tmps i),?_⟩,?_,?_⟩
 .constructor
  case box =>
   intro k rows b' z hk hb';have e1:k≠cx.base+s:=fun e=>by
    subst e;simp only at hk;rw[lb_at,hk'] at hk;cases hk
   simp only[G'] at hb';rw[uO _ _ e1] at hb';have hbne:b'≠b:=fun e=>by subst e;exact e1 (hm.inj _ _ _ _ _ hb' hbk)
   by_cases hkb:k<cx.base
   .simp only at hk;rw[lO hkb] at hk;obtain⟨g1,cs',e',g2,g3,g4,g5⟩:=hm.box k rows b' z (by simp only;rw[lO hkb];exact hk) hb';refine⟨by simp only[G'];rw[uO _ _ hbne];exact g1,cs',e',g2,g3,⟨g4.1,fun i h1 h2=>?_⟩,g5⟩;have hmem:rows.flatten[i]∈rows.flatten:=List.getElem_mem _
    obtain⟨q,hq,hxq⟩:=List.mem_flatten.1 hmem;have hG0:G0.bx k≠none:=by rw[<-hL.1.bx k hkb,hb'];simp
    have:=he k rows hkb (by rw[<-ho];exact hk) hG0 q hq _ hxq
    exact hok (this.imp (fun j hj=>by omega) fun _ _=>trivial) (g4.2 i h1 h2)
   .have hkk:k=cx.base+(k-cx.base):=by omega
    simp only at hk;rw[hkk,lb_at] at hk;rcases hb.at (k-cx.base) with ⟨_,h2⟩|⟨r0,r',h1,h2,h3⟩
    .rw[h2] at hk;cases hk
    .rw[h2] at hk;cases hk;obtain⟨g1,cs',e',g2,g3,g4,g5⟩:=hm.box k r0 b' z (by simp only;rw[hkk,lb_at,lk_cons,if_neg (by omega)];exact h1) hb';refine⟨by simp only[G'];rw[uO _ _ hbne];exact g1,cs',e',g2,fun q hq=>?_,hRVs h3.flat g4,g5⟩;obtain⟨i,hi,rfl⟩:=List.getElem_of_mem hq;have hi0:i<r0.length:=by rw[h3.1];exact hi
     rw[<-(h3.2 i hi0 hi).1];exact g3 _ (List.getElem_mem _)
  case nobox =>
   intro k hk;simp only[G'];by_cases e1:k=cx.base+s
   .subst e1;simp[uS]
   .rw[uO _ _ e1];refine hm.nobox k ?_;simp only at hk ⊢;by_cases hkb:k<cx.base
    .rw[lO hkb] at hk ⊢;exact hk
    .have hkk:k=cx.base+(k-cx.base):=by omega
     rw[hkk,lb_at] at hk ⊢;rw[lk_cons,if_neg (by omega)];rcases hb.at (k-cx.base) with ⟨h1,_⟩|⟨r0,r',_,h2,_⟩
     .exact h1
     .rw[h2] at hk;cases hk
  case inj =>
   intro j j' b' z z' hj hj';simp only[G'] at hj hj';by_cases e1:j=cx.base+s
   .subst e1;simp[uS] at hj
   .by_cases e2:j'=cx.base+s
    .subst e2;simp[uS] at hj'
    .rw[uO _ _ e1] at hj;rw[uO _ _ e2] at hj';exact hm.inj j j' b' z z' hj hj'
  case nb =>
   intro k hk;have h0:=hm.nb k hk;simp only at h0 ⊢;by_cases hkb:k<cx.base
   .rw[lO hkb] at h0 ⊢;exact h0
   .have hkk:k=cx.base+(k-cx.base):=by omega
    rw[hkk,lb_at] at h0 ⊢;by_cases e1:k-cx.base=s
    .rw[e1];exact hk'
    .rw[lk_cons,if_neg e1] at h0;rcases hb.at (k-cx.base) with ⟨_,h2⟩|⟨r0,r',h1,_,_⟩
     .exact h2
     .rw[h1] at h0;cases h0
  case nt=>simp only[G'];rw[hgnt]
  case toks =>
   intro q hq;simp only at hq;by_cases e1:q=nt
   .subst e1;exact⟨Nat.lt_succ_self _,_,by simp only[G'];rw[hgnt,uS]⟩
   .rw[uO _ _ e1] at hq;obtain⟨h1,y,h2⟩:=hm.toks q hq;exact⟨Nat.lt_succ_of_lt h1,y,by simp only[G'];rw[hgnt,uO _ _ e1];exact h2⟩
  case tokb =>
   intro q j hq;simp only[G'] at hq;by_cases e1:q=G.nt
   .subst e1;rw[uS] at hq;cases hq;exact⟨0,cs,_,.inr (by simp[G',uS]),hheap⟩
   .rw[uO _ _ e1] at hq;obtain⟨f,cur,e',g1,g2⟩:=hm.tokb q j hq;refine⟨f,cur,e',?_,g2⟩;simp only[G'];rw[uO _ _ (hne hq)];exact g1
  case tinj =>
   intro q q' j hq hq';simp only[G'] at hq hq';by_cases e1:q=G.nt<;>by_cases e2:q'=G.nt
   .exact e1.trans e2.symm
   .subst e1;rw[uS] at hq;rw[uO _ _ e2] at hq';cases hq;exact absurd rfl (hne hq')
   .subst e2;rw[uS] at hq';rw[uO _ _ e1] at hq;cases hq'
    exact absurd rfl (hne hq)
   .rw[uO _ _ e1] at hq;rw[uO _ _ e2] at hq';exact hm.tinj q q' j hq hq'
  case tnt =>
   intro q y hq;simp only[G'] at hq ⊢;by_cases e1:q=G.nt
   .omega
   .rw[uO _ _ e1] at hq;have:=hm.tnt q y hq
    omega
  case glob=>exact hm.glob.mono hle.cells
  case fresh =>
   intro b' hb';have:=heap_lt hheap
   simp only[G'];rw[uO _ _ (by omega)];exact hm.fresh b' hb'
 .refine hL.1.trans ⟨rfl,rfl,rfl,nr _,hle.whole,hle.part,fun k hk=>?_,hle.nt,hle.tk,hle.ty⟩;simp only[G'];exact uO _ _ (by omega)
 .intro k hkb hg;have:=hL.2 k hkb hg
  simp only at this ⊢;rw[lO hkb] at this ⊢;exact this
section
variable {t k sz:Nat} {es:List (List D)}
@[simp] theorem thTo_bot(x:AV):ThTo t k sz es x .bot:=.bot
@[simp] theorem thTo_same(x:AV):ThTo t k sz es x x:=.same
@[simp] theorem thTo_ex{n:Nat}:ThTo t k sz es (.ex t sz es) (.msl k 0 n sz)↔n=es.length:=⟨fun h=>by cases h;rfl,fun h=>by subst h;exact .ex⟩
@[simp] theorem seTo_bot(x:AV):SeTo t k sz es x .bot:=.bot
@[simp] theorem seTo_d(x:D):SeTo t k sz es (.d x) (.d x):=.same .d
@[simp] theorem seTo_osl(n:Nat)(xs:List (List D))(o:Own):SeTo t k sz es (.osl n xs o) (.osl n xs o):=.same (.osl fun _ _=>trivial)
@[simp] theorem seTo_msl:SeTo t k sz es (.msl k 0 es.length sz) (.ex t sz es):=.msl
end
@[simp] theorem to_ex{p:Nat->Prop}{fz:Option (Nat × Nat × List (List D))}(t sz:Nat)(es:List (List D)):To p (fun _=>True) fz (.ex t sz es) (.ex t sz es):=.same (.ex trivial)
@[simp] theorem okIn_ex{p q:Nat->Prop}{t sz:Nat}{es:List (List D)}:OkIn p q (.ex t sz es)↔q t:=⟨fun h=>by cases h;assumption,.ex⟩
theorem TK.more{mtok:Nat->Bool}{nt0:Nat}{tok:Nat->Bool}{nt:Nat}{os:List Own}(h:TK mtok nt0 tok nt os)(q:Nat):TK mtok nt0 (upd tok (nt+q) true) (nt+q+1) (.tok (nt+q)::os):=by
 have hle:=h.le;refine⟨fun t ht=>?_,h.lt,by omega,fun o ho t e=>?_,List.pairwise_cons.2 ⟨fun o ho t e e'=>?_,h.ne⟩⟩
 .have:=h.lt t ht
  rw[uO _ _ (by omega)];exact h.old t ht
 .rcases List.mem_cons.1 ho with rfl|ho
  .cases e;exact⟨uS _ _ _,by omega,by omega⟩
  .obtain⟨h1,h2,h3⟩:=h.own o ho t e;exact⟨by rw[uO _ _ (by omega)];exact h1,h2,by omega⟩
 .cases e;have:=(h.own o ho _ e').2.2
  omega
abbrev U(n:Int):AV:=.d (.raw (.int .u64 n))
theorem u64_in{n:Int}(h0:0<=n)(h1:n<=18446744073709551615):IntKind.u64.wrap n=n:=by
 exact IntWalk.u64_in n ⟨h0,h1⟩
@[simp] theorem rowsI_tail(l:List Int):(rowsI l).tail=rowsI l.tail:=by simp[rowsI]
structure Sl where
 a:Int
 b:Int
 c:Int
 d:Int
 deriving DecidableEq,Inhabited
structure Te where
 k:Int
 a:Int
 b:Int
 c:Int
 d:Int
 deriving DecidableEq,Inhabited
abbrev Sl.cells(s:Sl):List D:=[.raw (.int .i64 s.a),.raw (.int .i64 s.b),.raw (.int .i64 s.c),.raw (.int .i64 s.d)]
abbrev Te.cells(t:Te):List D:=[.raw (.int .i64 t.k),.raw (.int .i64 t.a),.raw (.int .i64 t.b),.raw (.int .i64 t.c),.raw (.int .i64 t.d)]
abbrev slots(l:List Sl):D:=.sl 4 (l.map Sl.cells)
abbrev tests(l:List Te):D:=.sl 5 (l.map Te.cells)
inductive Cd where
 | mk (kind:Int) (kids:List Cd) (m:Mo) (g:Gr) (sl:List Sl) (vars:Int) (te:List Te)
def Cd.kind:Cd->Int|.mk k _ _ _ _ _ _=>k
def Cd.kids:Cd->List Cd|.mk _ c _ _ _ _ _=>c
def Cd.m:Cd->Mo|.mk _ _ m _ _ _ _=>m
def Cd.g:Cd->Gr|.mk _ _ _ g _ _ _=>g
def Cd.sl:Cd->List Sl|.mk _ _ _ _ s _ _=>s
def Cd.vars:Cd->Int|.mk _ _ _ _ _ v _=>v
def Cd.te:Cd->List Te|.mk _ _ _ _ _ _ t=>t
mutual
def Cd.cells:Cd->List D
 | .mk k c m g s v t=>[.raw (.int .i64 k),.sl 9 (Cd.rows c),ints m.nodes,ints m.edges,ints g.nodes,AM.edges g.edges,slots s,.raw (.int .i64 v),tests t]
def Cd.rows:List Cd->List (List D)
 | []=>[]
 | x::r=>Cd.cells x::Cd.rows r
end
theorem Cd.rows_map:∀l:List Cd,Cd.rows l=l.map Cd.cells
 | []=>by simp[Cd.rows]
 | x::r=>by simp[Cd.rows,Cd.rows_map r]
theorem Cd.cells_eq(c:Cd):c.cells=[.raw (.int .i64 c.kind),.sl 9 (c.kids.map Cd.cells),ints c.m.nodes,ints c.m.edges,ints c.g.nodes,AM.edges c.g.edges,slots c.sl,.raw (.int .i64 c.vars),tests c.te]:=by
 cases c;simp[Cd.cells,Cd.rows_map,Cd.kind,Cd.kids,Cd.m,Cd.g,Cd.sl,Cd.vars,Cd.te]
abbrev conds(l:List Cd):D:=.sl 9 (l.map Cd.cells)
abbrev Cd.row(c:Cd):List AV:=[I c.kind,.d (conds c.kids),.d (ints c.m.nodes),.d (ints c.m.edges),.d (ints c.g.nodes),.d (AM.edges c.g.edges),.d (slots c.sl),I c.vars,.d (tests c.te)]
abbrev Cd.av(c:Cd):AV:=.agg c.row
theorem Cd.kid_lt{c x:Cd}(h:x∈c.kids):SizeOf.sizeOf x<SizeOf.sizeOf c:=by
 cases c;simp only[Cd.kids] at h;have:=List.sizeOf_lt_of_mem h
 simp only[Cd.mk.sizeOf_spec];omega
def bigN:Nat:=100000000000000
theorem bigN_eq:bigN=100000000000000:=rfl
def kidN:Nat:=764877654105
theorem kidN_eq:kidN=764877654105:=rfl
inductive Cd.Big:Cd->Prop
 | mk {c:Cd} (hk:c.kids.length<=kidN) (hmn:c.m.nodes.length<=bigN) (hme:c.m.edges.length<=bigN) (hgn:c.g.nodes.length<=bigN) (hge:c.g.edges.length<=bigN) (hs:c.sl.length<=bigN) (ht:c.te.length<=bigN)
   (h:∀x∈c.kids,Cd.Big x):Cd.Big c
theorem Cd.Big.kids{c:Cd}(h:c.Big):c.kids.length<=kidN:=by cases h;assumption
theorem Cd.Big.kid{c:Cd}(h:c.Big):∀x∈c.kids,Cd.Big x:=by cases h;assumption
def measStep(f:Cd->Int × Int)(a:Int × Int)(k:Cd):Int × Int:=(IntKind.i64.wrap (a.1+(f k).1),max a.2 (f k).2)
mutual
def Cd.meas:Cd->Int × Int
 | .mk k c _ _ _ _ _=>let a:=Cd.measL c (1,0);if k=5 then (a.1,IntKind.i64.wrap (a.2+1)) else a
def Cd.measL:List Cd->Int × Int->Int × Int
 | [],a=>a
 | x::r,a=>Cd.measL r (IntKind.i64.wrap (a.1+(Cd.meas x).1),max a.2 (Cd.meas x).2)
end
theorem Cd.measL_eq:∀(l:List Cd) (a:Int × Int),Cd.measL l a=l.foldl (measStep Cd.meas) a
 | [],a=>by simp[Cd.measL]
 | x::r,a=>by simp[Cd.measL,Cd.measL_eq r,measStep]
def measK(l:List Cd)(i:Nat):Int × Int:=(l.take i).foldl (measStep Cd.meas) (1,0)
theorem measK_zero(l:List Cd):measK l 0=(1,0):=by simp[measK]
theorem measK_succ(l:List Cd){i:Nat}(h:i<l.length):measK l (i+1)=(IntKind.i64.wrap ((measK l i).1+(Cd.meas l[i]).1),max (measK l i).2 (Cd.meas l[i]).2):=by
 simp only[measK,List.take_succ_eq_append_getElem h,List.foldl_append,List.foldl_cons,List.foldl_nil,measStep]
theorem Cd.meas_eq(c:Cd):c.meas=if c.kind=5 then ((measK c.kids c.kids.length).1,IntKind.i64.wrap ((measK c.kids c.kids.length).2+1)) else measK c.kids c.kids.length:=by
 cases c;simp[Cd.meas,Cd.kind,Cd.kids,measK,Cd.measL_eq]
theorem Cd.get{l:List Cd}{i:Nat}(h:i<l.length):(l.map Cd.cells)[i]?=some [.raw (.int .i64 l[i].kind),conds l[i].kids,ints l[i].m.nodes,ints l[i].m.edges,ints l[i].g.nodes,AM.edges l[i].g.edges,slots l[i].sl,.raw (.int .i64 l[i].vars),tests l[i].te]:=by
 simp[h,Cd.cells_eq l[i]]
def stMe(c:Cd)(nb:Nat)(box:Bxs)(tok:Tks)(nt:Nat)(i:Nat):AS :=
 ⟨tl [(11,.d (conds c.kids)),(12,I c.kids.length),(13,I i),(4,I (measK c.kids i).1),(5,I (measK c.kids i).2),(1,.ptr (nb+1) 0 0)],lb nb box [(1,[c.row])],tok,nt⟩
theorem measure_c:∀(n:Nat) (c:Cd),SizeOf.sizeOf c<n->c.Big->∀(tok:Tks) (nt:Nat),DCall prog 191 [c.av] tok nt (.tup [I c.meas.1,I c.meas.2]) tok nt
 | 0,c,hn,_,tok,nt=>absurd hn (Nat.not_lt_zero _)
 | n+1,c,hn,hb,tok,nt=>by
  intro box nb;have ih:=fun x (hx:x∈c.kids)=>measure_c n x (by have:=Cd.kid_lt hx;omega) (hb.kid x hx)
  have hkb:=hb.kids;rw[kidN_eq] at hkb;have hR:=c.meas_eq;refine sI func191 ntmps191 fun Hb Ht=>?_
  refine sR ?_;simp;refine sR ?_;simp;refine sR ?_;simp;refine sN ?_;refine sL (stMe c nb box tok nt) (fun i=>i<=c.kids.length) (fun i=>c.kids.length-i) 0 (Nat.zero_le _) (wM (nr _) rfl (by simp[ToL,lk,measK_zero]) (by simp[BoxL,lk])) ?_;rintro i S hi hS;simp only[stMe] at hS;subst hS;have hw:=sW (i:=i) (by omega);refine sR ?_;simp;refine sC ?_;simp;refine⟨fun hlt=>?_,fun hge=>?_⟩
  .have hS:=measK_succ c.kids hlt;have ihx:=ih _ (List.getElem_mem hlt);refine sR ?_;simp[hlt,Cd.cells_eq];generalize c.kids[i]=x at *;refine sR ?_;simp;refine sD (ihx _ _) ?_;simp;refine sR ?_;simp;refine sR ?_;simp[hw];refine sE ?_;exact⟨i+1,hlt,by omega,wM (nr _) rfl (by simp[ToL,lk,hS]) (by simp[BoxL,lk])⟩
  .refine sX ?_;simp only[AU,↓reduceIte];have:i=c.kids.length:=by omega
   subst this;refine sR ?_;simp;by_cases h5:c.kind=5
   .have hb5:(c.kind==5)=true:=by simp[h5]
    simp only[hb5];refine sC ?_;simp;refine sR ?_;simp;refine sR ?_;simp;refine sT (sH Hb Ht ?_);simp[hR,h5]
   .have hb5:(c.kind==5)=false:=by simp[h5]
    simp only[hb5];refine sC ?_;simp;refine sR ?_;simp;refine sT (sH Hb Ht ?_);simp[hR,h5]
def z0(n:Int):Bool:=n==0
theorem z0_eq(n:Int):(n==0)=z0 n:=rfl
def plainC(c:Cd):Bool:=z0 c.sl.length&&(z0 c.vars&&z0 c.te.length)
def unusedC(c:Cd):Bool:=z0 c.m.nodes.length&&(z0 c.m.edges.length&&(z0 c.g.nodes.length&&(z0 c.g.edges.length&&plainC c)))
def okC(c:Cd):Bool :=
 if c.kind=1 then z0 c.kids.length&&unusedC c
 else if c.kind=2 then decide ((c.kids.length:Int)=1)&&unusedC c
 else if c.kind=3∨c.kind=4 then decide (0<c.kids.length)&&unusedC c
 else if c.kind=5 then decide ((c.kids.length:Int)=1)
 else false
def shapeC(c:Cd):Int:=if okC c=true then if plainC c=true then 0 else 8 else 1
theorem plain_c(c:Cd):DC 248 [.agg [.d (ints c.g.nodes),.d (AM.edges c.g.edges),.d (slots c.sl),I c.vars,.d (tests c.te)]] (B (plainC c)):=by
 intro tok nt box nb;refine sI func248 ntmps248 fun Hb Ht=>?_
 refine sR ?_;simp;cases h1:z0 c.sl.length
 .refine sR ?_;simp[z0_eq,h1];refine sT (sH Hb Ht ?_);simp[plainC,h1]
 .cases h2:z0 c.vars
  .refine sR ?_;simp[z0_eq,h1,h2];refine sT (sH Hb Ht ?_);simp[plainC,h1,h2]
  .refine sR ?_;simp[z0_eq,h1,h2];refine sT (sH Hb Ht ?_);simp[plainC,h1,h2]
theorem unused_c(c:Cd):DC 247 [c.av] (B (unusedC c)):=by
 intro tok nt box nb;refine sI func247 ntmps247 fun Hb Ht=>?_
 refine sR ?_;simp;cases h1:z0 c.m.nodes.length
 .refine sR ?_;simp[z0_eq,h1];refine sT (sH Hb Ht ?_);simp[unusedC,h1]
 .cases h2:z0 c.m.edges.length
  .refine sR ?_;simp[z0_eq,h1,h2];refine sT (sH Hb Ht ?_);simp[unusedC,h1,h2]
  .cases h3:z0 c.g.nodes.length
   .refine sR ?_;simp[z0_eq,h1,h2,h3];refine sT (sH Hb Ht ?_);simp[unusedC,h1,h2,h3]
   .cases h4:z0 c.g.edges.length
    .refine sR ?_;simp[z0_eq,h1,h2,h3,h4];refine sT (sH Hb Ht ?_);simp[unusedC,h1,h2,h3,h4]
    .refine sR ?_;simp[z0_eq,h1,h2,h3,h4];refine sD (plain_c c _ _) ?_;simp;refine sT (sH Hb Ht ?_);simp[unusedC,h1,h2,h3,h4]
theorem shape_c(c:Cd):DC 190 [c.av] (I (shapeC c)):=by
 intro tok nt box nb;refine sI func190 ntmps190 fun Hb Ht=>?_
 refine sR ?_;simp;refine sR ?_;simp;refine sR ?_;simp;refine AL.mid ⟨tl [(3,B (okC c)),(1,.ptr (nb+1) 0 0),(2,I 0)],lb nb box [(1,[c.row])],tok,nt⟩ ?_ ?_
 .by_cases k1:c.kind=1
  .refine sR ?_;simp[k1];refine sC ?_;simp;cases h1:z0 c.kids.length
   .refine sR ?_;simp[z0_eq,h1];refine sE ?_;exact wM (nr _) rfl (by simp[ToL,lk,okC,k1,h1]) (by simp[BoxL,lk])
   .refine sR ?_;simp[z0_eq,h1];refine sD (unused_c c _ _) ?_;simp;refine sE ?_;exact wM (nr _) rfl (by simp[ToL,lk,okC,k1,h1]) (by simp[BoxL,lk])
  .have n1:(c.kind==1)=false:=by simp[k1]
   refine sR ?_;simp[n1];refine sC ?_;simp;by_cases k2:c.kind=2
   .refine sR ?_;simp[k2];refine sC ?_;simp;by_cases h1:(c.kids.length:Int)=1
    .refine sR ?_;simp[h1];refine sD (unused_c c _ _) ?_;simp;refine sE ?_;exact wM (nr _) rfl (by simp[ToL,lk,okC,k2,h1]) (by simp[BoxL,lk])
    .have b1:((c.kids.length:Int)==1)=false:=by simp[h1]
     refine sR ?_;simp[b1];refine sE ?_;exact wM (nr _) rfl (by simp[ToL,lk,okC,k2,h1]) (by simp[BoxL,lk])
   .have n2:(c.kind==2)=false:=by simp[k2]
    refine sR ?_;simp[n2];refine sC ?_;simp;refine AL.seq ?_;refine AL.mid ⟨tl [(26,B (decide (c.kind=3∨c.kind=4))),(5,I c.kind),(3,B false),(1,.ptr (nb+1) 0 0),(2,I 0)],lb nb box [(1,[c.row])],tok,nt⟩ ?_ ?_
    .by_cases k3:c.kind=3
     .refine sR ?_;simp[k3];refine sC ?_;simp;refine sE ?_;exact wM (nr _) rfl (by simp[ToL,lk,k3]) (by simp[BoxL,lk])
     .have n3:(c.kind==3)=false:=by simp[k3]
      refine sR ?_;simp[n3];refine sC ?_;simp;by_cases k4:c.kind=4
      .refine sR ?_;simp[k4];refine sE ?_;exact wM (nr _) rfl (by simp[ToL,lk,k4]) (by simp[BoxL,lk])
      .have n4:(c.kind==4)=false:=by simp[k4]
       refine sR ?_;simp[n4];refine sE ?_;exact wM (nr _) rfl (by simp[ToL,lk,k3,k4]) (by simp[BoxL,lk])
    .by_cases k34:c.kind=3∨c.kind=4
     .have d34:decide (c.kind=3∨c.kind=4)=true:=decide_eq_true k34
      simp only[d34];refine sC ?_;simp;by_cases h1:0<c.kids.length
      .refine sR ?_;simp[h1];refine sD (unused_c c _ _) ?_;simp;refine sE ?_;exact wM (nr _) rfl (by simp[ToL,lk,okC,k1,k2,k34,h1]) (by simp[BoxL,lk])
      .refine sR ?_;simp[h1];refine sE ?_;exact wM (nr _) rfl (by simp[ToL,lk,okC,k1,k2,k34,h1]) (by simp[BoxL,lk])
     .have d34:decide (c.kind=3∨c.kind=4)=false:=decide_eq_false k34
      simp only[d34];refine sC ?_;simp;by_cases k5:c.kind=5
      .refine sR ?_;simp[k5];refine sC ?_;simp;have h3:¬((5:Int)=3∨(5:Int)=4):=by decide
       by_cases h1:(c.kids.length:Int)=1
       .refine sR ?_;simp[h1];refine sE ?_;exact wM (nr _) rfl (by simp[ToL,lk,okC,k5,h1]) (by simp[BoxL,lk])
       .have b1:((c.kids.length:Int)==1)=false:=by simp[h1]
        refine sR ?_;simp[b1];refine sE ?_;exact wM (nr _) rfl (by simp[ToL,lk,okC,k5,h1]) (by simp[BoxL,lk])
      .have n5:(c.kind==5)=false:=by simp[k5]
       refine sR ?_;simp[n5];refine sC ?_;simp;refine sE ?_;exact wM (nr _) rfl (by simp[ToL,lk,okC,k1,k2,k34,k5]) (by simp[BoxL,lk])
 .refine sR ?_;simp;cases h1:okC c
  .refine sC ?_;simp;refine sR ?_;simp;refine sT (sH Hb Ht ?_);simp[shapeC,h1]
  .refine sC ?_;simp;refine sR ?_;simp;refine sD (plain_c c _ _) ?_;simp;cases h2:plainC c
   .refine sC ?_;simp;refine sR ?_;simp;refine sT (sH Hb Ht ?_);simp[shapeC,h1,h2]
   .refine sC ?_;simp;refine sR ?_;simp;refine sT (sH Hb Ht ?_);simp[shapeC,h1,h2]
def errL(f:Cd->Int):List Cd->Int
 | []=>0
 | x::r=>if f x=0 then errL f r else f x
theorem errL_all{f:Cd->Int}:∀{l:List Cd},(∀x∈l,f x=0)->errL f l=0
 | [],_=>rfl
 | x::r,h=>by rw[errL,if_pos (h x (by simp)),errL_all fun y hy=>h y (by simp[hy])]
theorem errL_at{f:Cd->Int}:∀{l:List Cd} {i:Nat} (hi:i<l.length),(∀x∈l.take i,f x=0)->f l[i]≠0->errL f l=f l[i]
 | x::r,0,_,_,h=>by
  have h':¬f x=0:=h
  rw[errL,if_neg h'];rfl
 | x::r,i+1,hi,h,hf=>by
  rw[errL,if_pos (h x (by simp))];exact errL_at (by simpa using hi) (fun y hy=>h y (by simp[hy])) hf
theorem errL_more{f:Cd->Int}{l:List Cd}{i:Nat}(hi:i<l.length)(h:∀x∈l.take i,f x=0)(h1:f l[i]=0):∀x∈l.take (i+1),f x=0:=by
 rw[List.take_succ_eq_append_getElem hi];intro x hx;rcases List.mem_append.1 hx with hx|hx
 .exact h x hx
 .rw[List.mem_singleton] at hx;subst hx;exact h1
def smallC(c:Cd):Int:=if 2000<c.meas.1∨3<c.meas.2 then 3 else 0
theorem cdSmall_c(c:Cd)(hb:c.Big):DC 118 [c.av] (I (smallC c)):=by
 intro tok nt box nb;have hm:=measure_c _ c (Nat.lt_succ_self _) hb;unfold smallC;generalize c.meas=q at *;refine sI func118 ntmps118 fun Hb Ht=>?_
 refine sR ?_;simp;refine sR ?_;simp;refine sD (hm _ _) ?_;simp;refine sR ?_;simp;by_cases h1:2000<q.1
 .simp[h1];refine sC ?_;simp;refine sR ?_;simp;refine sT (sH Hb Ht ?_);simp[h1]
 .by_cases h2:3<q.2
  .simp[h1,h2];refine sC ?_;simp;refine sR ?_;simp;refine sT (sH Hb Ht ?_);simp[h1,h2]
  .simp[h1,h2];refine sC ?_;simp;refine sR ?_;simp;refine sT (sH Hb Ht ?_);simp[h1,h2]
variable {P:Program}
inductive Bo (box:Bxs):AV->AV->Prop
 | same {x} (h:OkIn (fun _=>False) (fun _=>True) x):Bo box x x
 | msl {k sz:Nat} {es:List (List D)} (hk:box k=some (rowsD es)):Bo box (.msl k 0 es.length sz) (.d (.sl sz es))
def BoL(box:Bxs):List AV->List AV->Prop
 | [],[]=>True
 | x::a,y::b=>Bo box x y/\BoL box a b
 | _,_=>False
theorem Bo.ext{box box':Bxs}(he:Ext box box'){x y:AV}(h:Bo box x y):Bo box' x y:=by
 cases h with
 | same h=>exact .same h
 | msl h=>exact .msl (he _ _ h)
theorem BoL.ext{box box':Bxs}(he:Ext box box'):∀{a b:List AV},BoL box a b->BoL box' a b
 | [],[],_=>trivial
 | x::a,y::b,h=>⟨h.1.ext he,BoL.ext he h.2⟩
 | [],_::_,h=>h.elim
 | _::_,[],h=>h.elim
def Gh.lend(G:Gh)(p:Nat->Prop)[DecidablePred p]:Gh:={ bx:=fun _=>none,kind:=fun b=>if p b then .whole else G.kind b,tk:=G.tk,nt:=G.nt }
theorem lend_ps{G:Gh}{p:Nat->Prop}[DecidablePred p]{a:Addr}(h:G.ps a):(G.lend p).ps a:=by
 unfold Gh.ps at h ⊢;simp only[Gh.lend];by_cases e:p a.block
 .simp[e]
 .simp only[e,↓reduceIte];exact h
theorem RV.lend{G:Gh}{w:World}{p:Nat->Prop}[DecidablePred p](hp:∀b,p b->G.kind b=.box){x:AV}{v:Value}(h:RV G w x v)(ho:OkIn (fun _=>False) (fun _=>True) x):RV (G.lend p) w x v:=by
 have hc:∀(a:Addr) (u:Value),G.ps a->w.cell? a=some u->(G.lend p).ps a/\w.cell? a=some u:=fun a u h1 h2=>⟨lend_ps h1,h2⟩
 have hk:∀g,G.kind g≠.box->(G.lend p).kind g=G.kind g:=fun g hg=>by
  simp only[Gh.lend];rw[if_neg fun e=>hg (hp g e)]
 induction h with
 | bot=>exact .bot
 | d h1=>exact .d (h1.mono hc)
 | osl h1 h2 =>
  refine .osl (h1.mono hc) ?_;rename_i o _;cases o with
  | full=>exact h2
  | tok t =>
   refine⟨h2.1,fun y hy=>?_⟩;have:=h2.2 y hy
   cases y with
   | none=>exact this
   | some g =>
    obtain⟨cap,hv,hg⟩:=this;exact⟨cap,hv,(hk g (by rw[hg];intro e;cases e)).trans hg⟩
 | ptr h1=>cases ho with|ptr h=>exact h.elim
 | here h1 h2=>cases ho with|here h=>exact h.elim
 | buf h1 h2 h3 h4 =>
  refine .buf (h1.mono hc) ⟨h2.1,fun y hy=>?_⟩ h3 h4;have:=h2.2 y hy
  cases y with
  | none=>exact this
  | some g =>
   obtain⟨cap,hv,hg⟩:=this;exact⟨cap,hv,(hk g (by rw[hg];intro e;cases e)).trans hg⟩
 | cptr a u h1 h2=>exact .cptr a u (fun j hj=>hc _ _ (h1 j hj).1 (h1 j hj).2) fun j hj=>(h2 j hj).mono hc
 | msl h1=>cases ho with|msl h=>exact h.elim
 | fn hl _ ih=>cases ho with|fn h=>exact .fn hl fun i h1 h2=>ih i h1 h2 (h _ (List.getElem_mem h1))
 | agg hl _ hone ih=>cases ho with|agg h=>exact .agg hl (fun i h1 h2=>ih i h1 h2 (h _ (List.getElem_mem h1))) hone
 | tup hl _ ih=>cases ho with|tup h=>exact .tup hl fun i h1 h2=>ih i h1 h2 (h _ (List.getElem_mem h1))
 | ex h1 =>
  obtain⟨r1,r0,r2⟩:=h1;refine .ex ⟨r1,r0,fun y hy=>?_⟩;obtain⟨g,cap,cs,e,rfl,h2,h3,h4,h5,h6,h7,h8,h9,h10⟩:=r2 y hy;exact⟨g,cap,cs,e,rfl,h2,h3,h4,(hk g (by rw[h5];intro e;cases e)).trans h5,h6,h7,h8,fun i g1 g2=>(h9 i g1 g2).mono hc,h10⟩
 | stk h1 =>
  obtain⟨r1,A,cap,hv,hc1,hm,r2⟩:=h1;refine .stk ⟨r1,A,cap,hv,hc1,hm,fun y hy=>?_⟩;have h0:=r2 y hy;cases y with
  | none=>exact h0
  | some g =>
   obtain⟨hA,vs,sp,e,h5,h6,h7,h8,h9⟩:=h0;exact⟨hA,vs,sp,e,(hk g (by rw[h5];intro e;cases e)).trans h5,h6,h7,h8.mono hc,h9⟩
 | que h1 h2=>exact .que (h1.mono hc) (h2.imp h2.1 fun x hx=>⟨hx,fun g _ f c he=>(hk g (by rw[he];intro e;cases e)).trans he⟩)
 | mp h1 =>
  refine .mp (h1.imp h1.1 (fun _ _ _ _ k=>k) hc (fun x hx=>⟨hx,fun g _ he=>⟨(hk g (by rw[he];intro e;cases e)).trans he,rfl⟩⟩) fun e _ n u h2=>?_);generalize e.2.2=o at h2 ⊢;cases o with
  | full=>exact h2
  | tok t =>
   refine⟨h2.1,fun y hy=>?_⟩;have:=h2.2 y hy
   cases y with
   | none=>exact this
   | some g =>
    obtain⟨cap,hv,hg⟩:=this;exact⟨cap,hv,(hk g (by rw[hg];intro e;cases e)).trans hg⟩
 | mpd h1=>exact .mpd (h1.imp hc fun r _ hk1=>⟨by simp only[Gh.lend];split;rfl;exact hk1,rfl⟩)
theorem Bo.lend{G:Gh}{m:AMem}{w:World}{p:Nat->Prop}[DecidablePred p](hm:RelM G m w)(hp:∀b,p b↔∃k sz,G.bx k=some (b,sz)){x y:AV}{v:Value}(hb:Bo m.box x y)(h:RV G w x v):RV (G.lend p) w y v:=by
 have hpb:∀b,p b->G.kind b=.box:=fun b hb=>by
  obtain⟨k,sz,h⟩:=(hp b).1 hb;exact(hm.blt h).2
 cases hb with
 | same ho=>exact h.lend hpb ho
 | @msl k sz es hk =>
  letI:DecidablePred (fun _:Nat=>False):=fun _=>Classical.propDecidable _
  generalize hx:(AV.msl k 0 es.length sz)=x at h;have h':=h
  cases h with
  | @msl k' off n b sz' cap h1 h2 h3 =>
   cases hx;have hw:RV (G.weak (fun _=>False) (some b) G.nt) w (.d (.sl sz es)) (.slice (some ⟨b,0*sz,none⟩) es.length cap):=by
    refine RV.to (q:=fun _=>True) (fz:=some (k,sz,es)) hm (fun j hj=>by cases hj;exact(hm.blt h1).2) ?_ ?_ h' (.frz rfl) (fun t _ ht=>ht)
    .intro k2 sz2 es2 e;cases e;obtain⟨_,cs,e',_,hs,_⟩:=hm.box k (rowsD es) b sz hk h1;refine⟨rowsD es,hk,by simp,hs,fun i g1 g2=>?_⟩;have:(rowsD es)[i]=(es[i]).map AV.d:=by simp[rowsD]
     rw[this];exact toDs_map _
    .intro k2 sz2 es2 e j s hj;cases e;rw[h1] at hj;cases hj;rfl
   cases hw with
   | d hd =>
    refine .d (hd.mono fun a u h4 h5=>⟨?_,h5⟩);unfold Gh.ps at h4 ⊢;simp only[Gh.weak,Gh.lend] at h4 ⊢;by_cases e:p a.block
    .simp[e]
    .simp only[e,↓reduceIte];have hne:¬(some b=some a.block):=fun e2=>e ((hp _).2 ⟨k,sz,by cases e2;exact h1⟩)
     simp only[hne,↓reduceIte] at h4;exact h4
  | _=>cases hx
theorem BoL.lend{G:Gh}{m:AMem}{w:World}{p:Nat->Prop}[DecidablePred p](hm:RelM G m w)(hp:∀b,p b↔∃k sz,G.bx k=some (b,sz)):∀{xs ys:List AV} {vs:List Value},BoL m.box xs ys->RVs G w xs vs->RVs (G.lend p) w ys vs
 | [],[],vs,_,h=>⟨by have:=h.1;simpa using this,fun i h=>by simp at h⟩
 | x::a,y::b,vs,hb,h=>by
  obtain⟨v,us,rfl,h1,h2⟩:=h.uncons;exact RVs.cons (hb.1.lend hm hp h1) (BoL.lend hm hp hb.2 h2)
 | [],_::_,_,h,_=>h.elim
 | _::_,[],_,h,_=>h.elim
theorem RCall.lent{f:FuncId}{args args':List AV}{box:Bxs}{tok:Nat->Bool}{nt:Nat}{u:Value}{tok':Nat->Bool}{nt':Nat}(hu:u.oneCell'=true)(h:DCall P f args' tok nt (.d (.raw u)) tok' nt')(hb:BoL box args args'):RCall P f args box tok nt (.d (.raw u)) tok' nt':=by
 classical
 intro box' nb hext;have hb':=hb.ext hext
 obtain⟨hen,hc⟩:=h (fun _=>none) nb;refine⟨hen,fun G w vals hm hr=>?_⟩
 let p:Nat->Prop:=fun b=>∃k sz,G.bx k=some (b,sz)
 have hp:∀b,p b↔∃k sz,G.bx k=some (b,sz):=fun b=>Iff.rfl
 have hpb:∀b,p b->b<w.heap.size/\G.kind b=.box:=fun b ⟨k,sz,hk⟩=>hm.blt hk
 have htk:∀t g,G.tk t=some (some g)->¬p g:=fun t g ht hpg=>by
  obtain⟨f',cur,e,h1,_⟩:=hm.tokb t g ht;rw[(hpb g hpg).2] at h1;rcases h1 with ⟨h1,_⟩|h1<;>cases h1
 have hm1:RelM (G.lend p) ⟨fun _=>none,nb,tok,nt⟩ w:=by
  constructor
  case box=>intro k rows b sz h1;cases h1
  case nobox=>intro k _;rfl
  case inj=>intro k k' b sz sz' h1;cases h1
  case nb=>intro k _;rfl
  case nt=>exact hm.nt
  case toks=>exact hm.toks
  case tokb =>
   intro t g ht;obtain⟨f',cur,e,h1,h2⟩:=hm.tokb t g ht;refine⟨f',cur,e,?_,h2⟩;simp only[Gh.lend];rw[if_neg (htk t g ht)];exact h1
  case tinj=>exact hm.tinj
  case tnt=>exact hm.tnt
  case glob=>exact hm.glob.mono fun a u h1 h2=>⟨lend_ps h1,h2⟩
  case fresh =>
   intro b hb1;simp only[Gh.lend];split
   .rfl
   .exact hm.fresh b hb1
 refine Calls.mono (hc (G.lend p) w vals hm1 (hb'.lend hm hp hr)) ?_;rintro e w' ⟨v,av,m',G1,rfl,⟨rfl,rfl⟩,h3,h4,h5,h6,h7⟩;have hv:v=u:=by cases h5 with|d h=>cases h;rfl
 subst hv;have hkeep:∀b,p b->G1.kind b=.whole/\w'.heap[b]?=w.heap[b]?:=fun b hb1=>h6.whole b (hpb b hb1).1 (by simp[Gh.lend,hb1])
 let G2:Gh:={ bx:=G.bx,kind:=fun b=>if p b then .box else G1.kind b,tk:=G1.tk,nt:=G1.nt }
 have hle:Le G w G2 w':=by
  refine⟨h6.os,h6.tape,h6.output,h6.size,fun b hb1 hk=>?_,fun b f' c hk=>?_,fun _ _ h=>h,h6.nt,fun t ht=>?_,?_⟩
  .have hn:¬p b:=fun e=>by rw[(hpb b e).2] at hk;cases hk
   obtain⟨a1,a2⟩:=h6.whole b hb1 (by simp only[Gh.lend];rw[if_neg hn];exact hk);exact⟨by simp only[G2];rw[if_neg hn];exact a1,a2⟩
  .have hn:¬p b:=fun e=>by rw[(hpb b e).2] at hk;cases hk
   obtain⟨⟨f2,a1,a2⟩,a3⟩:=h6.part b f' c (by simp only[Gh.lend];rw[if_neg hn];exact hk);exact⟨⟨f2,a1,by simp only[G2];rw[if_neg hn];exact a2⟩,a3⟩
  .rcases h6.tk t ht with a1|⟨a1,a2⟩
   .exact .inl a1
   .refine .inr ⟨a1,fun g hg=>?_⟩;have hn:=htk t g hg;obtain⟨b1,b2⟩:=a2 g hg;simp only[Gh.lend] at b1 b2;rw[if_neg hn] at b1 b2;exact⟨by simp only[G2];rw[if_neg hn];exact b1,b2⟩
  .exact h6.ty
 refine⟨v,_,_,G2,rfl,⟨rfl,rfl⟩,rfl,?_,.d (.raw hu),hle,fun k hk=>⟨hk,rfl⟩⟩;constructor
 case box =>
  intro k rows b sz hk hb1;obtain⟨g1,cs,e,g2,g3,g4,g5⟩:=hm.box k rows b sz hk hb1;have hpk:p b:=⟨k,sz,hb1⟩
  exact⟨by simp[G2,hpk],cs,e,(hkeep b hpk).2.trans g2,g3,g4.mono hle,g5⟩
 case nobox=>exact hm.nobox
 case inj=>exact hm.inj
 case nb=>exact hm.nb
 case nt=>exact h4.nt
 case toks=>exact h4.toks
 case tokb =>
  intro t g ht;obtain⟨f',cur,e,g1,g2⟩:=h4.tokb t g ht;refine⟨f',cur,e,?_,g2⟩;have hn:¬p g:=fun hpg=>by
   rw[(hkeep g hpg).1] at g1;rcases g1 with ⟨g1,_⟩|g1<;>cases g1
  simp only[G2];rw[if_neg hn];exact g1
 case tinj=>exact h4.tinj
 case tnt=>exact h4.tnt
 case glob=>exact hm.glob.mono hle.cells
 case fresh =>
  intro b hb1;have:=h6.size
  have hn:¬p b:=fun hpb1=>by have:=(hpb b hpb1).1;omega
  simp only[G2];rw[if_neg hn];exact h4.fresh b hb1
open Go Go.Proofs Go.RowKit
open Go.Proofs.Tryz
theorem rI_len(xs:List Int):(rI xs).length=xs.length:=by simp
theorem Trans.thawI{cx:Cx}{nt0 nt:Nat}{l l':List (Nat × AV)}{out:Bxs}{loc loc':List (Nat × List (List AV))}{tok:Nat->Bool}(t s:Nat)(xs:List Int)(r:Nat)(hn:cx.nb=cx.base+cx.n)(hs:s<cx.n)(hk:lk loc s=none)(ht:tok t=true)(hr:tl l r=.ex t 1 (rI xs))(hl:ThL t (cx.base+s) 1 (rI xs) l l')(hb:ThB t (cx.base+s) 1 (rI xs) loc loc'):
  Trans cx nt0 ⟨tl l,lb cx.base out loc,tok,nt⟩ ⟨tl l',lb cx.base out ((s,rowsI xs)::loc'),upd tok t false,nt⟩:=by
 rw[rowsI_eq];exact Trans.thaw t s 1 (rI xs) r hn hs hk ht hr hl hb
theorem Trans.sealI{cx:Cx}{nt0 nt:Nat}{l l':List (Nat × AV)}{out:Bxs}{loc loc':List (Nat × List (List AV))}{tok:Nat->Bool}(s:Nat)(xs:List Int)(r:Nat)(ho:out=cx.B0)(hnt:nt0<=nt)(hr:tl l r=.msl (cx.base+s) 0 xs.length 1)(hk':lk loc' s=none)(hl:SeL nt (cx.base+s) 1 (rI xs) l l')(hb:SeB nt (cx.base+s) 1 (rI xs) loc loc'):
  Trans cx nt0 ⟨tl l,lb cx.base out ((s,rowsI xs)::loc),tok,nt⟩ ⟨tl l',lb cx.base out loc',upd tok nt true,nt+1⟩:=by
 rw[rowsI_eq];exact Trans.seal s 1 (rI xs) r ho hnt (by simp) (by rw[rI_len];exact hr) hk' hl hb
theorem thTo_exI{t k n:Nat}{xs:List Int}(h:n=xs.length):ThTo t k 1 (rI xs) (.ex t 1 (rI xs)) (.msl k 0 n 1):=by
 have:n=(rI xs).length:=by rw[rI_len];exact h
 rw[this];exact .ex
theorem seTo_mslI{t k n:Nat}{xs:List Int}(h:n=xs.length):SeTo t k 1 (rI xs) (.msl k 0 n 1) (.ex t 1 (rI xs)):=by
 have:n=(rI xs).length:=by rw[rI_len];exact h
 rw[this];exact .msl
def wantX(p:Gr)(N:List Int)(i:Nat):E:=⟨(p.edges.getD i default).ty,N.getD (p.edges.getD i default).fr.toNat 0,N.getD (p.edges.getD i default).to.toNat 0⟩
abbrev exRow(p g:Gr)(kn n ke m:Nat)(f:FuncId)(caps:List AV):List AV:=[.d (ints p.nodes),.d (AM.edges p.edges),.d (ints g.nodes),.d (AM.edges g.edges),.msl kn 0 n 1,.msl ke 0 m 1,.fn (.func f) caps]
structure ExH (p g:Gr) (f:FuncId) (caps:List AV) (kx kn ke:Nat) (E0:Bxs) (N Es:List Int) (box:Bxs):Prop where
 ext:Ext E0 box
 x:box kx=some [exRow p g kn p.nodes.length ke p.edges.length f caps]
 n:box kn=some (rowsI N)
 e:box ke=some (rowsI Es)
 nl:N.length=p.nodes.length
 el:Es.length=p.edges.length
theorem ExH.lb{p g:Gr}{f:FuncId}{caps:List AV}{kx kn ke nb:Nat}{E0:Bxs}{N Es:List Int}{box:Bxs}(h:ExH p g f caps kx kn ke E0 N Es box)(hb:lb nb box []=box)(loc:List (Nat × List (List AV))):
  ExH p g f caps kx kn ke E0 N Es (AM.lb nb box loc) :=
 ⟨Ext.lb h.ext hb loc,by rw[lO (key_lt hb h.x)];exact h.x,by rw[lO (key_lt hb h.n)];exact h.n,by rw[lO (key_lt hb h.e)];exact h.e,h.nl,h.el⟩
def NonN(l:List Int)(i:Nat):Prop:=∀j,j<i->0<=l.getD j 0
theorem NonN.set{l:List Int}{i:Nat}(h:NonN l i)(hi:i<l.length)(k:Nat):NonN (l.set i k) (i+1):=fun j hj=>by
 by_cases e:j=i
 .subst e;simp[hi]
 .have:=h j (by omega)
  simpa[List.getD,List.getElem?_set,Ne.symm e] using this
theorem NonN.all{l:List Int}{i:Nat}(h:NonN l i)(hi:i=l.length):∀x∈l,0<=x:=fun x hx=>by
 obtain⟨j,hj,rfl⟩:=List.getElem_of_mem hx;have:=h j (by omega)
 simpa[hj] using this
inductive Cd.Fit:Cd->Prop
 | mk {c:Cd} (hk:c.kids.length<=kidN) (hm:c.m.Fit) (hg:c.g.Fit) (hs:c.sl.length<=bigN) (ht:c.te.length<=bigN) (h:∀x∈c.kids,Cd.Fit x):Cd.Fit c
theorem Cd.Fit.kids{c:Cd}(h:c.Fit):c.kids.length<=kidN:=by cases h;assumption
theorem Cd.Fit.kid{c:Cd}(h:c.Fit):∀x∈c.kids,Cd.Fit x:=by cases h;assumption
theorem Cd.Fit.m{c:Cd}(h:c.Fit):c.m.Fit:=by cases h;assumption
theorem Cd.Fit.g{c:Cd}(h:c.Fit):c.g.Fit:=by cases h;assumption
theorem Cd.Fit.big{c:Cd}(h:c.Fit):c.Big:=by
 induction h with
 | mk hk hm hg hs ht _ ih =>
  refine⟨hk,?_,?_,?_,?_,hs,ht,ih⟩
  .have:=hm.n;rw[bigN_eq];omega
  .have:=hm.e;rw[bigN_eq];omega
  .have:=hg.n;rw[bigN_eq];omega
  .have:=hg.e;rw[bigN_eq];omega
def ovrStep(a:Gr)(k:Int)(m:Mo)(g:Gr):Int:=if k=5 then (if validM a g m≠0 then validM a g m else if injM a g m=true then 0 else 1) else 0
mutual
def Cd.ovr:Cd->Gr->Int
 | .mk k c m g s v t,a=>if shapeC (.mk k c m g s v t)=0 then if ovrStep a k m g=0 then Cd.ovrL c (if k=5 then g else a) else ovrStep a k m g else shapeC (.mk k c m g s v t)
def Cd.ovrL:List Cd->Gr->Int
 | [],_=>0
 | x::r,a=>if Cd.ovr x a=0 then Cd.ovrL r a else Cd.ovr x a
end
theorem Cd.ovrL_eq(a:Gr):∀l:List Cd,Cd.ovrL l a=errL (fun x=>Cd.ovr x a) l
 | []=>by simp[Cd.ovrL,errL]
 | x::r=>by simp[Cd.ovrL,errL,Cd.ovrL_eq a r]
abbrev Cd.inn(c:Cd)(a:Gr):Gr:=if c.kind=5 then c.g else a
theorem Cd.ovr_eq(c:Cd)(a:Gr):c.ovr a=if shapeC c=0 then if ovrStep a c.kind c.m c.g=0 then errL (fun x=>Cd.ovr x (c.inn a)) c.kids else ovrStep a c.kind c.m c.g else shapeC c:=by
 cases c;rw[Cd.ovr,Cd.ovrL_eq];rfl
theorem AL.midP{cx:Cx}{nt0:Nat}{K:Exit->AS->Prop}{r:List CI}{S:AS}{x y:Code}(T:AS)(p:Prop)(h1:AL prog cx nt0 (fun e S'=>match e with
   | .normal=>p/\Weaks cx nt0 S' T
   | e=>AU prog cx nt0 K (.c y::r) e S') [.c x] S)(h2:p->AL prog cx nt0 K (.c y::r) T):AL prog cx nt0 K (.c x::.c y::r) S:=by
 have h3:=AL.start h1;simp only[AL] at h2 ⊢;refine h3.mono fun e S' h=>?_
 cases e with
 | normal=>exact AT.weaks h.2 (h2 h.1)
 | _=>exact h
abbrev Gr.cells2(g:Gr):List AV:=[.d (ints g.nodes),.d (AM.edges g.edges)]
def stOv(a:Gr)(c:Cd)(nb:Nat)(box:Bxs)(tok:Tks)(nt:Nat)(i:Nat):AS :=
 ⟨tl [(38,.d (conds c.kids)),(39,I c.kids.length),(40,I i),(6,.ptr (nb+6) 0 0)],lb nb box [(6,[a.cells2])],tok,nt⟩
theorem over_c:∀(n:Nat) (c:Cd),SizeOf.sizeOf c<n->c.Fit->∀(a:Gr),a.Fit->∀(tok:Tks) (nt:Nat),DCall prog 117 [a.av,c.av] tok nt (I (c.ovr a)) tok nt
 | 0,c,hn,_,a,_,tok,nt=>absurd hn (Nat.not_lt_zero _)
 | n+1,c,hn,hb,a,ha,tok,nt=>by
  intro box nb;have ih:=fun x (hx:x∈c.kids)=>over_c n x (by have:=Cd.kid_lt hx;omega) (hb.kid x hx)
  have hkb:=hb.kids;rw[kidN_eq] at hkb;have hR:=c.ovr_eq a;have hsh:=shape_c c;have hva:=valid51_c a c.g c.m ha hb.g;have hin:=injective56_c a c.g c.m ha hb.g hb.m;have hinn:(c.inn a).Fit:=by unfold Cd.inn;split;exact hb.g;exact ha
  refine sI func117 ntmps117 fun Hb Ht=>?_
  refine sR ?_;simp;refine sR ?_;simp;refine sD (hsh _ _) ?_;simp;refine sR ?_;simp;by_cases h0:shapeC c=0
  .simp[h0];refine sC ?_;simp;refine sR ?_;simp;refine sR ?_;simp;refine AL.midP ⟨tl [(6,.ptr (nb+6) 0 0),(3,.ptr (nb+3) 0 0)],lb nb box [(6,[(c.inn a).cells2]),(3,[c.row])],tok,nt⟩ (ovrStep a c.kind c.m c.g=0) ?_ ?_
   .have hst:ovrStep a c.kind c.m c.g=if c.kind=5 then (if validM a c.g c.m≠0 then validM a c.g c.m else if injM a c.g c.m=true then 0 else 1) else 0:=rfl
    by_cases k5:c.kind=5
    .have hii:c.inn a=c.g:=if_pos k5
     rw[if_pos k5] at hst;simp[k5];refine sC ?_;simp;refine sR ?_;simp;refine sR ?_;simp;refine sD (hva _ _) ?_;simp;refine sR ?_;simp;by_cases h1:validM a c.g c.m=0
     .rw[if_neg (by simp[h1])] at hst;simp[h1];refine sC ?_;simp;refine sR ?_;simp;refine sD (hin _ _) ?_;simp;cases h2:injM a c.g c.m
      .simp[h2] at hst;refine sC ?_;simp;refine sR ?_;simp;refine sT (sH Hb Ht ?_);simp[hR,h0,hst]
      .simp[h2] at hst;refine sC ?_;simp;refine sE ?_;refine⟨by simpa[k5] using hst,?_⟩;exact wM (nr _) rfl (by simp[ToL,lk]) (by simp[BoxL,lk,hii])
     .rw[if_pos (by simpa using h1)] at hst;have b1:(validM a c.g c.m != 0)=true:=by simp[h1]
      simp only[b1];refine sC ?_;simp;refine sR ?_;simp;refine sT (sH Hb Ht ?_);simp[hR,h0,hst,h1]
    .have hii:c.inn a=a:=if_neg k5
     have n5:(c.kind==5)=false:=by simp[k5]
     simp only[n5];refine sC ?_;simp;refine sE ?_;refine⟨by rw[hst,if_neg k5],?_⟩;exact wM (nr _) rfl (by simp[ToL,lk]) (by simp[BoxL,lk,hii])
   .intro hst;rw[if_pos h0,if_pos hst] at hR;generalize c.inn a=b at *;refine sR ?_;simp;refine sN ?_;refine sL (stOv b c nb box tok nt) (fun i=>i<=c.kids.length/\∀x∈c.kids.take i,Cd.ovr x b=0) (fun i=>c.kids.length-i) 0 ⟨Nat.zero_le _,by simp⟩ wkA ?_;rintro i S ⟨hi,hz⟩ hS;simp only[stOv] at hS;subst hS;have hw:=sW (i:=i) (by omega);refine sR ?_;simp;refine sC ?_;simp;refine⟨fun hlt=>?_,fun hge=>?_⟩
    .have ihx:=fun a ha=>ih _ (List.getElem_mem hlt) a ha
     have hyes:=errL_more (f:=fun x=>Cd.ovr x b) hlt hz;have hno:=errL_at (f:=fun x=>Cd.ovr x b) hlt hz;refine sR ?_;simp[hlt,Cd.cells_eq];generalize c.kids[i]=x at *;refine sR ?_;simp;refine sD (ihx b hinn _ _) ?_;simp;refine sR ?_;simp;by_cases h1:x.ovr b=0
     .simp only[h1];refine sC ?_;simp;refine sR ?_;simp[hw];refine sE ?_;exact⟨i+1,⟨hlt,hyes h1⟩,by omega,wkA⟩
     .have b1:(x.ovr b != 0)=true:=by simp[h1]
      simp only[b1];refine sC ?_;simp;refine sR ?_;simp;refine sT (sH Hb Ht ?_);simp[hR,hno h1]
    .refine sX ?_;simp only[AU,↓reduceIte];rw[List.take_of_length_le hge] at hz;refine sR ?_;simp;refine sT (sH Hb Ht ?_);simp[hR,errL_all (f:=fun x=>Cd.ovr x b) hz]
  .rw[if_neg h0] at hR;have b0:(shapeC c != 0)=true:=by simp[h0]
   simp only[b0];refine sC ?_;simp;refine sR ?_;simp;refine sT (sH Hb Ht ?_);simp[hR]
def validC(a:Gr)(c:Cd):Int:=if vG a≠0 then vG a else if c.ovr a≠0 then c.ovr a else smallC c
theorem validC_c(a:Gr)(c:Cd)(ha:a.Fit)(hb:c.Fit):DC 61 [a.av,c.av] (I (validC a c)):=by
 intro tok nt box nb;have hg:=graphValid_c a ha;have ho:=over_c _ c (Nat.lt_succ_self _) hb a ha;have hs:=cdSmall_c c hb.big;refine sI func61 ntmps61 fun Hb Ht=>?_
 repeat first|simp|refine sR ?_
 refine sD (hg _ _) ?_;repeat first|simp|refine sR ?_
 by_cases h0:vG a=0
 .simp only[h0];refine sC ?_;repeat first|simp|refine sR ?_
  refine sD (ho _ _) ?_;repeat first|simp|refine sR ?_
  by_cases h1:c.ovr a=0
  .simp only[h1];refine sC ?_;repeat first|simp|refine sR ?_
   refine sD (hs _ _) ?_;repeat first|simp|refine sR ?_
   refine sT (sH Hb Ht ?_);simp[validC,h0,h1]
  .have b1:(c.ovr a != 0)=true:=by simp[h1]
   simp only[b1];refine sC ?_;repeat first|simp|refine sR ?_
   refine sT (sH Hb Ht ?_);simp[validC,h0,h1]
 .have b0:(vG a != 0)=true:=by simp[h0]
  simp only[b0];refine sC ?_;repeat first|simp|refine sR ?_
  refine sT (sH Hb Ht ?_);simp[validC,h0]
theorem shape_kind{c:Cd}(h:shapeC c=0)(h5:c.kind=5):c.kids.length=1:=by
 unfold shapeC at h;split at h
 .rename_i hk;simp[okC,h5] at hk;omega
 .omega
abbrev Mo.cells2(m:Mo):List AV:=[.d (ints m.nodes),.d (ints m.edges)]
theorem errL_zero{f:Cd->Int}:∀{l:List Cd},errL f l=0->∀x∈l,f x=0
 | [],_,x,hx=>by cases hx
 | y::r,h,x,hx=>by
  simp only[errL] at h;split at h
  .rename_i h0;rcases List.mem_cons.1 hx with rfl|hx
   .exact h0
   .exact errL_zero h x hx
  .contradiction
theorem Cd.ovr_zero{c:Cd}{a:Gr}(h:c.ovr a=0):shapeC c=0/\ovrStep a c.kind c.m c.g=0/\∀x∈c.kids,x.ovr (c.inn a)=0:=by
 rw[c.ovr_eq] at h;split at h
 .rename_i h0;split at h
  .rename_i h1;exact⟨h0,h1,errL_zero h⟩
  .contradiction
 .contradiction
theorem ThR.nil{t k sz:Nat}{es:List (List D)}:ThR t k sz es [] []:=⟨rfl,fun i h=>by simp at h⟩
theorem ThR.cons{t k sz:Nat}{es:List (List D)}{x y:AV}{r r':List AV}(h:ThTo t k sz es x y)(hr:ThR t k sz es r r'):ThR t k sz es (x::r) (y::r'):=by
 refine⟨by simp[hr.1],fun i h1 h2=>?_⟩
 match i with
 | 0=>exact h
 | i+1=>exact hr.2 i (by simpa using h1) (by simpa using h2)
theorem ThRs.one{t k sz:Nat}{es:List (List D)}{r r':List AV}(h:ThR t k sz es r r'):ThRs t k sz es [r] [r']:=by
 refine⟨rfl,fun i h1 h2=>?_⟩
 match i with
 | 0=>exact h
 | i+1=>simp at h1
theorem ThRs.same{t k sz:Nat}{es:List (List D)}{r:List (List AV)}:ThRs t k sz es r r:=⟨rfl,fun i h1 h2=>⟨rfl,fun j g1 g2=>.same⟩⟩
structure Inn (m:Mo) (a b:Gr):Prop where
 ln:m.nodes.length=a.nodes.length
 le:m.edges.length=a.edges.length
 n:∀x∈m.nodes,0<=x/\x<b.nodes.length
 e:∀x∈m.edges,0<=x/\x<b.edges.length
theorem Inn.of{a b:Gr}{m:Mo}(h:validM a b m=0):Inn m a b:=have V:=validM_VM h;⟨V.ln,V.le,V.n,V.e⟩
structure OvOk (b p:Gr) (o:Ov):Prop where
 l:validM b o.g o.l=0
 r:validM p o.g o.r=0
 il:injM b o.g o.l=true
 ir:injM p o.g o.r=true
theorem overlapsR_ok{b p:Gr}{o:Ov}(ho:o∈(oR b p).1):OvOk b p o:=by
 by_cases hb:vG b=0
 .by_cases hp:vG p=0
  .by_cases hs:40<b.nodes.length+p.nodes.length∨80<b.edges.length+p.edges.length
   .simp[oR,hb,hp,hs] at ho
   .rw[overlapsR_list b p hb hp hs] at ho;split at ho
    .simp at ho
    .simp only[listO,List.mem_map] at ho;obtain⟨⟨x,es⟩,h1,rfl⟩:=ho;have hp1:=(pairsM_mem b p _).1 h1;have g1:=glue_law hb hp (by omega) hp1;have g2:=glue_law2 hb hp (by omega) hp1;exact⟨g1.2.1,g1.2.2,g2.1,g2.2.1⟩
  .simp[oR,hb,hp] at ho
 .simp[oR,hb] at ho
abbrev St2:=Int × Int
def cdOf(k:Int)(kids:List Cd):Cd:=.mk k kids ⟨[],[]⟩ ⟨[],[]⟩ [] 0 []
theorem nodup_getD{l:List Int}:l.Nodup↔∀i j,i<j->j<l.length->l.getD i 0≠l.getD j 0:=by
 unfold List.Nodup;rw[List.pairwise_iff_getElem];constructor
 .intro h i j hij hj;have:=h i j (by omega) hj hij
  simpa[hj,show i<l.length by omega] using this
 .intro h i j hi hj hij;have:=h i j hij hj
  simpa[hi,hj] using this
theorem ext_getD{l l':List Int}(h:l.length=l'.length)(h2:∀j,j<l.length->l.getD j 0=l'.getD j 0):l=l' :=
 List.ext_getElem h fun i h1 h3=>by have:=h2 i h1;simpa[h1,h3] using this
structure Emb (a b:Gr) (m:Mo):Prop where
 v:validM a b m=0
 n:m.nodes.Nodup
 e:m.edges.Nodup
theorem Emb.vm{a b:Gr}{m:Mo}(h:Emb a b m):VM a b m:=validM_VM h.v
theorem Emb.inj{a b:Gr}{m:Mo}(h:Emb a b m):injM a b m=true:=(injM_iff a b m).2 ⟨h.v,h.n,h.e⟩
theorem Emb.of{a b:Gr}{m:Mo}(h:injM a b m=true):Emb a b m:=have h:=(injM_iff a b m).1 h;⟨h.1,h.2.1,h.2.2⟩
theorem Emb.inn{a b:Gr}{m:Mo}(h:Emb a b m):Inn m a b:=have V:=h.vm;⟨V.ln,V.le,V.n,V.e⟩
theorem byK_all(l h:List Int):(byK l h l.length).length=l.length:=by simp
theorem byK_getD{l h:List Int}{i:Nat}(hi:i<l.length):(byK l h l.length).getD i 0=h.getD (l.getD i 0).toNat 0:=by simp[byK,hi]
theorem nat_of{x:Int}{n:Nat}(h:0<=x/\x<n):x.toNat<n/\((x.toNat:Nat):Int)=x:=by omega
theorem byK_nodup{l h:List Int}{n:Nat}(hl:l.Nodup)(hh:h.Nodup)(hr:∀x∈l,0<=x/\x<h.length):(byK l h l.length).Nodup:=by
 rw[nodup_getD];intro i j hij hj;rw[byK_all] at hj;rw[byK_getD (by omega),byK_getD hj];intro e;have h1:=hr _ (getD_mem (d:=0) (show i<l.length by omega));have h2:=hr _ (getD_mem (d:=0) hj);have:=getD_inj hh (by omega) (by omega) e
 have:=getD_inj hl (show i<l.length by omega) hj (by omega)
 omega
theorem Emb.comp{a b c:Gr}{m n:Mo}(h:Emb a b m)(k:Emb b c n):Emb a c (thenM m n):=by
 have v:=h.vm;have w:=k.vm;have rn:∀x∈m.nodes,0<=x/\x<n.nodes.length:=fun x hx=>by rw[w.ln];exact v.n x hx
 have re:∀x∈m.edges,0<=x/\x<n.edges.length:=fun x hx=>by rw[w.le];exact v.e x hx
 have gn:∀i,i<a.nodes.length->(thenM m n).nodes.getD i 0=n.nodes.getD (m.nodes.getD i 0).toNat 0:=fun i hi=>byK_getD (by rw[v.ln];exact hi)
 have ge:∀i,i<a.edges.length->(thenM m n).edges.getD i 0=n.edges.getD (m.edges.getD i 0).toNat 0:=fun i hi=>byK_getD (by rw[v.le];exact hi)
 refine⟨validM_of ⟨v.va,w.vb,by rw[<-v.ln];exact byK_all _ _,by rw[<-v.le];exact byK_all _ _,fun x hx=>?_,fun x hx=>?_,fun i hi=>?_,fun i hi=>?_⟩,byK_nodup (n:=0) h.n k.n rn,byK_nodup (n:=0) h.e k.e re⟩
 .obtain⟨i,hi,rfl⟩:=mem_getD hx;have hi':i<a.nodes.length:=by rw[<-v.ln];simpa[thenM] using hi
  rw[gn i hi'];exact w.n _ (getD_mem (nat_of (rn _ (getD_mem (by rw[v.ln];exact hi')))).1)
 .obtain⟨i,hi,rfl⟩:=mem_getD hx;have hi':i<a.edges.length:=by rw[<-v.le];simpa[thenM] using hi
  rw[ge i hi'];exact w.e _ (getD_mem (nat_of (re _ (getD_mem (by rw[v.le];exact hi')))).1)
 .rw[gn i hi];have h1:=nat_of (v.n _ (getD_mem (d:=0) (show i<m.nodes.length by rw[v.ln];exact hi)));rw[w.nt _ h1.1,v.nt i hi]
 .rw[ge i hi];have h1:=nat_of (v.e _ (getD_mem (d:=0) (show i<m.edges.length by rw[v.le];exact hi)));rw[w.et _ h1.1,v.et i hi];have hx:=validG_edges v.va (a.edges.getD i default) (getD_mem hi);simp only;rw[gn _ (by omega),gn _ (by omega)]
section
variable {α:Type} {f:α->St2->List Cd × St2} (hs:∀x s,(f x s).2.2=0->s.2=0)
include hs
end
theorem ovr_ex{c:Cd}{a:Gr}(h:c.ovr a=0)(k5:c.kind=5):Emb a c.g c.m/\∃x,c.kids=[x]:=by
 obtain⟨h0,h1,_⟩:=Cd.ovr_zero h;have hl:=shape_kind h0 k5;rw[ovrStep,if_pos k5] at h1;split at h1
 .contradiction
 .split at h1
  .rename_i h2;exact⟨Emb.of h2,List.length_eq_one_iff.1 hl⟩
  .cases h1
mutual
def Cd.cnt:Cd->Nat
 | .mk _ c _ _ _ _ _=>1+Cd.cntL c
def Cd.cntL:List Cd->Nat
 | []=>0
 | x::r=>Cd.cnt x+Cd.cntL r
end
mutual
def Cd.dep:Cd->Nat
 | .mk k c _ _ _ _ _=>Cd.depL c+if k=5 then 1 else 0
def Cd.depL:List Cd->Nat
 | []=>0
 | x::r=>max (Cd.dep x) (Cd.depL r)
end
mutual
theorem Cd.dep_cnt:∀c:Cd,c.dep<=c.cnt
 | .mk k c _ _ _ _ _=>by
  have:=Cd.depL_cntL c
  simp only[Cd.dep,Cd.cnt];split<;>omega
theorem Cd.depL_cntL:∀l:List Cd,Cd.depL l<=Cd.cntL l
 | []=>by simp[Cd.depL]
 | x::r=>by
  have h1:=Cd.dep_cnt x;have h2:=Cd.depL_cntL r;simp only[Cd.depL,Cd.cntL];omega
end
mutual
theorem Cd.meas_cnt:∀c:Cd,c.cnt<=4611686018427387904->c.meas=((c.cnt:Int),(c.dep:Int))
 | .mk k c _ _ _ _ _,h=>by
  simp only[Cd.cnt] at h;have h1:=Cd.measL_cnt c 1 0 h;have h2:=Cd.depL_cntL c;have h3:Cd.measL c (1,0)=(((1+Cd.cntL c:Nat):Int),((max 0 (Cd.depL c):Nat):Int)):=h1
  rw[Cd.meas];simp only[h3,Cd.cnt,Cd.dep,Nat.zero_max];split
  .rw[wrap_in (by omega) (by omega)];rfl
  .rfl
theorem Cd.measL_cnt:∀(l:List Cd) (s d:Nat),s+Cd.cntL l<=4611686018427387904->Cd.measL l ((s:Int),(d:Int))=(((s+Cd.cntL l:Nat):Int),((max d (Cd.depL l):Nat):Int))
 | [],s,d,_=>by simp[Cd.measL,Cd.cntL,Cd.depL]
 | x::r,s,d,h=>by
  simp only[Cd.cntL] at h;have h1:=Cd.meas_cnt x (by omega);have hw:IntKind.i64.wrap ((s:Int)+(x.cnt:Int))=((s+x.cnt:Nat):Int):=by rw[wrap_in (by omega) (by omega)];rfl
  have hm:max (d:Int) (x.dep:Int)=((max d x.dep:Nat):Int):=by omega
  have h2:=Cd.measL_cnt r (s+x.cnt) (max d x.dep) (by omega);simp only[Cd.measL,h1,hw,hm,h2,Cd.cntL,Cd.depL];rw[Nat.add_assoc,Nat.max_assoc]
end
theorem Cd.ovr_of{c:Cd}{a:Gr}(h1:shapeC c=0)(h2:ovrStep a c.kind c.m c.g=0)(h3:∀x∈c.kids,x.ovr (c.inn a)=0):c.ovr a=0:=by
 rw[Cd.ovr_eq,if_pos h1,if_pos h2];exact errL_all h3
theorem unused_cdOf(k:Int)(l:List Cd):unusedC (cdOf k l)=true:=rfl
theorem plain_cdOf(k:Int)(l:List Cd):plainC (cdOf k l)=true:=rfl
theorem shape_cdOf{c:Cd}(h:shapeC c=0)(k5:c.kind≠5){l:List Cd}(hl:l.length=c.kids.length):shapeC (cdOf c.kind l)=0:=by
 unfold shapeC at h;split at h
 .rename_i ho;rw[shapeC,if_pos,if_pos (plain_cdOf _ _)];simp only[okC,unused_cdOf,Bool.and_true] at ho ⊢;have e1:(cdOf c.kind l).kind=c.kind:=rfl
  have e2:(cdOf c.kind l).kids=l:=rfl
  rw[e1,e2,hl];split at ho
  .rename_i q;rw[if_pos q];exact(Bool.and_eq_true _ _ ▸ ho).1
  .rename_i q;rw[if_neg q];split at ho
   .rename_i q;rw[if_pos q];exact(Bool.and_eq_true _ _ ▸ ho).1
   .rename_i q;rw[if_neg q];split at ho
    .rename_i q;rw[if_pos q];exact(Bool.and_eq_true _ _ ▸ ho).1
    .rename_i q;first|cases ho|(rw[if_neg k5] at ho;cases ho)
 .cases h
theorem nodup_iota(n:Nat):(iota n).Nodup:=by
 rw[nodup_getD];intro i j hij hj;rw[iota_length] at hj;rw[iota_getD (by omega),iota_getD hj];omega
theorem mem_iota{x:Int}{n:Nat}(h:x∈iota n):0<=x/\x<n:=by
 obtain⟨i,hi,rfl⟩:=List.mem_map.1 h;have:=List.mem_range.1 hi
 omega
structure Pre (a b:Gr):Prop where
 va:vG a=0
 vb:vG b=0
 n:∃t,b.nodes=a.nodes++t
 e:∃t,b.edges=a.edges++t
theorem Pre.emb{a b:Gr}(h:Pre a b):Emb a b (idM a):=by
 obtain⟨t,ht⟩:=h.n;obtain⟨u,hu⟩:=h.e;have ea:=validG_edges h.va;refine⟨validM_of ⟨h.va,h.vb,by simp[idM],by simp[idM],fun x hx=>?_,fun x hx=>?_,fun i hi=>?_,fun i hi=>?_⟩,nodup_iota _,nodup_iota _⟩
 .have:=mem_iota (show x∈iota a.nodes.length from hx)
  rw[ht];simp only[List.length_append];omega
 .have:=mem_iota (show x∈iota a.edges.length from hx)
  rw[hu];simp only[List.length_append];omega
 .simp only[idM];rw[iota_getD hi,Int.toNat_natCast,ht,getD_pre hi]
 .simp only[idM];have hx:=ea (a.edges.getD i default) (getD_mem hi);rw[iota_getD hi,Int.toNat_natCast,hu,getD_pre hi,iota_getD (by omega),iota_getD (by omega)];rw[Int.toNat_of_nonneg hx.1,Int.toNat_of_nonneg hx.2.2.1]
theorem Pre.refl{a:Gr}(h:vG a=0):Pre a a:=⟨h,h,⟨[],by simp⟩,⟨[],by simp⟩⟩
def mtI(F G:List Int)(n:Nat):List Int:=(List.range n).map fun (j:Nat)=>if indexI G j<0 then -1 else F.getD (indexI G j).toNat 0
theorem mtI_len(F G:List Int)(n:Nat):(mtI F G n).length=n:=by simp[mtI]
theorem mtI_get{F G:List Int}{n j:Nat}(h:j<n):(mtI F G n).getD j 0=if indexI G j<0 then -1 else F.getD (indexI G j).toNat 0:=by simp[mtI,h]
theorem mtI_at{F G:List Int}{n i:Nat}(hG:G.Nodup)(hr:∀x∈G,0<=x/\x<n)(h:i<G.length):(mtI F G n).getD (G.getD i 0).toNat 0=F.getD i 0:=by
 have h1:=hr _ (getD_mem (d:=0) h);rw[mtI_get (by omega)];have e:(((G.getD i 0).toNat:Nat):Int)=G.getD i 0:=by omega
 rw[e];rcases indexI_spec G (G.getD i 0) with ⟨_,hn⟩|⟨k,h2,h3,h4⟩
 .exact absurd (getD_mem (d:=0) h) hn
 .have:=getD_inj hG h3 h h4
  subst this;rw[h2,if_neg (by omega)];rfl
theorem mtI_cases{F G:List Int}{n j:Nat}(h:j<n):((mtI F G n).getD j 0 = -1/\(j:Int)∉G)∨∃i,i<G.length/\G.getD i 0=j/\(mtI F G n).getD j 0=F.getD i 0:=by
 rw[mtI_get h];rcases indexI_spec G j with ⟨h1,hn⟩|⟨k,h2,h3,h4⟩
 .left;rw[h1];exact⟨rfl,hn⟩
 .right;refine⟨k,h3,h4,?_⟩;rw[h2,if_neg (by omega)];rfl
theorem mtI_isM{ok:Nat->Nat->Bool}{F G:List Int}{na n:Nat}(hl:F.length=G.length)(hF:F.Nodup)(hG:G.Nodup)(rF:∀x∈F,0<=x/\x<na)(rG:∀x∈G,0<=x/\x<n)(hok:∀i,i<G.length->ok (G.getD i 0).toNat (F.getD i 0).toNat=true):isM ok na n (mtI F G n):=by
 refine⟨mtI_len _ _ _,fun j hj=>?_⟩;rcases mtI_cases (F:=F) (G:=G) hj with ⟨h1,_⟩|⟨i,h2,h3,h4⟩
 .exact .inl h1
 .right;have r1:=rF _ (getD_mem (d:=0) (show i<F.length by omega));refine⟨(F.getD i 0).toNat,by rw[h4];omega,by omega,?_,?_⟩
  .have:=hok i h2
   rw[h3] at this;simpa using this
  .intro hm;obtain⟨q,hq,e⟩:=List.getElem_of_mem hm;rw[List.length_take,mtI_len] at hq;rw[List.getElem_take] at e;have e2:(mtI F G n).getD q 0=(F.getD i 0):=by
    rw[List.getD_eq_getElem?_getD,List.getElem?_eq_getElem (by rw[mtI_len];omega),Option.getD_some,e];omega
   rcases mtI_cases (F:=F) (G:=G) (show q<n by omega) with ⟨k1,_⟩|⟨i',k2,k3,k4⟩
   .rw[k1] at e2;omega
   .have:=getD_inj hF (show i'<F.length by omega) (by omega) (k4.symm.trans e2)
    subst this;omega
def pushO(b c:Gr)(f g:Mo):Ov:=glue b c (mtI f.nodes g.nodes c.nodes.length) (mtI f.edges g.edges c.edges.length)
theorem spn_pair{a b c:Gr}{f g:Mo}(hf:Emb a b f)(hg:Emb a c g):isPair b c (mtI f.nodes g.nodes c.nodes.length,mtI f.edges g.edges c.edges.length):=by
 have v:=hf.vm;have w:=hg.vm;have ln:f.nodes.length=g.nodes.length:=by rw[v.ln,w.ln]
 have le:f.edges.length=g.edges.length:=by rw[v.le,w.le]
 refine⟨mtI_isM ln hf.n hg.n v.n w.n fun i hi=>?_,mtI_isM le hf.e hg.e v.e w.e fun i hi=>?_⟩
 .rw[okN,decide_eq_true_eq,v.nt i (by rw[<-w.ln];exact hi),w.nt i (by rw[<-w.ln];exact hi)]
 .have hia:i<a.edges.length:=by rw[<-w.le];exact hi
  have hx:=validG_edges v.va (a.edges.getD i default) (getD_mem hia);rw[okE,decide_eq_true_eq,v.et i hia,w.et i hia];simp only;rw[mtI_at hg.n w.n (by rw[w.ln];omega),mtI_at hg.n w.n (by rw[w.ln];omega)]
theorem pushO_emb{a b c:Gr}{f g:Mo}(hf:Emb a b f)(hg:Emb a c g)(hs:b.nodes.length+c.nodes.length<=40/\b.edges.length+c.edges.length<=80):
  vG (pushO b c f g).g=0/\Emb b (pushO b c f g).g (pushO b c f g).l/\Emb c (pushO b c f g).g (pushO b c f g).r:=by
 have hp:=spn_pair hf hg;have h1:=glue_law hf.vm.vb hg.vm.vb hs hp;have h2:=glue_law2 hf.vm.vb hg.vm.vb hs hp;exact⟨h1.1,Emb.of h2.1,Emb.of h2.2.1⟩
def ascAt(l:List Int)(n:Int)(i:Nat):Int:=if l.getD i 0<0∨n<=l.getD i 0 then 6 else if 0<i/\l.getD i 0<=l.getD (i-1) 0 then 12 else 0
def ascE(l:List Int)(n:Int):Int:=firstE (ascAt l n) l.length
def dangAt(g:Gr)(p:Mo)(i:Nat):Int:=if (g.edges.getD (p.edges.getD i 0).toNat default).fr∈p.nodes/\(g.edges.getD (p.edges.getD i 0).toNat default).to∈p.nodes then 0 else 14
def rightP(g:Gr)(p:Mo):Int :=
 if ascE p.nodes g.nodes.length≠0 then ascE p.nodes g.nodes.length else if ascE p.edges g.edges.length≠0 then ascE p.edges g.edges.length else firstE (dangAt g p) p.edges.length
def validP(g:Gr)(p:Mo):Int:=if vG g≠0 then vG g else rightP g p
theorem asc_lt{l:List Int}{n:Int}(h:ascE l n=0):∀j i,i<j->j<l.length->l.getD i 0<l.getD j 0
 | 0,i,hi,_=>absurd hi (Nat.not_lt_zero _)
 | j+1,i,hi,hj=>by
  have h1:=firstE_all _ h (j+1) hj;unfold ascAt at h1;split at h1
  .cases h1
  .split at h1
   .cases h1
   .rename_i h3;have h4:l.getD j 0<l.getD (j+1) 0:=by
     have:j+1-1=j:=rfl
     rw[this] at h3;omega
    by_cases e:i=j
    .subst e;exact h4
    .have:=asc_lt h j i (by omega) (by omega)
     omega
theorem asc_rng{l:List Int}{n:Int}(h:ascE l n=0):∀x∈l,0<=x/\x<n:=fun x hx=>by
 obtain⟨i,hi,rfl⟩:=mem_getD hx;have h1:=firstE_all _ h i hi;unfold ascAt at h1;split at h1
 .cases h1
 .omega
theorem asc_of{l:List Int}{n:Int}(h1:∀x∈l,0<=x/\x<n)(h2:∀j i,i<j->j<l.length->l.getD i 0<l.getD j 0):ascE l n=0:=firstE_zero _ fun i hi=>by
 have r:=h1 _ (getD_mem (d:=0) hi);unfold ascAt;rw[if_neg (by omega),if_neg];rintro⟨h3,h4⟩;have:=h2 i (i-1) (by omega) hi
 omega
structure VP (g:Gr) (p:Mo):Prop where
 va:vG g=0
 n:∀x∈p.nodes,0<=x/\x<g.nodes.length
 e:∀x∈p.edges,0<=x/\x<g.edges.length
 sn:∀j i,i<j->j<p.nodes.length->p.nodes.getD i 0<p.nodes.getD j 0
 se:∀j i,i<j->j<p.edges.length->p.edges.getD i 0<p.edges.getD j 0
 c:∀x∈p.edges,(g.edges.getD x.toNat default).fr∈p.nodes/\(g.edges.getD x.toNat default).to∈p.nodes
theorem VP.of{g:Gr}{p:Mo}(h:validP g p=0):VP g p:=by
 unfold validP at h;split at h
 .contradiction
 .rename_i h1;unfold rightP at h;split at h
  .contradiction
  .rename_i h2;split at h
   .contradiction
   .rename_i h3;have h2':=Decidable.not_not.1 h2
    have h3':=Decidable.not_not.1 h3
    refine⟨Decidable.not_not.1 h1,asc_rng h2',asc_rng h3',asc_lt h2',asc_lt h3',fun x hx=>?_⟩;obtain⟨i,hi,rfl⟩:=mem_getD hx;have h4:=firstE_all _ h i hi;unfold dangAt at h4;split at h4
    .assumption
    .cases h4
theorem VP.v{g:Gr}{p:Mo}(h:VP g p):validP g p=0:=by
 unfold validP rightP;rw[if_neg (by simp[h.va]),if_neg (by simp[asc_of h.n h.sn]),if_neg (by simp[asc_of h.e h.se])];refine firstE_zero _ fun i hi=>?_
 unfold dangAt;rw[if_pos (h.c _ (getD_mem (d:=0) hi))]
theorem nodup_of_lt{l:List Int}(h:∀j i,i<j->j<l.length->l.getD i 0<l.getD j 0):l.Nodup:=by
 rw[nodup_getD];intro i j hij hj e;have:=h j i hij hj
 omega
theorem len_of{l:List Int}{n:Nat}(h:l.Nodup)(hr:∀x∈l,0<=x/\x<n):l.length<=n:=by
 have:=nodup_le l (iota n) h fun x hx=>by
  have:=hr x hx
  simp only[iota,List.mem_map,List.mem_range];exact⟨x.toNat,by omega,by omega⟩
 simpa[iota] using this
theorem VP.len{g:Gr}{p:Mo}(h:VP g p):p.nodes.length<=g.nodes.length/\p.edges.length<=g.edges.length:=⟨len_of (nodup_of_lt h.sn) h.n,len_of (nodup_of_lt h.se) h.e⟩
def exE1(g:Gr)(p:Mo)(k:Int):E:=⟨(g.edges.getD k.toNat default).ty,indexI p.nodes (g.edges.getD k.toNat default).fr,indexI p.nodes (g.edges.getD k.toNat default).to⟩
def exG(g:Gr)(p:Mo):Gr:=⟨p.nodes.map fun k=>g.nodes.getD k.toNat 0,p.edges.map (exE1 g p)⟩
theorem indexI_in{l:List Int}{x:Int}(h:x∈l):0<=indexI l x/\indexI l x<l.length/\l.getD (indexI l x).toNat 0=x:=by
 rcases indexI_spec l x with ⟨_,hn⟩|⟨k,h2,h3,h4⟩
 .exact absurd h hn
 .rw[h2];exact⟨by omega,by omega,h4⟩
theorem indexI_gd{l:List Int}(hl:l.Nodup){i:Nat}(h:i<l.length):indexI l (l.getD i 0)=i:=by
 obtain⟨h1,h2,h3⟩:=indexI_in (getD_mem (d:=0) h);have:=getD_inj hl (show (indexI l (l.getD i 0)).toNat<l.length by omega) h h3
 omega
theorem VP.emb{g:Gr}{p:Mo}(h:VP g p):Emb (exG g p) g p:=by
 have hl:=h.len;obtain⟨hs,ht,he⟩:=validG_types h.va;have hv:vG (exG g p)=0:=by
  refine validG_of (by simp only[exG,List.length_map];omega) (fun n hn=>?_) fun e hx=>?_
  .simp only[exG,List.mem_map] at hn;obtain⟨k,hk,rfl⟩:=hn;have:=h.n k hk
   exact ht _ (getD_mem (by omega))
  .simp only[exG,List.mem_map] at hx;obtain⟨k,hk,rfl⟩:=hx;have h1:=h.e k hk;have h2:=h.c k hk;have h3:=(fitsB_iff _ _).1 (he _ (getD_mem (d:=default) (show k.toNat<g.edges.length by omega)));have i1:=indexI_in h2.1;have i2:=indexI_in h2.2;rw[fitsB_iff];simp only[exE1,exG,List.length_map];exact⟨h3.1,⟨i1.1,i1.2.1⟩,⟨i2.1,i2.2.1⟩⟩
 refine⟨validM_of ⟨hv,h.va,by simp[exG],by simp[exG],h.n,h.e,fun i hi=>?_,fun i hi=>?_⟩,nodup_of_lt h.sn,nodup_of_lt h.se⟩
 .have hi':i<p.nodes.length:=by simpa[exG] using hi
  simp[exG,hi']
 .have hi':i<p.edges.length:=by simpa[exG] using hi
  have e1:(exG g p).edges.getD i default=exE1 g p (p.edges.getD i 0):=by simp[exG,hi']
  have h2:=h.c _ (getD_mem (d:=0) hi');rw[e1];simp only[exE1];rw[(indexI_in h2.1).2.2,(indexI_in h2.2).2.2]
def liftM(q h:Mo):Mo:=⟨h.nodes.map (indexI q.nodes),h.edges.map (indexI q.edges)⟩
theorem mapI_getD{f:Int->Int}{l:List Int}{i:Nat}(h:i<l.length):(l.map f).getD i 0=f (l.getD i 0):=by simp[h]
theorem lift_emb{a c y:Gr}{q h:Mo}(hq:Emb c y q)(hh:Emb a y h)(hn:∀x∈h.nodes,x∈q.nodes)(he:∀x∈h.edges,x∈q.edges):Emb a c (liftM q h):=by
 have v:=hq.vm;have w:=hh.vm;have inj:∀(l m:List Int),m.Nodup->(∀x∈m,x∈l)->(m.map (indexI l)).Nodup:=fun l m hm hs=>by
  rw[nodup_getD];intro i j hij hj;rw[List.length_map] at hj;rw[mapI_getD (by omega),mapI_getD hj];intro e;have i1:=indexI_in (hs _ (getD_mem (d:=0) (show i<m.length by omega)));have i2:=indexI_in (hs _ (getD_mem (d:=0) hj));have e2:m.getD i 0=m.getD j 0:=by rw[<-i1.2.2,<-i2.2.2,e]
  have:=getD_inj hm (by omega) hj e2
  omega
 refine⟨validM_of ⟨w.va,v.va,by simp[liftM,w.ln],by simp[liftM,w.le],fun x hx=>?_,fun x hx=>?_,fun i hi=>?_,fun i hi=>?_⟩,inj _ _ hh.n hn,inj _ _ hh.e he⟩
 .obtain⟨k,hk,rfl⟩:=List.mem_map.1 hx;have:=indexI_in (hn k hk)
  rw[v.ln] at this;exact⟨this.1,this.2.1⟩
 .obtain⟨k,hk,rfl⟩:=List.mem_map.1 hx;have:=indexI_in (he k hk)
  rw[v.le] at this;exact⟨this.1,this.2.1⟩
 .have hi':i<h.nodes.length:=by rw[w.ln];exact hi
  have i1:=indexI_in (hn _ (getD_mem (d:=0) hi'));simp only[liftM];rw[mapI_getD hi',<-w.nt i hi];have:=v.nt (indexI q.nodes (h.nodes.getD i 0)).toNat (by rw[<-v.ln];omega)
  rw[<-this,i1.2.2]
 .have hi':i<h.edges.length:=by rw[w.le];exact hi
  have i1:=indexI_in (he _ (getD_mem (d:=0) hi'));have e1:(liftM q h).edges.getD i 0=indexI q.edges (h.edges.getD i 0):=mapI_getD hi'
  have hx:=validG_edges w.va (a.edges.getD i default) (getD_mem hi);have e2:(liftM q h).nodes.getD (a.edges.getD i default).fr.toNat 0=indexI q.nodes (h.nodes.getD (a.edges.getD i default).fr.toNat 0):=mapI_getD (by rw[w.ln];omega)
  have e3:(liftM q h).nodes.getD (a.edges.getD i default).to.toNat 0=indexI q.nodes (h.nodes.getD (a.edges.getD i default).to.toNat 0):=mapI_getD (by rw[w.ln];omega)
  rw[e1,e2,e3];have hk:(indexI q.edges (h.edges.getD i 0)).toNat<c.edges.length:=by rw[<-v.le];omega
  have t1:=v.et _ hk;rw[i1.2.2,w.et i hi] at t1;have hy:=validG_edges v.va (c.edges.getD (indexI q.edges (h.edges.getD i 0)).toNat default) (getD_mem hk);generalize c.edges.getD (indexI q.edges (h.edges.getD i 0)).toNat default=ce at *;simp only[E.mk.injEq] at t1;have j1:indexI q.nodes (h.nodes.getD (a.edges.getD i default).fr.toNat 0)=ce.fr:=by
   rw[t1.2.1,indexI_gd hq.n (by rw[v.ln];omega)];omega
  have j2:indexI q.nodes (h.nodes.getD (a.edges.getD i default).to.toNat 0)=ce.to:=by
   rw[t1.2.2,indexI_gd hq.n (by rw[v.ln];omega)];omega
  rw[j1,j2,t1.1]
def ascL(l:List Int)(n:Nat):List Int:=((List.range n).filter fun (k:Nat)=>decide ((k:Int)∈l)).map fun (k:Nat)=>(k:Int)
theorem ascL_mem{l:List Int}{n:Nat}{x:Int}:x∈ascL l n↔x∈l/\0<=x/\x<n:=by
 simp only[ascL,List.mem_map,List.mem_filter,List.mem_range,decide_eq_true_eq];constructor
 .rintro⟨k,⟨h1,h2⟩,rfl⟩;exact⟨h2,by omega,by omega⟩
 .rintro⟨h1,h2,h3⟩;exact⟨x.toNat,⟨by omega,by rwa [show ((x.toNat:Nat):Int)=x by omega]⟩,by omega⟩
theorem ascL_pw(l:List Int)(n:Nat):(ascL l n).Pairwise (· < ·):=by
 unfold ascL;rw[List.pairwise_map];refine List.Pairwise.filter _ (List.Pairwise.imp (R:=(· < ·)) (fun h=>by omega) List.pairwise_lt_range)
theorem pw_getD{l:List Int}:l.Pairwise (· < ·)->∀j i,i<j->j<l.length->l.getD i 0<l.getD j 0:=fun h j i hij hj=>by
 have:=List.pairwise_iff_getElem.1 h i j (by omega) hj hij
 simpa[List.getD_eq_getElem?_getD,hj,show i<l.length by omega] using this
theorem pw_ext:∀{l m:List Int},l.Pairwise (· < ·)->m.Pairwise (· < ·)->(∀x,x∈l↔x∈m)->l=m
 | [],[],_,_,_=>rfl
 | [],y::m,_,_,h=>by have:=(h y).2 (by simp);simp at this
 | x::l,[],_,_,h=>by have:=(h x).1 (by simp);simp at this
 | x::l,y::m,hl,hm,h=>by
  rw[List.pairwise_cons] at hl hm;have h1:=(h x).1 (by simp);have h2:=(h y).2 (by simp);have e:x=y:=by
   rcases List.mem_cons.1 h1 with h1|h1
   .exact h1
   .rcases List.mem_cons.1 h2 with h2|h2
    .exact h2.symm
    .have:=hl.1 y h2
     have:=hm.1 x h1
     omega
  subst e;congr 1
  refine pw_ext hl.2 hm.2 fun z=>?_
  have:=h z
  simp only[List.mem_cons] at this;constructor
  .intro hz;rcases this.1 (.inr hz) with e|e
   .subst e;have:=hl.1 z hz;omega
   .exact e
  .intro hz;rcases this.2 (.inr hz) with e|e
   .subst e;have:=hm.1 z hz;omega
   .exact e
def imgP(y:Gr)(q:Mo):Mo:=⟨ascL q.nodes y.nodes.length,ascL q.edges y.edges.length⟩
theorem imgP_vp{c y:Gr}{q:Mo}(hq:Emb c y q):VP y (imgP y q):=by
 have v:=hq.vm;refine⟨v.vb,fun x hx=>(ascL_mem.1 hx).2,fun x hx=>(ascL_mem.1 hx).2,pw_getD (ascL_pw _ _),pw_getD (ascL_pw _ _),fun x hx=>?_⟩;obtain⟨h1,h2,h3⟩:=ascL_mem.1 hx;obtain⟨i,hi,rfl⟩:=mem_getD h1;have hi':i<c.edges.length:=by rw[<-v.le];exact hi
 have he:=validG_edges v.va (c.edges.getD i default) (getD_mem hi');have m1:q.nodes.getD (c.edges.getD i default).fr.toNat 0∈q.nodes:=getD_mem (by rw[v.ln];omega)
 have m2:q.nodes.getD (c.edges.getD i default).to.toNat 0∈q.nodes:=getD_mem (by rw[v.ln];omega)
 rw[v.et i hi'];exact⟨ascL_mem.2 ⟨m1,v.n _ m1⟩,ascL_mem.2 ⟨m2,v.n _ m2⟩⟩
theorem imgP_sub{y:Gr}{q:Mo}:(∀x∈(imgP y q).nodes,x∈q.nodes)/\∀x∈(imgP y q).edges,x∈q.edges:=⟨fun x hx=>(ascL_mem.1 hx).1,fun x hx=>(ascL_mem.1 hx).1⟩
def goneI(images keep:List Int):List Int:=((List.range images.length).filter fun (i:Nat)=>decide ((i:Int)∉keep)).map fun (i:Nat)=>images.getD i 0
def restI(n:Nat)(images keep:List Int):List Int:=((List.range n).filter fun (k:Nat)=>decide ((k:Int)∉goneI images keep)).map fun (k:Nat)=>(k:Int)
def dangL(g:Gr)(keep m:Mo):Bool:=(List.range g.edges.length).any fun (i:Nat)=>decide ((i:Int)∉m.edges/\((g.edges.getD i default).fr∈goneI m.nodes keep.nodes∨(g.edges.getD i default).to∈goneI m.nodes keep.nodes))
def cmpl(g:Gr)(keep m:Mo):Mo:=⟨restI g.nodes.length m.nodes keep.nodes,restI g.edges.length m.edges keep.edges⟩
theorem goneI_mem{images keep:List Int}{x:Int}:x∈goneI images keep↔∃i:Nat,i<images.length/\(i:Int)∉keep/\images.getD i 0=x:=by
 simp only[goneI,List.mem_map,List.mem_filter,List.mem_range,decide_eq_true_eq];constructor
 .rintro⟨i,⟨h1,h2⟩,h3⟩;exact⟨i,h1,h2,h3⟩
 .rintro⟨i,h1,h2,h3⟩;exact⟨i,⟨h1,h2⟩,h3⟩
theorem restI_mem{n:Nat}{images keep:List Int}{x:Int}:x∈restI n images keep↔(0<=x/\x<n)/\x∉goneI images keep:=by
 simp only[restI,List.mem_map,List.mem_filter,List.mem_range,decide_eq_true_eq];constructor
 .rintro⟨k,⟨h1,h2⟩,rfl⟩;exact⟨⟨by omega,by omega⟩,h2⟩
 .rintro⟨⟨h1,h2⟩,h3⟩;exact⟨x.toNat,⟨by omega,by rwa [show ((x.toNat:Nat):Int)=x by omega]⟩,by omega⟩
theorem restI_pw(n:Nat)(images keep:List Int):(restI n images keep).Pairwise (· < ·):=by
 unfold restI;rw[List.pairwise_map];refine List.Pairwise.filter _ (List.Pairwise.imp (R:=(· < ·)) (fun h=>by omega) List.pairwise_lt_range)
theorem kept_not_gone{images keep:List Int}(hn:images.Nodup){i:Nat}(hi:i<images.length)(hk:(i:Int)∈keep):images.getD i 0∉goneI images keep:=fun h=>by
 obtain⟨j,hj,hjk,e⟩:=goneI_mem.1 h;have:=getD_inj hn hj hi e
 subst this;exact hjk hk
theorem cmpl_vp{l g:Gr}{keep m:Mo}(hm:Emb l g m)(hk:VP l keep)(hd:dangL g keep m=false):VP g (cmpl g keep m):=by
 have v:=hm.vm;refine⟨v.vb,fun x hx=>(restI_mem.1 hx).1,fun x hx=>(restI_mem.1 hx).1,pw_getD (restI_pw _ _ _),pw_getD (restI_pw _ _ _),fun x hx=>?_⟩;obtain⟨⟨h1,h2⟩,h3⟩:=restI_mem.1 hx;have hxl:x.toNat<g.edges.length:=by omega
 have he:=validG_edges v.vb (g.edges.getD x.toNat default) (getD_mem hxl);have key:(g.edges.getD x.toNat default).fr∉goneI m.nodes keep.nodes/\(g.edges.getD x.toNat default).to∉goneI m.nodes keep.nodes:=by
  by_cases hxm:x∈m.edges
  .obtain⟨i,hi,rfl⟩:=mem_getD hxm;have hi':i<l.edges.length:=by rw[<-v.le];exact hi
   have hik:(i:Int)∈keep.edges:=Decidable.byContradiction fun hc=>h3 (goneI_mem.2 ⟨i,hi,hc,rfl⟩)
   have hc:=hk.c _ hik;have hle:=validG_edges v.va (l.edges.getD i default) (getD_mem hi');rw[Int.toNat_natCast] at hc;rw[v.et i hi'];refine⟨kept_not_gone hm.n (by rw[v.ln];omega) ?_,kept_not_gone hm.n (by rw[v.ln];omega) ?_⟩
   .rw[show (((l.edges.getD i default).fr.toNat:Nat):Int)=(l.edges.getD i default).fr by omega];exact hc.1
   .rw[show (((l.edges.getD i default).to.toNat:Nat):Int)=(l.edges.getD i default).to by omega];exact hc.2
  .unfold dangL at hd;rw[List.any_eq_false] at hd;have:=hd x.toNat (List.mem_range.2 hxl)
   simp only[decide_eq_true_eq,not_and,not_or] at this;exact this (by rwa [show ((x.toNat:Nat):Int)=x by omega])
 exact⟨restI_mem.2 ⟨⟨he.1,he.2.1⟩,key.1⟩,restI_mem.2 ⟨⟨he.2.2.1,he.2.2.2⟩,key.2⟩⟩
variable {P:Program}
theorem EffV.val{o:Oper}{ρ:Operand->AV}{box box':Bxs}{tok tok':Nat->Bool}{nt nt':Nat}{v:AV}(h:EffV P o ρ box tok nt v box' tok' nt'):isVal o.op=true:=by
 unfold EffV at h;split at h
 .rename_i c ho;split at h
  .rename_i f hf;rw[ho];obtain⟨cal,args,tys⟩:=c;simp only at hf;subst hf;rfl
  .exact h.elim
 .exact h.elim
def FarP(S:AS):List (Operand × Operand)->Prop
 | []=>True
 | (p,q)::r=>NK (S.ev p) (S.ev q)/\FarP S r
theorem FarP.at{S:AS}{p q:Operand}:∀{L:List (Operand × Operand)},FarP S L->(p,q)∈L->NK (S.ev p) (S.ev q)
 | (a,b)::r,h,hm=>by
  rcases List.mem_cons.1 hm with e|hm
  .cases e;exact h.1
  .exact FarP.at h.2 hm
def StopW(P:Program)(o:Oper)(fid:FuncId)(args:List AV)(S:AS)(K:AS->Prop):Prop :=
 (∃v tok' nt',RCall P fid args S.box S.tok S.nt v tok' nt'/\K ⟨putT S.tmps o.dst v,S.box,tok',nt'⟩) ∨
 ∃x k i off rows v tok' nt',callPtr o.op=some x/\S.ev x=.ptr k i off/\S.box k≠none/\WCall P fid args k S.box S.tok S.nt v rows tok' nt'/\K ⟨putT S.tmps o.dst v,upd S.box k (some rows),tok',nt'⟩
def FOneW(P:Program)(cx:Cx)(o:Oper)(K:AS->Prop)(S:AS):Prop:=match callFn o S.ev with
 | some (fid,args)=>StopW P o fid args S K
 | none=>FOne P cx true o K S
def FOpsW(P:Program)(cx:Cx)(ops:Array Oper):List Oper->(AS->Prop)->AS->Prop
 | [],K,S=>K S
 | o::r,K,S=>match o.guard with
  | none=>FOneW P cx o (FOpsW P cx ops r K) S
  | some (j,want)=>match yieldA ops S j with
   | some (some b)=>Gd b want (FOneW P cx o (FOpsW P cx ops r K)) (FSkip o.dst (FOpsW P cx ops r K)) S
   | some none=>FSkip o.dst (FOpsW P cx ops r K) S
   | none=>False
def FRegW(P:Program)(cx:Cx)(ops:Array Oper)(K:AS->Prop)(S:AS):Prop:=match preF P cx.base ops.toList S.box with
 | some b=>FOpsW P cx ops ops.toList K ⟨S.tmps,b,S.tok,S.nt⟩
 | none=>False
theorem StopW.of_r{o:Oper}{fid:FuncId}{args:List AV}{S:AS}{K:AS->Prop}{v:AV}{tok':Nat->Bool}{nt':Nat}(h:RCall P fid args S.box S.tok S.nt v tok' nt')(hk:K ⟨putT S.tmps o.dst v,S.box,tok',nt'⟩):StopW P o fid args S K:=.inl ⟨v,tok',nt',h,hk⟩
theorem StopW.of_d{o:Oper}{fid:FuncId}{args:List AV}{S:AS}{K:AS->Prop}{v:AV}{tok':Nat->Bool}{nt':Nat}(h:DCall P fid args S.tok S.nt v tok' nt')(hk:K ⟨putT S.tmps o.dst v,S.box,tok',nt'⟩):StopW P o fid args S K:=.of_r (h.r _) hk
attribute [simp] FRegW FOneW callFn FarP
@[simp] theorem FOpsW_nil{cx:Cx}{ops:Array Oper}{K:AS->Prop}{t:Nat->AV}{b:Bxs}{k:Nat->Bool}{n:Nat}:FOpsW P cx ops [] K ⟨t,b,k,n⟩=K ⟨t,b,k,n⟩:=by simp only[FOpsW]
@[simp] theorem FOpsW_cons{cx:Cx}{ops:Array Oper}{o:Oper}{r:List Oper}{K:AS->Prop}{t:Nat->AV}{b:Bxs}{k:Nat->Bool}{n:Nat}:FOpsW P cx ops (o::r) K ⟨t,b,k,n⟩=match o.guard with
  | none=>FOneW P cx o (FOpsW P cx ops r K) ⟨t,b,k,n⟩
  | some (j,want)=>match yieldA ops ⟨t,b,k,n⟩ j with
   | some (some g)=>Gd g want (FOneW P cx o (FOpsW P cx ops r K)) (FSkip o.dst (FOpsW P cx ops r K)) ⟨t,b,k,n⟩
   | some none=>FSkip o.dst (FOpsW P cx ops r K) ⟨t,b,k,n⟩
   | none=>False:=by
 simp only[FOpsW]
abbrev nilS:AV:=.osl 0 [] .full
abbrev z0i:AV:=.d (.raw (.int .i64 0))
theorem ovs_ok{b p:Gr}{q:List Ov × Int}(hb:b.Fit)(hbv:vG b=0)(hp:p.Fit)(h:oR b p=q):(∀o∈q.1,OvOk b p o)/\∀o∈q.1,o.Fit:=by
 subst h;refine⟨fun o ho=>overlapsR_ok ho,fun o ho=>?_⟩;have hk:=overlapsR_ok ho;have hvp:vG p=0:=(validM_VM hk.r).va
 have h1:=(validG_types hbv).1;have h2:=(validG_types hvp).1;exact(overlapsR_fit b p ⟨by omega,by omega⟩ ⟨by omega,by omega⟩).2 o ho
theorem ovs_few{b p:Gr}{q:List Ov × Int}(hbv:vG b=0)(h:oR b p=q):q.1.length<=1000000:=by
 subst h;by_cases hp:vG p=0
 .have h1:=(validG_types hbv).1;have h2:=(validG_types hp).1;exact(overlapsR_fit b p ⟨by omega,by omega⟩ ⟨by omega,by omega⟩).1
 .simp[oR,hbv,hp]
theorem fit_nil:Gr.Fit ⟨[],[]⟩:=⟨by simp,by simp⟩
theorem fit_nilM:Mo.Fit ⟨[],[]⟩:=⟨by simp,by simp⟩
theorem cdOf_fit{k:Int}{l:List Cd}(hl:l.length<=kidN)(h:∀x∈l,x.Fit):(cdOf k l).Fit:=.mk hl fit_nilM fit_nil (by rw[bigN_eq];simp[cdOf,Cd.sl]) (by rw[bigN_eq];simp[cdOf,Cd.te]) h
def lst{β:Type}(ok:Nat->Nat->Bool)(m:Nat)(fin:List Int->List β):Nat->List Int->List β
 | 0,L=>fin L
 | r+1,L=>(List.range m).flatMap fun (k:Nat)=>if (!decide ((k:Int)∈L)&&ok L.length k)=true then lst ok m fin r (L++[(k:Int)]) else []
def atB(by' of:List Int)(i k:Nat):Bool:=decide (indexI by' i<0)||decide (of.getD (indexI by' i).toNat 0=k)
def okXE(p g:Gr)(x m:Mo)(N:List Int)(i k:Nat):Bool:=decide (g.edges.getD k default=wantX p N i)&&atB x.edges m.edges i k
def okXN(p g:Gr)(x m:Mo)(i k:Nat):Bool:=decide (g.nodes.getD k 0=p.nodes.getD i 0)&&atB x.nodes m.nodes i k
def exE(p g:Gr)(x m:Mo)(N:List Int)(r:Nat)(L:List Int):List Mo:=lst (okXE p g x m N) g.edges.length (fun E=>[⟨N,E⟩]) r L
def exN(p g:Gr)(x m:Mo)(r:Nat)(L:List Int):List Mo:=lst (okXN p g x m) g.nodes.length (fun N=>exE p g x m N p.edges.length []) r L
def exts(p g:Gr)(x m:Mo):List Mo:=exN p g x m p.nodes.length []
abbrev Mo.cells(m:Mo):List D:=[ints m.nodes,ints m.edges]
inductive Cd.Bare:Cd->Prop
 | mk {c:Cd} (hs:c.sl=[]) (ht:c.te=[]) (h:∀x∈c.kids,Cd.Bare x):Cd.Bare c
theorem Cd.Bare.sl{c:Cd}(h:c.Bare):c.sl=[]:=by cases h;assumption
theorem Cd.Bare.te{c:Cd}(h:c.Bare):c.te=[]:=by cases h;assumption
theorem Cd.Bare.kid{c:Cd}(h:c.Bare):∀x∈c.kids,Cd.Bare x:=by cases h;assumption
theorem bare_cdOf{k:Int}{l:List Cd}(h:∀x∈l,x.Bare):(cdOf k l).Bare:=.mk rfl rfl h
@[simp] theorem lb_base(base:Nat)(out:Bxs)(loc:List (Nat × List (List AV))):lb base out loc base=lk loc 0:=lb_at base 0 out loc
@[simp] theorem upd_lb_base(base:Nat)(out:Bxs)(loc:List (Nat × List (List AV)))(rows:List (List AV)):upd (lb base out loc) base (some rows)=lb base out ((0,rows)::loc):=upd_lb base 0 out loc rows
@[simp] theorem to_ptr_base{q:Nat->Prop}{fz:Option (Nat × Nat × List (List D))}{base i off:Nat}{out:Bxs}{loc:List (Nat × List (List AV))}:To (fun k=>lb base out loc k≠none) q fz (.ptr base i off) (.ptr base i off)↔lk loc 0≠none:=to_ptr_lb (s:=0)
abbrev bytes(l:List Int):D:=.sl 1 (l.map fun n=>[u8 n])
def U8s(l:List Int):Prop:=∀c∈l,0<=c/\c<256
theorem wrapU8{n:Int}(h0:0<=n)(h1:n<256):IntKind.u8.wrap n=n:=IntWalk.u8_in n ⟨h0,by omega⟩
def growS(st:List Int × List E)(c:Int):List Int × List E :=
 if c % 2=0∨st.1.length=0 then (st.1++[c / 2 % 3],st.2) else (st.1,st.2++[⟨c / 2 % 2,c / 4 % st.1.length,c / 16 % st.1.length⟩])
def growK(g:Gr)(cs:List Int)(most i:Nat):List Int × List E:=((cs.take most).take i).foldl growS (g.nodes,g.edges)
def growR(g:Gr)(cs:List Int)(most:Nat):Gr:=let r:=growK g cs most cs.length;⟨r.1,r.2⟩
theorem within_of{n m:Int}(h0:0<=n)(h1:n<=m):withinB n m=true:=by simp[withinB,h0,h1]
theorem Pre.trans{a b c:Gr}(h:Pre a b)(k:Pre b c):Pre a c:=by
 obtain⟨t,ht⟩:=h.n;obtain⟨u,hu⟩:=h.e;obtain⟨t',ht'⟩:=k.n;obtain⟨u',hu'⟩:=k.e;exact⟨h.va,k.vb,⟨t++t',by rw[ht',ht,List.append_assoc]⟩,⟨u++u',by rw[hu',hu,List.append_assoc]⟩⟩
structure MkOk (a:Gr) (d n:Nat) (c:Cd):Prop where
 ovr:c.ovr a=0
 fit:c.Fit
 dep:c.dep<=d
 cnt:c.cnt<=n
 bare:c.Bare
theorem MkOk.valid{a:Gr}{c:Cd}{d n:Nat}(h:MkOk a d n c)(hv:vG a=0)(hd:d<=3)(hn:n<=2000):validC a c=0:=by
 have h1:=h.cnt;have h2:=h.dep;rw[validC,if_neg (by simp[hv]),if_neg (by simp[h.ovr]),smallC,Cd.meas_cnt c (by omega)];simp only;rw[if_neg (by omega)]
structure Sp where
 l:Gr
 r:Gr
 k:Mo
 i:Mo
structure SpOk (s:Sp):Prop where
 k:VP s.l s.k
 i:Emb (exG s.l s.k) s.r s.i
def Sp.z(s:Sp)(m:Mo)(x:Gr):Mo:=cmpl x (imgP s.r s.i) m
def Sp.dng(s:Sp)(m:Mo)(x:Gr):Bool:=dangL x (imgP s.r s.i) m
def Sp.rest(s:Sp)(m:Mo)(x:Gr):Gr:=exG x (s.z m x)
def Sp.go(s:Sp)(m:Mo)(x:Gr):Mo:=liftM (s.z m x) (thenM s.i m)
def Sp.big(s:Sp)(m:Mo)(x:Gr):Prop:=40<s.l.nodes.length+(s.rest m x).nodes.length∨80<s.l.edges.length+(s.rest m x).edges.length
instance (s:Sp) (m:Mo) (x:Gr):Decidable (s.big m x):=inferInstanceAs (Decidable (_∨_))
def Sp.po(s:Sp)(m:Mo)(x:Gr):Ov:=pushO s.l (s.rest m x) s.k (s.go m x)
def Sp.inn(s:Sp)(m:Mo)(x:Gr):Sp:=⟨(s.po m x).g,x,imgP (s.po m x).g (s.po m x).r,thenM (liftM (s.po m x).r (imgP (s.po m x).g (s.po m x).r)) (s.z m x)⟩
theorem VP.sub{g:Gr}{p:Mo}(h:VP g p):Emb (exG g p) g p:=h.emb
theorem Sp.z_vp{s:Sp}(h:SpOk s){m:Mo}{x:Gr}(hm:Emb s.r x m)(hd:s.dng m x=false):VP x (s.z m x):=cmpl_vp hm (imgP_vp h.i) hd
theorem keep_mem{F images:List Int}{n m:Nat}(hn:images.Nodup)(hi:images.length=n)(rF:∀x∈F,0<=x/\x<n)(hr:∀x∈images,0<=x/\x<m):∀x∈byK F images F.length,x∈restI m images (ascL F n):=fun x hx=>by
 obtain⟨i,hi',rfl⟩:=mem_getD hx;rw[byK_all] at hi';rw[byK_getD hi'];have h1:=rF _ (getD_mem (d:=0) hi');have h2:(F.getD i 0).toNat<images.length:=by omega
 refine restI_mem.2 ⟨hr _ (getD_mem (d:=0) h2),kept_not_gone hn h2 (ascL_mem.2 ⟨?_,?_⟩)⟩
 .rw[show (((F.getD i 0).toNat:Nat):Int)=F.getD i 0 by omega];exact getD_mem hi'
 .omega
theorem Sp.go_sub{s:Sp}(h:SpOk s){m:Mo}{x:Gr}(hm:Emb s.r x m):(∀v∈(thenM s.i m).nodes,v∈(s.z m x).nodes)/\∀v∈(thenM s.i m).edges,v∈(s.z m x).edges:=by
 have v:=hm.vm;have w:=h.i.vm;exact⟨keep_mem hm.n v.ln w.n v.n,keep_mem hm.e v.le w.e v.e⟩
theorem Sp.go_emb{s:Sp}(h:SpOk s){m:Mo}{x:Gr}(hm:Emb s.r x m)(hd:s.dng m x=false):Emb (exG s.l s.k) (s.rest m x) (s.go m x) :=
 lift_emb (Sp.z_vp h hm hd).emb (h.i.comp hm) (Sp.go_sub h hm).1 (Sp.go_sub h hm).2
theorem Sp.po_emb{s:Sp}(h:SpOk s){m:Mo}{x:Gr}(hm:Emb s.r x m)(hd:s.dng m x=false)(hb:¬s.big m x):
  vG (s.po m x).g=0/\Emb s.l (s.po m x).g (s.po m x).l/\Emb (s.rest m x) (s.po m x).g (s.po m x).r :=
 pushO_emb h.k.emb (Sp.go_emb h hm hd) (by unfold Sp.big at hb;omega)
theorem Sp.inn_ok{s:Sp}(h:SpOk s){m:Mo}{x:Gr}(hm:Emb s.r x m)(hd:s.dng m x=false)(hb:¬s.big m x):SpOk (s.inn m x):=by
 obtain⟨h1,h2,h3⟩:=Sp.po_emb h hm hd hb;have hk:=imgP_vp h3;exact⟨hk,(lift_emb h3 hk.emb imgP_sub.1 imgP_sub.2).comp (Sp.z_vp h hm hd).emb⟩
abbrev noC:Cd:=cdOf 2 [cdOf 1 []]
def kidsE(f:Cd->Cd × Int):List Cd->List Cd × Int
 | []=>([],0)
 | x::r=>if (f x).2≠0 then ([],(f x).2) else if (kidsE f r).2≠0 then ([],(kidsE f r).2) else ((f x).1::(kidsE f r).1,0)
def lftStep(k:Int)(m:Mo)(g:Gr)(s:Sp)(L H:Sp->List Cd × Int):Cd × Int :=
 if k≠5 then (if (L s).2≠0 then (cdOf 0 [],(L s).2) else (cdOf k (L s).1,0))
 else if s.dng m g=true then (noC,0) else if s.big m g then (cdOf 0 [],3)
 else if (H (s.inn m g)).2≠0 then (cdOf 0 [],(H (s.inn m g)).2) else (.mk 5 (H (s.inn m g)).1 (s.po m g).l (s.po m g).g [] 0 [],0)
mutual
def Cd.lft:Cd->Sp->Cd × Int
 | .mk k c m g _ _ _,s=>lftStep k m g s (fun s=>Cd.lftL c s) (fun s=>Cd.lftL c s)
def Cd.lftL:List Cd->Sp->List Cd × Int
 | [],_=>([],0)
 | x::r,s=>if (Cd.lft x s).2≠0 then ([],(Cd.lft x s).2) else if (Cd.lftL r s).2≠0 then ([],(Cd.lftL r s).2) else ((Cd.lft x s).1::(Cd.lftL r s).1,0)
end
theorem Cd.lftL_eq(s:Sp):∀l:List Cd,Cd.lftL l s=kidsE (fun x=>Cd.lft x s) l
 | []=>by simp[Cd.lftL,kidsE]
 | x::r=>by simp[Cd.lftL,kidsE,Cd.lftL_eq s r]
theorem Cd.lft_eq(c:Cd)(s:Sp):c.lft s=lftStep c.kind c.m c.g s (fun s=>kidsE (fun x=>Cd.lft x s) c.kids) (fun s=>kidsE (fun x=>Cd.lft x s) c.kids):=by
 cases c;simp only[Cd.lft,Cd.lftL_eq];rfl
theorem kidsE_all{f:Cd->Cd × Int}:∀{l:List Cd},(kidsE f l).2=0->(kidsE f l).1=l.map (fun x=>(f x).1)/\∀x∈l,(f x).2=0
 | [],_=>⟨rfl,by simp⟩
 | x::r,h=>by
  unfold kidsE at h ⊢;split at h
  .contradiction
  .rename_i h1;split at h
   .contradiction
   .rename_i h2;obtain⟨i1,i2⟩:=kidsE_all (Decidable.not_not.1 h2);rw[if_neg h1,if_neg h2];refine⟨by rw[i1];rfl,fun y hy=>?_⟩;rcases List.mem_cons.1 hy with rfl|hy
    .exact Decidable.not_not.1 h1
    .exact i2 y hy
theorem kidsE_of{f:Cd->Cd × Int}:∀{l:List Cd},(∀x∈l,(f x).2=0)->kidsE f l=(l.map (fun x=>(f x).1),0)
 | [],_=>rfl
 | x::r,h=>by
  have h1:=h x (by simp);have ih:=kidsE_of (f:=f) (l:=r) fun y hy=>h y (by simp[hy])
  unfold kidsE;rw[if_neg (by simp[h1]),if_neg (by simp[ih]),ih];rfl
theorem kidsE_at{f:Cd->Cd × Int}:∀{l:List Cd} {i:Nat} (hi:i<l.length),(∀x∈l.take i,(f x).2=0)->(f l[i]).2≠0->kidsE f l=([],(f l[i]).2)
 | x::r,0,_,_,h=>by
  unfold kidsE;rw[if_pos (by simpa using h)];rfl
 | x::r,i+1,hi,ht,h=>by
  have h1:=ht x (by simp);have hi':i<r.length:=by simpa using hi
  have ih:=kidsE_at (f:=f) (l:=r) (i:=i) hi' (fun y hy=>ht y (by simp[hy])) (by simpa using h);unfold kidsE;rw[if_neg (by simp[h1]),ih];have h2:(f r[i]).2≠0:=by simpa using h
  rw[if_pos (by simpa using h2)];rfl
structure LftOk (g:Gr) (c:Cd):Prop where
 ovr:c.ovr g=0
 fit:c.Fit
 bare:c.Bare
theorem noC_ok(g:Gr):LftOk g noC :=
 ⟨Cd.ovr_of rfl rfl fun x hx=>by
  have:x=cdOf 1 []:=by simpa[cdOf,Cd.kids] using hx
  subst this;exact Cd.ovr_of rfl rfl (by simp[cdOf,Cd.kids]),
  cdOf_fit (by rw[kidN_eq];simp) (by simpa using cdOf_fit (k:=1) (l:=[]) (by rw[kidN_eq];simp) (by simp)),bare_cdOf (by simpa using bare_cdOf (k:=1) (l:=[]) (by simp))⟩
theorem lft_ok:∀(n:Nat) (c:Cd),SizeOf.sizeOf c<n->c.Fit->∀s,SpOk s->c.ovr s.r=0->(c.lft s).2=0->LftOk s.l (c.lft s).1
 | 0,c,hn,_,_,_,_,_=>absurd hn (Nat.not_lt_zero _)
 | n+1,c,hn,hf,s,hs,hv,hz=>by
  have ih:=fun x (hx:x∈c.kids)=>lft_ok n x (by have:=Cd.kid_lt hx;omega) (hf.kid x hx)
  have hkl:=hf.kids;obtain⟨h0,h1,h2⟩:=Cd.ovr_zero hv;rw[c.lft_eq] at hz ⊢;unfold lftStep at hz ⊢;by_cases k5:c.kind=5
  .rw[if_neg (by simp[k5])] at hz ⊢;obtain⟨hm,x,hkx⟩:=ovr_ex hv k5;by_cases hd:s.dng c.m c.g=true
   .rw[if_pos hd];exact noC_ok _
   .rw[if_neg hd] at hz ⊢;have hd':s.dng c.m c.g=false:=by simpa using hd
    by_cases hb:s.big c.m c.g
    .rw[if_pos hb] at hz;cases hz
    .rw[if_neg hb] at hz ⊢;have hk:=Sp.inn_ok hs hm hd' hb;obtain⟨p1,p2,p3⟩:=Sp.po_emb hs hm hd' hb;split at hz
     .contradiction
     .rename_i h3;rw[if_neg h3];have h3':=Decidable.not_not.1 h3
      rw[hkx] at h3' ⊢;obtain⟨e1,e2⟩:=kidsE_all h3';have hi:c.inn s.r=c.g:=if_pos k5
      rw[hi] at h2;have hx:=ih x (by rw[hkx];simp) (s.inn c.m c.g) hk (h2 x (by rw[hkx];simp)) (e2 x (by simp));simp only[e1,List.map_cons,List.map_nil];have hg:=(validG_types p1).1;have hll:(s.po c.m c.g).l.nodes.length<=40/\(s.po c.m c.g).l.edges.length<=80:=by
       have:=p2.vm
       have:=(validG_types this.va).1
       have:=p2.vm.ln
       have:=p2.vm.le
       omega
      refine⟨Cd.ovr_of rfl ?_ fun y hy=>?_,.mk (by rw[kidN_eq];simp[Cd.kids]) ⟨by show (s.po c.m c.g).l.nodes.length<=1000000;omega,by show (s.po c.m c.g).l.edges.length<=1000000;omega⟩ ⟨by show (s.po c.m c.g).g.nodes.length<=1000000;omega,by show (s.po c.m c.g).g.edges.length<=1000000;omega⟩ (by rw[bigN_eq];simp[Cd.sl]) (by rw[bigN_eq];simp[Cd.te]) fun y hy=>?_,.mk rfl rfl fun y hy=>?_⟩
      .show ovrStep s.l 5 (s.po c.m c.g).l (s.po c.m c.g).g=0
       rw[ovrStep,if_pos rfl,if_neg (by simp[p2.v]),if_pos p2.inj]
      .have:y=(x.lft (s.inn c.m c.g)).1:=by simpa[Cd.kids] using hy
       subst this;exact hx.ovr
      .have:y=(x.lft (s.inn c.m c.g)).1:=by simpa[Cd.kids] using hy
       subst this;exact hx.fit
      .have:y=(x.lft (s.inn c.m c.g)).1:=by simpa[Cd.kids] using hy
       subst this;exact hx.bare
  .rw[if_pos k5] at hz ⊢;split at hz
   .contradiction
   .rename_i h3;rw[if_neg h3];obtain⟨e1,e2⟩:=kidsE_all (Decidable.not_not.1 h3);have hi:c.inn s.r=s.r:=if_neg k5
    rw[hi] at h2;have key:∀y∈c.kids.map (fun x=>(x.lft s).1),LftOk s.l y:=fun y hy=>by
     obtain⟨x,hx,rfl⟩:=List.mem_map.1 hy;exact ih x hx s hs (h2 x hx) (e2 x hx)
    simp only[e1];refine⟨Cd.ovr_of (shape_cdOf h0 k5 (by simp)) (if_neg k5) fun y hy=>?_,cdOf_fit (by simpa using hkl) fun y hy=>(key y hy).fit,bare_cdOf fun y hy=>(key y hy).bare⟩;rw[Cd.inn,if_neg (show ¬(cdOf c.kind (c.kids.map (fun x=>(x.lft s).1))).kind=5 from k5)];exact(key y hy).ovr
end Go.AM
