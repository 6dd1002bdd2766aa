/-
 Parts of the proof, as merged from many texts: a machine over data, what the functions compute, plain laws.
-/
import Derived.Test.YtainalmfffjnjaaGreatDoorPTP13
import Derived.WalkKit
set_option linter.unusedSimpArgs false
set_option linter.unusedVariables false
namespace Go.AM
open Go Go.Proofs
open Go.Proofs.Tryz
theorem white01_c(c:Int):DC 190 [Ub c] (B (decide (c=10)||whiB c)):=by
 intro tok nt box nb;by_cases h1:c=32
 .refine sI func190 ntmps190 fun Hb Ht=>?_
  repeat first|simp[h1]|refine sR ?_
  refine sT (sH Hb Ht ?_);simp[whiB,h1]
 .have b1:(c==32)=false:=by simp[h1]
  by_cases h2:c=9
  .refine sI func190 ntmps190 fun Hb Ht=>?_
   repeat first|simp[b1,h2]|refine sR ?_
   refine sT (sH Hb Ht ?_);simp[whiB,h2]
  .have b2:(c==9)=false:=by simp[h2]
   by_cases h3:c=13
   .refine sI func190 ntmps190 fun Hb Ht=>?_
    repeat first|simp[b1,b2,h3]|refine sR ?_
    refine sT (sH Hb Ht ?_);simp[whiB,h3]
   .have b3:(c==13)=false:=by simp[h3]
    refine sI func190 ntmps190 fun Hb Ht=>?_
    repeat first|simp[b1,b2,b3]|refine sR ?_
    refine sT (sH Hb Ht ?_);simp[whiB,h1,h2,h3,beqD]
structure AccUk where
 a:Nat
 line:Int
 out:List Tk
 own:Own
 tok:Nat->Bool
 nt:Nat
 f:Nat
structure UkInv (s:ByteArray) (R:List Tk × Int × Int) (mtok:Tks) (nt0:Nat) (x:AccUk):Prop where
 a:x.a<=s.size
 f:s.size-x.a<=x.f
 l0:0<=x.line
 l1:x.line<=1+x.a
 n:x.out.length<=4000
 r:toksF x.f (dropB s x.a) x.line x.out=R
 k:TK mtok nt0 x.tok x.nt [x.own]
theorem UkInv.of{s:ByteArray}{R:List Tk × Int × Int}{mtok:Nat->Bool}{nt0:Nat}{a:Nat}{line:Int}{out:List Tk}{own:Own}{tok:Nat->Bool}{nt f:Nat}(h1:a<=s.size)(h2:s.size-a<=f)(h3:0<=line)(h4:line<=1+a)(h5:out.length<=4000)(h6:toksF f (dropB s a) line out=R)(h7:TK mtok nt0 tok nt [own]):UkInv s R mtok nt0 ⟨a,line,out,own,tok,nt,f⟩:=⟨h1,h2,h3,h4,h5,h6,h7⟩
def stTu(s:ByteArray)(nb:Nat)(box:Bxs)(x:AccUk):AS :=
 ⟨tl [(0,Sb s),(5,.osl 3 (x.out.map Tk.cells) x.own),(6,I x.line),(7,I x.a)],lb nb box [],x.tok,x.nt⟩
def stTi(s:ByteArray)(x:AccUk)(nb:Nat)(box:Bxs)(i:Nat):AS :=
 ⟨tl [(0,Sb s),(5,.osl 3 (x.out.map Tk.cells) x.own),(6,I x.line),(7,I i)],lb nb box [],x.tok,x.nt⟩
set_option maxRecDepth 100000 in
theorem tokens01_c(s:ByteArray)(hs:s.size<=200000000000000):DC 113 [Sb s] (.tup [.d (tks (toksR s).1),I (toksR s).2.1,I (toksR s).2.2]):=by
 intro tok nt box nb;obtain⟨R,hR⟩:∃R,toksR s=R:=⟨_,rfl⟩
 rw[hR];unfold toksR at hR;refine sI func113 ntmps113 fun Hb Ht=>?_
 have ht0:=TK.start Ht;repeat first|simp|refine sR ?_
 by_cases h0:20000<s.size
 .rw[if_pos h0] at hR;have h0':(20000:Int)<s.size:=by omega
  try (simp[h0'])
  repeat ((first|refine sR ?_|refine sC ?_|refine sX ?_);simp[h0'])
  refine sT (sH Hb Ht ?_);simp[<-hR,tks]
 .rw[if_neg h0] at hR;have h0':¬(20000:Int)<s.size:=by omega
  try (simp[h0'])
  repeat ((first|refine sR ?_|refine sC ?_|refine sX ?_);simp[h0'])
  refine sN ?_;refine sL (stTu s nb box) (UkInv s R tok nt) (fun x=>s.size-x.a) ⟨0,1,[],.full,tok,nt,s.size⟩ (UkInv.of (Nat.zero_le _) (by omega) (by omega) (by omega) (by simp) (by rw[dropB_zero];exact hR) ht0.full) (wM (nr _) rfl (by simp[ToL,lk]) trivial) ?_;rintro⟨a,line,out,own,tok1,nt1,f⟩ S hinv hS;obtain⟨ha,hf,hl0,hl1,hn,hr,htk⟩:=hinv;simp only[stTu] at hS ha hf hl0 hl1 hn hr htk ⊢;subst hS;have hds:=dropB_size s a;by_cases he:s.size=a
  .rw[toksF_end (by omega)] at hr;have he':¬(a:Int)<s.size:=by omega
   repeat first|simp[he']|refine sR ?_|refine sC ?_
   refine sX ?_;simp only[AU,↓reduceIte];repeat first|simp|refine sR ?_
   refine sT (sG Hb Ht htk.old htk.le ?_);simp[<-hr,tks]
  .have hlt:a<s.size:=by omega
   have hlt':(a:Int)<s.size:=by omega
   have hb:=byteAt_lt hlt;have hbd:byteAt (dropB s a) 0=byteAt s a:=byteAt_drop s a 0
   have hne:¬(dropB s a).size=0:=by omega
   obtain⟨f,rfl⟩:∃f',f=f'+1:=⟨f-1,by omega⟩
   have hdd:=fun m=>dropB_dropB s a m
   have hwi:=white01_c (byteAt s a);have hwa:IntKind.i64.wrap ((a:Int)+1)=((a+1:Nat):Int):=by rw[wrap_in (by omega) (by omega)];rfl
   repeat (first|simp[hlt,hlt']|refine sR ?_)
   refine sC ?_
   repeat (first|simp[hlt,hlt']|refine sR ?_)
   rw[hb];by_cases e5:byteAt s a=35
   .rw[toksF_cm hne (hbd.trans e5),runN_drop,hdd,Nat.add_zero] at hr;have hpos:=runN_pos (p:=nlB) hlt (by simp[nlB,e5]);have hle:=runN_le nlB s a;try (simp[e5])
    repeat ((first|refine sR ?_|refine sC ?_|refine sX ?_);simp[e5])
    refine sN ?_;refine sL (stTi s ⟨a,line,out,own,tok1,nt1,f⟩ nb box) (fun i=>a<=i/\i<=s.size/\∀j,a<=j->j<i->nlB (byteAt s j)=true) (fun i=>s.size-i) a ⟨nr _,ha,by omega⟩ (wM htk.le rfl (by simp[ToL,lk]) trivial) ?_;rintro i S ⟨i1,i2,i3⟩ hS;simp only[stTi] at hS;subst hS;have hwj:IntKind.i64.wrap ((i:Int)+1)=((i+1:Nat):Int):=by rw[wrap_in (by omega) (by omega)];rfl
    have fin:(i=s.size∨nlB (byteAt s i)=false)->runN nlB s a=i-a:=fun h=>by
     refine runN_eq (by omega) (fun j hj=>i3 (a+j) (by omega) (by omega)) ?_;rw[show a+(i-a)=i by omega];exact h
    by_cases hi:i<s.size
    .have hi':(i:Int)<s.size:=by omega
     have hbi:=byteAt_lt hi;repeat first|simp[hi,hi']|refine sR ?_
     rw[hbi];by_cases e1:byteAt s i=10
     .have b1:(byteAt s i != 10)=false:=by simp[e1]
      have hrn:=fin (.inr (by simp[nlB,e1]));repeat first|simp[b1]|refine sR ?_|refine sC ?_
      refine sX ?_;simp only[AU,↓reduceIte];refine sX ?_;simp only[AU,↓reduceIte];refine sE ?_;refine⟨⟨i,line,out,own,tok1,nt1,f⟩,UkInv.of i2 (by omega) hl0 (by omega) hn (by rw[hrn,show a+(i-a)=i by omega] at hr;exact hr) htk,by simp only;omega,wM htk.le rfl (by simp[ToL,lk]) trivial⟩
     .have b1:(byteAt s i != 10)=true:=by simp[e1]
      repeat first|simp[b1]|refine sR ?_
      refine sC ?_;simp;repeat first|simp[hwj]|refine sR ?_
      refine sE ?_;refine⟨i+1,⟨by omega,hi,fun j hj1 hj2=>?_⟩,by omega,wM htk.le rfl (by simp[ToL,lk]) trivial⟩;by_cases e:j=i
      .subst e;simp[nlB,e1]
      .exact i3 j hj1 (by omega)
    .have hi':¬(i:Int)<s.size:=by omega
     have hrn:=fin (.inl (by omega));repeat first|simp[hi,hi']|refine sR ?_|refine sC ?_
     refine sX ?_;simp only[AU,↓reduceIte];refine sX ?_;simp only[AU,↓reduceIte];refine sE ?_;refine⟨⟨i,line,out,own,tok1,nt1,f⟩,UkInv.of i2 (by omega) hl0 (by omega) hn (by rw[hrn,show a+(i-a)=i by omega] at hr;exact hr) htk,by simp only;omega,wM htk.le rfl (by simp[ToL,lk]) trivial⟩
   .have b5:(byteAt s a==35)=false:=by simp[e5]
    repeat first|simp[b5]|refine sR ?_
    refine sC ?_;simp;repeat first|simp[hlt,hlt']|refine sR ?_
    rw[hb];refine sD (hwi _ _) ?_;simp;by_cases e1:byteAt s a=10
    .rw[toksF_nl hne (hbd.trans e1),hdd] at hr;have hw:IntKind.i64.wrap (line+1)=line+1:=wrap_in (by omega) (by omega)
     try (simp[e1,hlt,hlt'])
     repeat ((first|refine sR ?_|refine sC ?_|refine sX ?_);simp[e1,hlt,hlt'])
     rw[hb];try (simp[e1,hw,hwa])
     repeat ((first|refine sR ?_|refine sC ?_|refine sX ?_);simp[e1,hw,hwa])
     refine sE ?_;exact⟨⟨a+1,line+1,out,own,tok1,nt1,f⟩,UkInv.of (by omega) (by omega) (by omega) (by omega) hn hr htk,by simp only;omega,wM htk.le rfl (by simp[ToL,lk]) trivial⟩
    .have b1:(byteAt s a==10)=false:=by simp[e1]
     have d1:decide (byteAt s a=10)=false:=by simp[e1]
     cases e2:whiB (byteAt s a)
     .rw[toksF_tk hne (by rw[hbd];exact e1) (by rw[hbd];simp[e2]) (by rw[hbd];exact e5)] at hr;have hx:=oneA_c s a hlt hs;have hon:=one_next (s:=dropB s a) (by omega);have hrg:=nextR_rng (s:=dropB s a) (by omega);rw[hon] at hx;generalize textR (dropB s a)=txt at *;generalize nextR (dropB s a)=N at *;try (simp[d1,e2])
      repeat ((first|refine sR ?_|refine sC ?_|refine sX ?_);simp[d1,e2])
      refine sD (hx _ _) ?_;simp;by_cases e6:N.2.2=0
      .obtain⟨r1,r2,r3,r4⟩:=hrg e6;rw[if_neg (by simp[e6])] at hr;by_cases e7:out.length=4000
       .rw[if_pos e7] at hr;have b7:((out.length:Int)==4000)=true:=by rw[beq_iff_eq];omega
        try (simp[e6,b7])
        repeat ((first|refine sR ?_|refine sC ?_|refine sX ?_);simp[e6,b7])
        refine sT (sG Hb Ht htk.old htk.le ?_);simp[<-hr,tks]
       .rw[if_neg e7,hdd] at hr;have b7:((out.length:Int)==4000)=false:=by rw[beq_eq_false_iff_ne];omega
        have hwn:IntKind.i64.wrap ((a:Int)+N.2.1)=((a+N.2.1.toNat:Nat):Int):=by rw[wrap_in (by omega) (by omega)];omega
        try (simp[e6,b7])
        repeat ((first|refine sR ?_|refine sC ?_|refine sX ?_);simp[e6,b7])
        refine⟨⟨by omega,htk.live⟩,?_⟩;try (simp[hwn])
        repeat ((first|refine sR ?_|refine sC ?_|refine sX ?_);simp[hwn])
        refine sE ?_;exact⟨⟨a+N.2.1.toNat,line,out++[⟨N.1,txt,line⟩],.tok nt1,upd (own.kill tok1) nt1 true,nt1+1,f⟩,UkInv.of (by omega) (by omega) (by omega) (by omega) (by simp;omega) hr htk.app,by simp only;omega,wM (by have:=htk.le;omega) rfl (by simp[ToL,lk]) trivial⟩
      .rw[if_pos e6] at hr;have b6:(N.2.2==0)=false:=by simp[e6]
       have b6':(N.2.2 != 0)=true:=by simp[e6]
       try (simp[e6,b6,b6'])
       repeat ((first|refine sR ?_|refine sC ?_|refine sX ?_);simp[e6,b6,b6'])
       refine sT (sG Hb Ht htk.old htk.le ?_);simp[<-hr,tks]
     .rw[toksF_wh hne (by rw[hbd];exact e1) (by rw[hbd];exact e2),hdd] at hr;try (simp[d1,e2,hlt,hlt',hb,b1,hwa])
      repeat ((first|refine sR ?_|refine sC ?_|refine sX ?_);simp[d1,e2,hlt,hlt',hb,b1,hwa])
      refine sE ?_;exact⟨⟨a+1,line,out,own,tok1,nt1,f⟩,UkInv.of (by omega) (by omega) (by omega) (by omega) hn hr htk,by simp only;omega,wM htk.le rfl (by simp[ToL,lk]) trivial⟩
structure RqS where
 at':Nat
 bad:Int
abbrev RqS.row(L:List Tk)(r:RqS):List AV:=[.d (tks L),I r.at',I r.bad]
structure RqS.Ok (L:List Tk) (r:RqS):Prop where
 a:r.at'<=L.length
 b : -1<=r.bad
 c:r.bad<=L.length
def isAt(L:List Tk)(i:Nat)(s:ByteArray):Bool:=match L[i]? with
 | some t=>decide (t.text=s)&&(decide (t.kind=1)||decide (t.kind=4))
 | none=>false
def kindAt(L:List Tk)(i:Nat)(k:Int):Bool:=match L[i]? with
 | some t=>decide (t.kind=k)
 | none=>false
def textAt(L:List Tk)(i:Nat):ByteArray:=match L[i]? with
 | some t=>t.text
 | none=>⟨#[]⟩
def peekB(L:List Tk)(r:RqS)(s:ByteArray):Bool:=decide (r.bad<0)&&isAt L r.at' s
def failR(r:RqS):RqS:=if r.bad<0 then ⟨r.at',r.at'⟩ else r
def takeR(L:List Tk)(r:RqS)(s:ByteArray):RqS:=if peekB L r s=true then ⟨r.at'+1,r.bad⟩ else failR r
def kindB(L:List Tk)(r:RqS)(k:Int):Bool:=decide (r.bad<0)&&kindAt L r.at' k
def kindR(L:List Tk)(r:RqS)(k:Int):ByteArray × RqS:=if kindB L r k=true then (textAt L r.at',⟨r.at'+1,r.bad⟩) else (⟨#[]⟩,failR r)
structure AdvQ (L:List Tk) (r r':RqS):Prop where
 ok:r'.Ok L
 bd:0<=r.bad->r'=r
 le:r'.bad<0->r.at'<=r'.at'
structure AdvS (L:List Tk) (r r':RqS):Prop where
 ok:r'.Ok L
 bd:0<=r.bad->r'=r
 lt:r'.bad<0->r.at'<r'.at'
theorem AdvS.adv{L:List Tk}{r r':RqS}(h:AdvS L r r'):AdvQ L r r':=⟨h.ok,h.bd,fun hb=>Nat.le_of_lt (h.lt hb)⟩
theorem AdvQ.refl{L:List Tk}{r:RqS}(h:r.Ok L):AdvQ L r r:=⟨h,fun _=>rfl,fun _=>nr _⟩
theorem AdvQ.trans{L:List Tk}{r r' r'':RqS}(h:AdvQ L r r')(k:AdvQ L r' r''):AdvQ L r r'':=by
 refine⟨k.ok,fun hb=>?_,fun hb=>?_⟩
 .have e:=h.bd hb;subst e;exact k.bd hb
 .have h2:=k.le hb;by_cases hb':r'.bad<0
  .exact Nat.le_trans (h.le hb') h2
  .have:=k.bd (by omega)
   subst this;omega
theorem AdvS.trans{L:List Tk}{r r' r'':RqS}(h:AdvS L r r')(k:AdvQ L r' r''):AdvS L r r'':=by
 refine⟨k.ok,(h.adv.trans k).bd,fun hb=>?_⟩;have h2:=k.le hb;by_cases hb':r'.bad<0
 .exact Nat.lt_of_lt_of_le (h.lt hb') h2
 .have:=k.bd (by omega)
  subst this;omega
theorem AdvS.fail{L:List Tk}{r:RqS}(h:r.Ok L):AdvS L r (failR r):=by
 have h1:=h.a;have h2:=h.b;have h3:=h.c;unfold failR;split
 .exact⟨⟨h1,by simp only;omega,by simp only;omega⟩,fun hb=>by omega,fun hb=>by simp only at hb;omega⟩
 .exact⟨h,fun _=>rfl,fun hb=>by omega⟩
theorem at_lt{L:List Tk}{i:Nat}{s:ByteArray}(h:isAt L i s=true):i<L.length:=by
 unfold isAt at h;split at h
 .rename_i t ht;exact(List.getElem?_eq_some_iff.1 ht).1
 .cases h
theorem kat_lt{L:List Tk}{i:Nat}{k:Int}(h:kindAt L i k=true):i<L.length:=by
 unfold kindAt at h;split at h
 .rename_i t ht;exact(List.getElem?_eq_some_iff.1 ht).1
 .cases h
theorem AdvS.take{L:List Tk}{r:RqS}(h:r.Ok L)(s:ByteArray):AdvS L r (takeR L r s):=by
 unfold takeR;split
 .rename_i hp;unfold peekB at hp;simp only[Bool.and_eq_true,decide_eq_true_eq] at hp;have h1:=at_lt hp.2;have h2:=h.b;exact⟨⟨by simp only;omega,h2,h.c⟩,fun hb=>by omega,fun hb=>by simp only;omega⟩
 .exact AdvS.fail h
theorem AdvS.kind{L:List Tk}{r:RqS}(h:r.Ok L)(k:Int):AdvS L r (kindR L r k).2:=by
 unfold kindR;split
 .rename_i hp;unfold kindB at hp;simp only[Bool.and_eq_true,decide_eq_true_eq] at hp;have h1:=kat_lt hp.2;have h2:=h.b;exact⟨⟨by simp only;omega,h2,h.c⟩,fun hb=>by omega,fun hb=>by simp only;omega⟩
 .exact AdvS.fail h
def rem(L:List Tk)(r:RqS):Nat:=if r.bad<0 then L.length+1-r.at' else 0
theorem rem_adv{L:List Tk}{r r':RqS}(h:AdvQ L r r'):rem L r'<=rem L r:=by
 unfold rem;by_cases hb:r'.bad<0
 .have h1:=h.le hb;have:r.bad<0:=by
   rcases Int.lt_or_le r.bad 0 with h2|h2
   .exact h2
   .rw[h.bd h2] at hb;omega
  rw[if_pos hb,if_pos this];omega
 .rw[if_neg hb];omega
theorem rem_advS{L:List Tk}{r r':RqS}(h:AdvS L r r')(hr:r.bad<0)(ho:r.Ok L):rem L r'<rem L r:=by
 have h0:=ho.a;unfold rem;rw[if_pos hr];by_cases hb:r'.bad<0
 .have h1:=h.lt hb;have h2:=h.ok.a;rw[if_pos hb];omega
 .rw[if_neg hb];omega
theorem rem_bad{L:List Tk}{r:RqS}(h:¬r.bad<0):rem L r=0:=by unfold rem;rw[if_neg h]
theorem nil_size:(⟨#[]⟩:ByteArray).size<=200000000000000:=by decide
theorem rem_le(L:List Tk)(r:RqS):rem L r<=L.length+1:=by unfold rem;split<;>omega
theorem rem_zero{L:List Tk}{r:RqS}(h:r.Ok L)(h0:rem L r=0):¬r.bad<0:=by
 intro hb;have:=h.a
 unfold rem at h0;rw[if_pos hb] at h0;omega
def QRd(v0:AV)(row:List AV)(ks:Nat)(box:Bxs)(nb:Nat)(tok:Tks)(nt:Nat)(v:AV)(m:AMem):Prop :=
 v=v0/\m=⟨upd box ks (some [row]),nb,tok,nt⟩
theorem upd_keep{box:Bxs}{ks:Nat}{x:List (List AV)}(h:box ks=some x):upd box ks (some x)=box:=by
 funext k
 simp only[upd];split
 .rename_i e;rw[e];exact h.symm
 .rfl
theorem isAt_some{L:List Tk}{i:Nat}(h:i<L.length)(s:ByteArray):isAt L i s=(decide (L[i].text=s)&&(decide (L[i].kind=1)||decide (L[i].kind=4))):=by simp[isAt,h]
theorem isAt_none{L:List Tk}{i:Nat}(h:¬i<L.length)(s:ByteArray):isAt L i s=false:=by simp[isAt,h]
theorem kindAt_some{L:List Tk}{i:Nat}(h:i<L.length)(k:Int):kindAt L i k=decide (L[i].kind=k):=by simp[kindAt,h]
theorem kindAt_none{L:List Tk}{i:Nat}(h:¬i<L.length)(k:Int):kindAt L i k=false:=by simp[kindAt,h]
theorem textAt_some{L:List Tk}{i:Nat}(h:i<L.length):textAt L i=L[i].text:=by simp[textAt,h]
def zF:Fo:=.mk 0 ⟨#[]⟩ []
def sLp:ByteArray:=⟨#[40]⟩
def sRp:ByteArray:=⟨#[41]⟩
def sAm:ByteArray:=⟨#[38]⟩
def sBr:ByteArray:=⟨#[124]⟩
def sNot:ByteArray:=⟨#[110,111,116]⟩
def sEX:ByteArray:=⟨#[69,88]⟩
def sEF:ByteArray:=⟨#[69,70]⟩
def sEG:ByteArray:=⟨#[69,71]⟩
def sAX:ByteArray:=⟨#[65,88]⟩
def sAF:ByteArray:=⟨#[65,70]⟩
def sAG:ByteArray:=⟨#[65,71]⟩
def wE:ByteArray:=⟨#[69]⟩
def wA:ByteArray:=⟨#[65]⟩
def wU:ByteArray:=⟨#[85]⟩
def pfxK(s:ByteArray):Option Int:=if s=sNot then some 2 else if s=sEX then some 5 else if s=sEF then some 6 else if s=sEG then some 7 else if s=sAX then some 9 else if s=sAF then some 10 else if s=sAG then some 11 else none
def moreF(L:List Tk)(F:RqS->Fo × RqS)(sg:ByteArray):Nat->RqS->List Fo->List Fo × RqS
 | 0,r,l=>(l,r)
 | n+1,r,l=>if peekB L r sg=true then moreF L F sg n (F ⟨r.at'+1,r.bad⟩).2 (l++[(F ⟨r.at'+1,r.bad⟩).1]) else (l,r)
def lstF(L:List Tk)(F:RqS->Fo × RqS)(k:Int)(sg:ByteArray)(a:Fo × RqS)(b:Fo × RqS):Fo × RqS :=
 (.mk k ⟨#[]⟩ (moreF L F sg (L.length+1) b.2 [a.1,b.1]).1,takeR L (moreF L F sg (L.length+1) b.2 [a.1,b.1]).2 sRp)
def listF(L:List Tk)(F:RqS->Fo × RqS)(r:RqS):Fo × RqS :=
 if peekB L (F (takeR L r sLp)).2 sBr=true then lstF L F 4 sBr (F (takeR L r sLp)) (F (takeR L (F (takeR L r sLp)).2 sBr)) else lstF L F 3 sAm (F (takeR L r sLp)) (F (takeR L (F (takeR L r sLp)).2 sAm))
def untF(L:List Tk)(F:RqS->Fo × RqS)(k:Int)(r:RqS):Fo × RqS :=
 (.mk k ⟨#[]⟩ [(F (takeR L r sLp)).1,(F (takeR L (F (takeR L r sLp)).2 wU)).1],takeR L (F (takeR L (F (takeR L r sLp)).2 wU)).2 sRp)
def wrdF(L:List Tk)(F:RqS->Fo × RqS)(s:ByteArray)(r:RqS):Fo × RqS:=match pfxK s with
 | some k=>(.mk k ⟨#[]⟩ [(F r).1],(F r).2)
 | none=>if s=wE then untF L F 8 r else if s=wA then untF L F 12 r else if s=wU then (.mk 1 s [],⟨r.at',(r.at':Int)-1⟩) else (.mk 1 s [],r)
def frmF(L:List Tk)(F:RqS->Fo × RqS)(r:RqS):Fo × RqS :=
 if r.bad<0 then (if peekB L r sLp=true then listF L F r else if (kindR L r 1).2.bad<0 then wrdF L F (kindR L r 1).1 (kindR L r 1).2 else (zF,(kindR L r 1).2)) else (zF,r)
def pFrm(L:List Tk):Nat->RqS->Fo × RqS
 | 0,r=>(zF,r)
 | n+1,r=>frmF L (pFrm L n) r
def GoesF(L:List Tk)(F:RqS->Fo × RqS):Prop:=∀r,RqS.Ok L r->AdvQ L r (F r).2
theorem peek_at{L:List Tk}{r:RqS}(h:r.Ok L){s:ByteArray}(hp:peekB L r s=true):AdvS L r ⟨r.at'+1,r.bad⟩:=by
 have h1:=AdvS.take h s;unfold takeR at h1;rw[if_pos hp] at h1;exact h1
theorem more_adv{L:List Tk}{F:RqS->Fo × RqS}(hF:GoesF L F)(sg:ByteArray):∀(n:Nat) (r:RqS) (l:List Fo),r.Ok L->AdvQ L r (moreF L F sg n r l).2
 | 0,r,l,h=>AdvQ.refl h
 | n+1,r,l,h=>by
  unfold moreF;split
  .rename_i hp;have h1:=(peek_at h hp).adv;exact(h1.trans (hF _ h1.ok)).trans (more_adv hF sg n _ _ (hF _ h1.ok).ok)
  .exact AdvQ.refl h
theorem lst_adv{L:List Tk}{F:RqS->Fo × RqS}(hF:GoesF L F)(k:Int)(sg:ByteArray){r:RqS}(a:Fo × RqS){b:Fo × RqS}(hb:AdvS L r b.2):AdvS L r (lstF L F k sg a b).2:=by
 have h1:=more_adv hF sg (L.length+1) b.2 [a.1,b.1] hb.ok;exact(hb.trans h1).trans (AdvS.take h1.ok sRp).adv
theorem list_adv{L:List Tk}{F:RqS->Fo × RqS}(hF:GoesF L F){r:RqS}(h:r.Ok L):AdvS L r (listF L F r).2:=by
 have h1:=AdvS.take h sLp;have h2:=h1.trans (hF _ h1.ok);unfold listF;split
 .have h3:=AdvS.take h2.ok sBr;exact lst_adv hF _ _ _ ((h2.trans h3.adv).trans (hF _ h3.ok))
 .have h3:=AdvS.take h2.ok sAm;exact lst_adv hF _ _ _ ((h2.trans h3.adv).trans (hF _ h3.ok))
theorem unt_adv{L:List Tk}{F:RqS->Fo × RqS}(hF:GoesF L F)(k:Int){r:RqS}(h:r.Ok L):AdvS L r (untF L F k r).2:=by
 have h1:=AdvS.take h sLp;have h2:=h1.trans (hF _ h1.ok);have h3:=AdvS.take h2.ok wU;have h4:=(h2.trans h3.adv).trans (hF _ h3.ok);exact h4.trans (AdvS.take h4.ok sRp).adv
theorem wrd_adv{L:List Tk}{F:RqS->Fo × RqS}(hF:GoesF L F)(s:ByteArray){r:RqS}(h:r.Ok L)(h1:1<=r.at')(hb:r.bad<0):AdvQ L r (wrdF L F s r).2:=by
 unfold wrdF;have ha:=h.a;split
 .exact hF r h
 .split
  .exact(unt_adv hF 8 h).adv
  .split
   .exact(unt_adv hF 12 h).adv
   .split
    .exact⟨⟨h.a,by simp only;omega,by simp only;omega⟩,fun h0=>by omega,fun h0=>nr _⟩
    .exact AdvQ.refl h
theorem frm_adv{L:List Tk}{F:RqS->Fo × RqS}(hF:GoesF L F){r:RqS}(h:r.Ok L):AdvQ L r (frmF L F r).2:=by
 unfold frmF;split
 .split
  .exact(list_adv hF h).adv
  .have h1:=AdvS.kind h 1;split
   .rename_i hb;exact h1.adv.trans (wrd_adv hF _ h1.ok (by have:=h1.lt hb;omega) hb)
   .exact h1.adv
 .exact AdvQ.refl h
theorem pF_adv(L:List Tk):∀n,GoesF L (pFrm L n)
 | 0,r,h=>AdvQ.refl h
 | n+1,r,h=>frm_adv (pF_adv L n) h
structure SzG (L:List Tk) (F:RqS->Fo × RqS) (n:Nat):Prop where
 go:GoesF L F
 bd:∀r:RqS,¬r.bad<0->F r=(zF,r)
 sz:∀r:RqS,r.Ok L->rem L r<=n->(F r).1.size+5*rem L (F r).2<=5*rem L r+1
 sm:∀r:RqS,r.Ok L->rem L r<=n->(F r).1.Sm
theorem zF_size:zF.size=1:=rfl
theorem zF_sm:zF.Sm:=.mk nil_size (by simp[zF,Fo.kids]) (by simp[zF,Fo.kids])
theorem Fo.sizeL_snoc(l:List Fo)(c:Fo):Fo.sizeL (l++[c])=Fo.sizeL l+c.size:=by
 induction l with
 | nil=>simp[Fo.sizeL]
 | cons x l ih=>simp only[List.cons_append,Fo.sizeL,ih];omega
theorem fosm_snoc{l:List Fo}{c:Fo}(hl:∀x∈l,x.Sm)(hc:c.Sm):∀x∈l++[c],x.Sm:=fun x hx=>by
 rcases List.mem_append.1 hx with hx|hx
 .exact hl x hx
 .simp at hx;rw[hx];exact hc
theorem more_sz{L:List Tk}{F:RqS->Fo × RqS}{n:Nat}(hF:SzG L F n)(sg:ByteArray):∀(m:Nat) (r:RqS) (l:List Fo),r.Ok L->rem L r<=n->(∀x∈l,x.Sm) ->
  Fo.sizeL (moreF L F sg m r l).1+5*rem L (moreF L F sg m r l).2<=Fo.sizeL l+5*rem L r/\(∀x∈(moreF L F sg m r l).1,x.Sm)/\(moreF L F sg m r l).1.length<=l.length+m
 | 0,r,l,h,_,hl=>⟨nr _,hl,nr _⟩
 | m+1,r,l,h,hr,hl=>by
  unfold moreF;split
  .rename_i hp;have h1:=peek_at h hp;have hb:r.bad<0:=by unfold peekB at hp;simp only[Bool.and_eq_true,decide_eq_true_eq] at hp;exact hp.1
   have h2:=rem_advS h1 hb h;have h3:=hF.sz _ h1.ok (by omega);have h4:=rem_adv (hF.go _ h1.ok);obtain⟨g1,g2,g3⟩:=more_sz hF sg m _ (l++[(F ⟨r.at'+1,r.bad⟩).1]) (hF.go _ h1.ok).ok (by omega) (fosm_snoc hl (hF.sm _ h1.ok (by omega)));rw[Fo.sizeL_snoc] at g1;refine⟨by omega,g2,?_⟩;rw[List.length_append,List.length_singleton] at g3;omega
  .exact⟨nr _,hl,Nat.le_add_right _ _⟩
theorem lst_sz{L:List Tk}(hL:L.length<=1000000){F:RqS->Fo × RqS}{n:Nat}(hF:SzG L F n)(k:Int)(sg:ByteArray)(a b:Fo × RqS)(ha:a.1.Sm)(hb:b.1.Sm)(ho:b.2.Ok L)(hr:rem L b.2<=n):
  (lstF L F k sg a b).1.size+5*rem L (lstF L F k sg a b).2<=1+a.1.size+b.1.size+5*rem L b.2/\(lstF L F k sg a b).1.Sm:=by
 obtain⟨g1,g2,g3⟩:=more_sz hF sg (L.length+1) b.2 [a.1,b.1] ho hr (fun x hx=>by
  rcases List.mem_cons.1 hx with rfl|hx
  .exact ha
  .rw[List.mem_singleton.1 hx];exact hb)
 have h2:=(more_adv hF.go sg (L.length+1) b.2 [a.1,b.1] ho).ok;have h1:=rem_adv (AdvS.take h2 sRp).adv;simp only[Fo.sizeL] at g1;unfold lstF;simp only[Fo.size];simp only[List.length_cons,List.length_nil] at g3;exact⟨by omega,.mk nil_size (by simp only[Fo.kids];omega) (fun x hx=>g2 x (by simpa[Fo.kids] using hx))⟩
theorem list_sz{L:List Tk}(hL:L.length<=1000000){F:RqS->Fo × RqS}{n:Nat}(hF:SzG L F n){r:RqS}(h:r.Ok L)(hb:r.bad<0)(hr:rem L r<=n+1):(listF L F r).1.size+5*rem L (listF L F r).2<=5*rem L r+1/\(listF L F r).1.Sm:=by
 have h1:=AdvS.take h sLp;have r1:=rem_advS h1 hb h;have z1:=hF.sz _ h1.ok (by omega);have m1:=hF.sm _ h1.ok (by omega);have h2:=hF.go _ h1.ok;have r2:=rem_adv h2;unfold listF;split
 .have h3:=(AdvS.take h2.ok sBr).adv;have r3:=rem_adv h3;have z3:=hF.sz _ h3.ok (by omega);have m3:=hF.sm _ h3.ok (by omega);have h4:=hF.go _ h3.ok;have r4:=rem_adv h4;obtain⟨g1,g2⟩:=lst_sz hL hF 4 sBr (F (takeR L r sLp)) (F (takeR L (F (takeR L r sLp)).2 sBr)) m1 m3 h4.ok (by omega);exact⟨by omega,g2⟩
 .have h3:=(AdvS.take h2.ok sAm).adv;have r3:=rem_adv h3;have z3:=hF.sz _ h3.ok (by omega);have m3:=hF.sm _ h3.ok (by omega);have h4:=hF.go _ h3.ok;have r4:=rem_adv h4;obtain⟨g1,g2⟩:=lst_sz hL hF 3 sAm (F (takeR L r sLp)) (F (takeR L (F (takeR L r sLp)).2 sAm)) m1 m3 h4.ok (by omega);exact⟨by omega,g2⟩
theorem unt_sz{L:List Tk}{F:RqS->Fo × RqS}{n:Nat}(hF:SzG L F n)(k:Int){r:RqS}(h:r.Ok L)(hr:rem L r<=n):(untF L F k r).1.size+5*rem L (untF L F k r).2<=5*rem L r+3/\(untF L F k r).1.Sm:=by
 have h1:=(AdvS.take h sLp).adv;have r1:=rem_adv h1;have z1:=hF.sz _ h1.ok (by omega);have m1:=hF.sm _ h1.ok (by omega);have h2:=hF.go _ h1.ok;have r2:=rem_adv h2;have h3:=(AdvS.take h2.ok wU).adv;have r3:=rem_adv h3;have z3:=hF.sz _ h3.ok (by omega);have m3:=hF.sm _ h3.ok (by omega);have h4:=hF.go _ h3.ok;have r4:=rem_adv (AdvS.take h4.ok sRp).adv;unfold untF;simp only[Fo.size,Fo.sizeL];refine⟨by omega,.mk nil_size (by simp[Fo.kids]) (fun x hx=>?_)⟩;simp only[Fo.kids,List.mem_cons,List.not_mem_nil,or_false] at hx;rcases hx with rfl|rfl
 .exact m1
 .exact m3
theorem wrd_sz{L:List Tk}{F:RqS->Fo × RqS}{n:Nat}(hF:SzG L F n){s:ByteArray}(hs:s.size<=200000000000000){r:RqS}(h:r.Ok L)(h1:1<=r.at')(hr:rem L r<=n):(wrdF L F s r).1.size+5*rem L (wrdF L F s r).2<=5*rem L r+3/\(wrdF L F s r).1.Sm:=by
 unfold wrdF;split
 .have z:=hF.sz r h hr;have m:=hF.sm r h hr;simp only[Fo.size,Fo.sizeL];refine⟨by omega,.mk nil_size (by simp[Fo.kids]) (fun x hx=>?_)⟩;simp only[Fo.kids,List.mem_cons,List.not_mem_nil,or_false] at hx;rw[hx];exact m
 .split
  .exact unt_sz hF 8 h hr
  .split
   .exact unt_sz hF 12 h hr
   .split
    .refine⟨?_,.mk hs (by simp[Fo.kids]) (by simp[Fo.kids])⟩;have:rem L ⟨r.at',(r.at':Int)-1⟩=0:=rem_bad (by simp only;omega)
     simp only[Fo.size,Fo.sizeL,this];omega
    .refine⟨?_,.mk hs (by simp[Fo.kids]) (by simp[Fo.kids])⟩;simp only[Fo.size,Fo.sizeL];omega
theorem kind_sizeF{L:List Tk}(hT:∀t∈L,t.text.size<=200000000000000)(r:RqS)(k:Int):(kindR L r k).1.size<=200000000000000:=by
 unfold kindR;split
 .unfold textAt;split
  .rename_i t ht;exact hT t (List.mem_of_getElem? ht)
  .exact nil_size
 .exact nil_size
theorem frm_sz{L:List Tk}(hL:L.length<=1000000)(hT:∀t∈L,t.text.size<=200000000000000){F:RqS->Fo × RqS}{n:Nat}(hF:SzG L F n):SzG L (frmF L F) (n+1):=by
 have key:∀r:RqS,r.Ok L->rem L r<=n+1->(frmF L F r).1.size+5*rem L (frmF L F r).2<=5*rem L r+1/\(frmF L F r).1.Sm:=by
  intro r h hr;unfold frmF;split
  .rename_i hb;split
   .exact list_sz hL hF h hb hr
   .have h1:=AdvS.kind h 1;have r1:=rem_advS h1 hb h;split
    .rename_i hb2;obtain⟨g1,g2⟩:=wrd_sz hF (kind_sizeF hT r 1) h1.ok (by have:=h1.lt hb2;omega) (by omega);exact⟨by omega,g2⟩
    .exact⟨by rw[zF_size];simp only;omega,zF_sm⟩
  .exact⟨by rw[zF_size];simp only;omega,zF_sm⟩
 exact⟨fun r h=>frm_adv hF.go h,fun r hb=>by unfold frmF;rw[if_neg hb],fun r h hr=>(key r h hr).1,fun r h hr=>(key r h hr).2⟩
theorem pF_sz{L:List Tk}(hL:L.length<=1000000)(hT:∀t∈L,t.text.size<=200000000000000):∀n,SzG L (pFrm L n) n
 | 0=>⟨pF_adv L 0,fun r _=>rfl,fun r _ _=>by show zF.size+5*rem L r<=_;rw[zF_size];omega,fun r _ _=>zF_sm⟩
 | n+1=>frm_sz hL hT (pF_sz hL hT n)
theorem outG{rows0:List (List AV)}{box:Bxs}{k base:Nat}{p q:Nat->Prop}(h0:∀r∈rows0,∀x∈r,OkIn p q x):∀k' rows,k'<base->(upd box k (some rows0)) k'=some rows->box k'=some rows∨∀r∈rows,∀x∈r,OkIn p q x:=by
 intro k' rows hk' hr;by_cases e:k'=k
 .subst e;rw[uS] at hr;cases hr;exact .inr h0
 .rw[uO _ _ e] at hr;exact .inl hr
set_option maxRecDepth 100000 in
theorem peekT_c(L:List Tk)(r:RqS)(s:ByteArray)(ks:Nat)(box:Bxs)(hk:box ks=some [r.row L])(nb:Nat)(tok:Tks)(nt:Nat):
  ACalls prog 185 [.ptr ks 0 0,Sb s] ⟨box,nb,tok,nt⟩ fun v m=>v=B (peekB L r s)/\m=⟨box,nb,tok,nt⟩:=by
 refine sI func185 ntmps185 fun Hb Ht=>?_
 have kn:=key_lt Hb hk;by_cases hb:r.bad<0
 .by_cases hlt:r.at'<L.length
  .have hlt':(r.at':Int)<L.length:=by omega
   have hp:peekB L r s=(decide (L[r.at'].text=s)&&(decide (L[r.at'].kind=1)||decide (L[r.at'].kind=4))):=by simp[peekB,hb,isAt_some hlt]
   have hsq:=seq_dec L[r.at'].text s;by_cases e1:L[r.at'].text=s
   .have e1':decide (L[r.at'].text=s)=true:=by simp[e1]
    rw[e1'] at hsq hp;by_cases e2:L[r.at'].kind=1
    .try (simp[lO kn,hk,hb,hlt,hlt',hsq,e2])
     repeat ((first|refine sR ?_|refine sC ?_|refine sX ?_);simp[lO kn,hk,hb,hlt,hlt',hsq,e2])
     refine sT (sH Hb Ht ?_);simp[hp,e2]
    .have b2:(L[r.at'].kind==1)=false:=by simp[e2]
     try (simp[lO kn,hk,hb,hlt,hlt',hsq,b2])
     repeat ((first|refine sR ?_|refine sC ?_|refine sX ?_);simp[lO kn,hk,hb,hlt,hlt',hsq,b2])
     refine sT (sH Hb Ht ?_);simp[hp,e2,beqD]
   .have e1':decide (L[r.at'].text=s)=false:=by simp[e1]
    rw[e1'] at hsq hp;try (simp[lO kn,hk,hb,hlt,hlt',hsq])
    repeat ((first|refine sR ?_|refine sC ?_|refine sX ?_);simp[lO kn,hk,hb,hlt,hlt',hsq])
    refine sT (sH Hb Ht ?_);simp[hp]
  .have hlt':¬(r.at':Int)<L.length:=by omega
   have hp:peekB L r s=false:=by simp[peekB,isAt_none hlt]
   try (simp[lO kn,hk,hb,hlt'])
   repeat ((first|refine sR ?_|refine sC ?_|refine sX ?_);simp[lO kn,hk,hb,hlt'])
   refine sT (sH Hb Ht ?_);simp[hp]
 .have hp:peekB L r s=false:=by simp[peekB,hb]
  try (simp[lO kn,hk,hb])
  repeat ((first|refine sR ?_|refine sC ?_|refine sX ?_);simp[lO kn,hk,hb])
  refine sT (sH Hb Ht ?_);simp[hp]
set_option maxRecDepth 100000 in
theorem takeT_c(L:List Tk)(r:RqS)(h:r.Ok L)(hL:L.length<=200000000000000)(s:ByteArray)(ks:Nat)(box:Bxs)(hk:box ks=some [r.row L])(nb:Nat)(tok:Tks)(nt:Nat):
  ACalls prog 249 [.ptr ks 0 0,Sb s] ⟨box,nb,tok,nt⟩ (QRd (.tup []) ((takeR L r s).row L) ks box nb tok nt):=by
 have hpk:=peekT_c L r s ks;have ha:=h.a;refine sI func249 ntmps249 fun Hb Ht=>?_
 have kn:=key_lt Hb hk;repeat first|simp|refine sR ?_
 refine Stop.of_a (hpk _ (by simp only;rw[lO kn];exact hk) _ _ _) ?_;rintro v m ⟨rfl,rfl⟩;have hw:IntKind.i64.wrap ((r.at':Int)+1)=((r.at'+1:Nat):Int):=by rw[wrap_in (by omega) (by omega)];rfl
 cases hp:peekB L r s
 .have ht:takeR L r s=failR r:=by simp[takeR,hp]
  by_cases hb:r.bad<0
  .have hf:failR r=⟨r.at',r.at'⟩:=if_pos hb
   try (simp[lO kn,hk,uL kn,uS,hb])
   repeat ((first|refine sR ?_|refine sC ?_|refine sX ?_);simp[lO kn,hk,uL kn,uS,hb])
   refine sE ?_;refine⟨by simp,(Fin.gen (vs:=[]) (av:=.tup []) (tok':=tok) (nt':=nt) (by simp[resAs,resA]) (by rw[<-uL kn,Hb]) (nr _) (nr _) (fun t ht=>⟨ht,.inl rfl⟩) (outG (by simp)) (by simp)).mono fun v m hq=>?_⟩;exact⟨hq.1,by rw[ht,hf];exact hq.2⟩
  .have hf:failR r=r:=if_neg hb
   try (simp[lO kn,hk,uL kn,uS,hb])
   repeat ((first|refine sR ?_|refine sC ?_|refine sX ?_);simp[lO kn,hk,uL kn,uS,hb])
   refine sE ?_;refine⟨by simp,(Fin.gen (vs:=[]) (av:=.tup []) (tok':=tok) (nt':=nt) (by simp[resAs,resA]) Hb (nr _) (nr _) (fun t ht=>⟨ht,.inl rfl⟩) (fun k rows _ h=>.inl h) (by simp)).mono fun v m hq=>?_⟩;exact⟨hq.1,by rw[ht,hf,upd_keep hk];exact hq.2⟩
 .have ht:takeR L r s=⟨r.at'+1,r.bad⟩:=by simp[takeR,hp]
  try (simp[lO kn,hk,uL kn,uS,hw])
  repeat ((first|refine sR ?_|refine sC ?_|refine sX ?_);simp[lO kn,hk,uL kn,uS,hw])
  refine sE ?_;refine⟨by simp,(Fin.gen (vs:=[]) (av:=.tup []) (tok':=tok) (nt':=nt) (by simp[resAs,resA]) (by rw[<-uL kn,Hb]) (nr _) (nr _) (fun t ht=>⟨ht,.inl rfl⟩) (outG (by simp)) (by simp)).mono fun v m hq=>?_⟩;exact⟨hq.1,by rw[ht];exact hq.2⟩
set_option maxRecDepth 100000 in
theorem wordT_c(L:List Tk)(r:RqS)(h:r.Ok L)(hL:L.length<=200000000000000)(ks:Nat)(box:Bxs)(hk:box ks=some [r.row L])(nb:Nat)(tok:Tks)(nt:Nat):
  ACalls prog 187 [.ptr ks 0 0] ⟨box,nb,tok,nt⟩ (QRd (Sb (kindR L r 1).1) ((kindR L r 1).2.row L) ks box nb tok nt):=by
 have ha:=h.a;refine sI func187 ntmps187 fun Hb Ht=>?_
 have kn:=key_lt Hb hk;have hw:IntKind.i64.wrap ((r.at':Int)+1)=((r.at'+1:Nat):Int):=by rw[wrap_in (by omega) (by omega)];rfl
 have hw2:IntKind.i64.wrap (r.at':Int)=(r.at':Int):=wrap_in (by omega) (by omega)
 by_cases hb:r.bad<0
 .have hb':¬0<=r.bad:=by omega
  by_cases hlt:r.at'<L.length
  .have hlt':¬(L.length:Int)<=r.at':=by omega
   have hlt2:¬L.length<=r.at':=by omega
   have hp:kindB L r 1=decide (L[r.at'].kind=1):=by simp[kindB,hb,kindAt_some hlt]
   by_cases e1:L[r.at'].kind=1
   .have b1:(L[r.at'].kind==1)=true:=by simp[e1]
    have ht:kindR L r 1=(L[r.at'].text,⟨r.at'+1,r.bad⟩):=by simp[kindR,hp,e1,textAt_some hlt]
    try (simp[lO kn,hk,hb,hb',hlt,hlt',hlt2,e1,b1,uL kn,uS,hw,hw2])
    repeat ((first|refine sR ?_|refine sC ?_|refine sX ?_);simp[lO kn,hk,hb,hb',hlt,hlt',hlt2,e1,b1,uL kn,uS,hw,hw2])
    refine sT ?_;try simp only[AU]
    refine⟨by simp,(Fin.gen (av:=Sb L[r.at'].text) (tok':=tok) (nt':=nt) (by simp[resAs,resA,lk];rfl) (by rw[<-uL kn,Hb]) (nr _) (nr _) (fun t ht=>⟨ht,.inl rfl⟩) (outG (by simp)) (by simp)).mono fun v m hq=>?_⟩;exact⟨by rw[ht];exact hq.1,by rw[ht];exact hq.2⟩
   .have b1:(L[r.at'].kind==1)=false:=by simp[e1]
    have ht:kindR L r 1=(⟨#[]⟩,failR r):=by simp[kindR,hp,e1]
    have hf:failR r=⟨r.at',r.at'⟩:=if_pos hb
    try (simp[lO kn,hk,hb,hb',hlt,hlt',hlt2,e1,b1,uL kn,uS])
    repeat ((first|refine sR ?_|refine sC ?_|refine sX ?_);simp[lO kn,hk,hb,hb',hlt,hlt',hlt2,e1,b1,uL kn,uS])
    refine sT ?_;try simp only[AU]
    refine⟨by simp,(Fin.gen (av:=Sb ⟨#[]⟩) (tok':=tok) (nt':=nt) (by simp[resAs,resA,lk];rfl) (by rw[<-uL kn,Hb]) (nr _) (nr _) (fun t ht=>⟨ht,.inl rfl⟩) (outG (by simp)) (by simp)).mono fun v m hq=>?_⟩;exact⟨by rw[ht];exact hq.1,by rw[ht,hf];exact hq.2⟩
  .have hlt':(L.length:Int)<=r.at':=by omega
   have hlt2:L.length<=r.at':=by omega
   have ht:kindR L r 1=(⟨#[]⟩,failR r):=by simp[kindR,kindB,kindAt_none hlt]
   have hf:failR r=⟨r.at',r.at'⟩:=if_pos hb
   try (simp[lO kn,hk,hb,hb',hlt',hlt2,uL kn,uS])
   repeat ((first|refine sR ?_|refine sC ?_|refine sX ?_);simp[lO kn,hk,hb,hb',hlt',hlt2,uL kn,uS])
   refine sT ?_;try simp only[AU]
   refine⟨by simp,(Fin.gen (av:=Sb ⟨#[]⟩) (tok':=tok) (nt':=nt) (by simp[resAs,resA,lk];rfl) (by rw[<-uL kn,Hb]) (nr _) (nr _) (fun t ht=>⟨ht,.inl rfl⟩) (outG (by simp)) (by simp)).mono fun v m hq=>?_⟩;exact⟨by rw[ht];exact hq.1,by rw[ht,hf];exact hq.2⟩
 .have hb':0<=r.bad:=by omega
  have ht:kindR L r 1=(⟨#[]⟩,failR r):=by simp[kindR,kindB,hb]
  have hf:failR r=r:=if_neg hb
  try (simp[lO kn,hk,hb,hb',uL kn,uS])
  repeat ((first|refine sR ?_|refine sC ?_|refine sX ?_);simp[lO kn,hk,hb,hb',uL kn,uS])
  refine sT ?_;try simp only[AU]
  refine⟨by simp,(Fin.gen (av:=Sb ⟨#[]⟩) (tok':=tok) (nt':=nt) (by simp[resAs,resA,lk];rfl) Hb (nr _) (nr _) (fun t ht=>⟨ht,.inl rfl⟩) (fun k rows _ h=>.inl h) (by simp)).mono fun v m hq=>?_⟩;exact⟨by rw[ht];exact hq.1,by rw[ht,hf,upd_keep hk];exact hq.2⟩
def PrdF(P:Program)(L:List Tk)(f:FuncId)(F:RqS->Fo × RqS)(n:Nat):Prop:=∀r:RqS,r.Ok L->rem L r<=n->∀(ks:Nat) (box:Bxs),box ks=some [r.row L]->∀(nb:Nat) (tok:Tks) (nt:Nat),
 ACalls P f [.ptr ks 0 0] ⟨box,nb,tok,nt⟩ (QRd (F r).1.av ((F r).2.row L) ks box nb tok nt)
structure AccFo where
 r:RqS
 l:List Fo
 own:Own
 tok:Nat->Bool
 nt:Nat
 f:Nat
structure LInv (L:List Tk) (F:RqS->Fo × RqS) (n:Nat) (sg:ByteArray) (R:List Fo × RqS) (mtok:Tks) (nt0:Nat) (x:AccFo):Prop where
 ok:x.r.Ok L
 n:rem L x.r<=n
 f:rem L x.r<=x.f
 e:moreF L F sg x.f x.r x.l=R
 l:x.l.length+x.f<=L.length+3
 k:TK mtok nt0 x.tok x.nt [x.own]
theorem LInv.of{L:List Tk}{F:RqS->Fo × RqS}{n:Nat}{sg:ByteArray}{R:List Fo × RqS}{mtok:Nat->Bool}{nt0:Nat}{r:RqS}{l:List Fo}{own:Own}{tok:Nat->Bool}{nt f:Nat}(h1:r.Ok L)(h2:rem L r<=n)(h3:rem L r<=f)(h4:moreF L F sg f r l=R)(h5:l.length+f<=L.length+3)(h7:TK mtok nt0 tok nt [own]):
  LInv L F n sg R mtok nt0 ⟨r,l,own,tok,nt,f⟩:=⟨h1,h2,h3,h4,h5,h7⟩
abbrev zRowF:List AV:=[I 0,Sb ⟨#[]⟩,nilS]
def stLsF(L:List Tk)(k:Int)(sg:ByteArray)(ks nb:Nat)(box:Bxs)(x:AccFo):AS :=
 ⟨tl [(3,.osl 3 (x.l.map Fo.cells) x.own),(4,Sb sg),(5,I k),(2,.ptr (nb+2) 0 0),(0,.ptr ks 0 0)],lb nb (upd box ks (some [x.r.row L])) [(2,[zRowF])],x.tok,x.nt⟩
set_option maxRecDepth 100000 in
theorem list_of(L:List Tk)(hL:L.length<=1000000000)(F:RqS->Fo × RqS)(n:Nat)(hF:PrdF prog L 112 F n)(hG:GoesF L F):∀r:RqS,r.Ok L->r.bad<0->rem L r<=n+1->∀(ks:Nat) (box:Bxs),box ks=some [r.row L]->∀(nb:Nat) (tok:Tks) (nt:Nat),
  ACalls prog 186 [.ptr ks 0 0] ⟨box,nb,tok,nt⟩ (QRd (listF L F r).1.av ((listF L F r).2.row L) ks box nb tok nt):=by
 intro r h hb hr ks box hk nb tok nt;have t1:=takeT_c L r h (by omega) sLp ks;have a1:=AdvS.take h sLp;have hrem:=rem_advS a1 hb h;have a2:=hG _ a1.ok;have c1:=hF _ a1.ok (by omega) ks;obtain⟨R,hR⟩:∃R,listF L F r=R:=⟨_,rfl⟩
 rw[hR];unfold listF at hR;generalize takeR L r sLp=r1 at *;obtain⟨c0,r2,hc0⟩:∃c0 r2,F r1=(c0,r2):=⟨_,_,rfl⟩
 rw[hc0] at c1 a2 hR;simp only at c1 a2 hR;have hrem2:=rem_adv a2;have pk:=peekT_c L r2 sBr ks;refine sI func186 ntmps186 fun Hb Ht=>?_
 have kn:=key_lt Hb hk;have ht0:=TK.start Ht;try (simp)
 repeat ((first|refine sR ?_|refine sC ?_|refine sX ?_);simp)
 refine Stop.of_a (t1 _ (by simp only;rw[lO kn];exact hk) _ _ _) ?_;rintro v m ⟨rfl,rfl⟩;try (simp[uL kn])
 repeat ((first|refine sR ?_|refine sC ?_|refine sX ?_);simp[uL kn])
 refine Stop.of_a (c1 _ (by simp only;rw[lO kn,uS]) _ _ _) ?_;rintro v m ⟨rfl,rfl⟩;simp[uL kn,upd_upd];obtain⟨sg,k,hsk⟩:∃sg k,(if peekB L r2 sBr=true then (sBr,(4:Int)) else (sAm,3))=(sg,k):=⟨_,_,rfl⟩
 have hR2:lstF L F k sg (c0,r2) (F (takeR L r2 sg))=R:=by
  cases hp:peekB L r2 sBr
  .rw[hp] at hsk hR;simp at hsk hR;rw[<-hsk.1,<-hsk.2];exact hR
  .rw[hp] at hsk hR;simp at hsk hR;rw[<-hsk.1,<-hsk.2];exact hR
 refine sR ?_;simp;refine AL.seq ?_;refine AL.mid ⟨tl [(4,Sb sg),(5,I k),(3,.osl 3 [c0.cells] .full),(2,.ptr (nb+2) 0 0),(0,.ptr ks 0 0)],lb nb (upd box ks (some [r2.row L])) [(2,[zRowF])],tok,nt⟩ ?_ ?_
 .try (simp)
  repeat ((first|refine sR ?_|refine sC ?_|refine sX ?_);simp)
  refine Stop.of_a (pk _ (by simp only;rw[lO kn,uS]) _ _ _) ?_;rintro v m ⟨rfl,rfl⟩;cases hp:peekB L r2 sBr
  .rw[hp] at hsk;simp at hsk;obtain⟨rfl,rfl⟩:=hsk;try (simp[hp])
   repeat ((first|refine sR ?_|refine sC ?_|refine sX ?_);simp[hp])
   refine sE ?_;exact Weaks.mk' (nr _) (by simp[ToL,lk,Fo.cells_eq,sAm,sBr];exact to_ptr (by rw[lO kn,uS];simp)) (by simp[BoxL,lk]) (outG (by simp))
  .rw[hp] at hsk;simp at hsk;obtain⟨rfl,rfl⟩:=hsk;try (simp[hp])
   repeat ((first|refine sR ?_|refine sC ?_|refine sX ?_);simp[hp])
   refine sE ?_;exact Weaks.mk' (nr _) (by simp[ToL,lk,Fo.cells_eq,sAm,sBr];exact to_ptr (by rw[lO kn,uS];simp)) (by simp[BoxL,lk]) (outG (by simp))
 .clear hsk hR;have t3:=takeT_c L r2 a2.ok (by omega) sg ks;have a3:=(AdvS.take a2.ok sg).adv;have hrem3:=rem_adv a3;have c3:=hF _ a3.ok (by omega) ks;have a4:=hG _ a3.ok;generalize takeR L r2 sg=r3 at *;obtain⟨c1',r4,hc1⟩:∃c1' r4,F r3=(c1',r4):=⟨_,_,rfl⟩
  rw[hc1] at c3 a4 hR2;simp only at c3 a4;have hrem4:=rem_adv a4;obtain⟨M,hM⟩:∃M,moreF L F sg (L.length+1) r4 [c0,c1']=M:=⟨_,rfl⟩
  unfold lstF at hR2;simp only at hR2;rw[hM] at hR2;subst hR2;have hrl:=rem_le L r4;try (simp)
  repeat ((first|refine sR ?_|refine sC ?_|refine sX ?_);simp)
  refine Stop.of_a (t3 _ (by simp only;rw[lO kn,uS]) _ _ _) ?_;rintro v m ⟨rfl,rfl⟩;try (simp[uL kn,upd_upd])
  repeat ((first|refine sR ?_|refine sC ?_|refine sX ?_);simp[uL kn,upd_upd])
  refine Stop.of_a (c3 _ (by simp only;rw[lO kn,uS]) _ _ _) ?_;rintro v m ⟨rfl,rfl⟩;try (simp[uL kn,upd_upd])
  repeat ((first|refine sR ?_|refine sC ?_|refine sX ?_);simp[uL kn,upd_upd])
  refine sN ?_;refine sL (stLsF L k sg ks nb box) (LInv L F n sg M tok nt) (fun x=>x.f) ⟨r4,[c0,c1'],.tok nt,upd tok nt true,nt+1,L.length+1⟩ (LInv.of a4.ok (by omega) (by omega) hM (by simp;omega) ht0.full.app)
   (Weaks.mk' (by omega) (by simp[ToL,lk,Fo.cells_eq];exact to_ptr (by rw[lO kn,uS];simp)) (by simp[BoxL,lk]) (outG (by simp))) ?_
  clear hM;rintro⟨r,l,own,tok1,nt1,f⟩ S hinv hS;obtain⟨ho,hn1,hf,he,hl,htk⟩:=hinv;simp only[stLsF] at hS ho hn1 hf he hl htk ⊢;subst hS;have pk2:=peekT_c L r sg ks;try (simp)
  repeat ((first|refine sR ?_|refine sC ?_|refine sX ?_);simp)
  refine Stop.of_a (pk2 _ (by simp only;rw[lO kn,uS]) _ _ _) ?_;rintro v m ⟨rfl,rfl⟩;cases hp:peekB L r sg
  .have he2:moreF L F sg f r l=(l,r):=by
    cases f with
    | zero=>rfl
    | succ f=>rw[moreF,if_neg (by simp[hp])]
   rw[he2] at he;subst he;have t5:=takeT_c L r ho (by omega) sRp ks;try (simp[hp])
   repeat ((first|refine sR ?_|refine sC ?_|refine sX ?_);simp[hp])
   refine Stop.of_a (t5 _ (by simp only;rw[lO kn,uS]) _ _ _) ?_;rintro v m ⟨rfl,rfl⟩;try (simp[uL kn,upd_upd])
   repeat ((first|refine sR ?_|refine sC ?_|refine sX ?_);simp[uL kn,upd_upd])
   refine sT ?_;try simp only[AU]
   refine⟨by simp,(Fin.gen (av:=Fo.av (.mk k ⟨#[]⟩ l)) (tok':=tok) (nt':=nt) (by simp[resAs,resA,lk];rfl) (by rw[<-uL kn,Hb]) (nr _) htk.le (fun t ht=>⟨htk.old t ht,.inr (Ht t ht)⟩) (outG (by simp)) (by simp[Fo.kind,Fo.name,Fo.kids])).mono fun v m hq=>?_⟩;exact hq
  .have hb:r.bad<0:=by unfold peekB at hp;simp only[Bool.and_eq_true,decide_eq_true_eq] at hp;exact hp.1
   have a5:=peek_at ho hp;have hlt:=rem_advS a5 hb ho;obtain⟨f,rfl⟩:∃f',f=f'+1:=⟨f-1,by omega⟩
   rw[moreF,if_pos hp] at he;have c5:=hF _ a5.ok (by omega) ks;have a6:=hG _ a5.ok;have hrem6:=rem_adv a6;have hat:=ho.a;have hw:IntKind.i64.wrap ((r.at':Int)+1)=((r.at'+1:Nat):Int):=by rw[wrap_in (by omega) (by omega)];rfl
   obtain⟨c7,r7,hc7⟩:∃c7 r7,F ⟨r.at'+1,r.bad⟩=(c7,r7):=⟨_,_,rfl⟩
   rw[hc7] at c5 a6 hrem6 he;simp only at c5 a6 hrem6 he;try (simp[hp,lO kn,uS,uL kn,upd_upd,hw])
   repeat ((first|refine sR ?_|refine sC ?_|refine sX ?_);simp[hp,lO kn,uS,uL kn,upd_upd,hw])
   refine Stop.of_a (c5 _ (by simp only;rw[lO kn,uS];rfl) _ _ _) ?_;rintro v m ⟨rfl,rfl⟩;try (simp[uL kn,upd_upd])
   repeat ((first|refine sR ?_|refine sC ?_|refine sX ?_);simp[uL kn,upd_upd])
   refine⟨⟨by omega,htk.live⟩,?_⟩;try (simp)
   repeat ((first|refine sR ?_|refine sC ?_|refine sX ?_);simp)
   refine sE ?_;refine⟨⟨r7,l++[c7],.tok nt1,upd (own.kill tok1) nt1 true,nt1+1,f⟩,LInv.of a6.ok (by omega) (by omega) he (by simp;omega) htk.app,by simp only;omega,?_⟩;simp only[stLsF];exact Weaks.mk' (by have:=htk.le;omega) (by simp[ToL,lk,Fo.cells_eq];exact to_ptr (by rw[lO kn,uS];simp)) (by simp[BoxL,lk]) (outG (by simp))
def kdP:List Int:=[2,5,6,7,9,10,11]
def wdP:List ByteArray:=[sNot,sEX,sEF,sEG,sAX,sAF,sAG]
theorem run_insI{P:Program}{w:World}{T kt et:TypeId}(h1:P.underlying T=some (.map kt et))(h2:P.underlying kt=some (.int .i64)){en:Array MapEntry}{k:Nat}{ik:Int}{v:Value}(hf:Instr.findNow (.int .i64) (.int .i64 ik) en.toList 0=some none):
  (Instr.mapUpdate T (.map (some w.heap.size)) (.int .i64 ik) v).run P (w.alloc (.map en k))=.ok () (w.alloc (.map (en.push { key:=.int .i64 ik,val:=v,born:=k }) (k+1))):=by
 have hb:(w.alloc (.map en k)).heap[w.heap.size]?=some (.map en k):=by
  show (w.heap.push (.map en k))[w.heap.size]?=_
  simp
 have hc:(Instr.checkKey false 10000 kt (.int .i64 ik)).run P (w.alloc (.map en k))=.ok () (w.alloc (.map en k)):=MapKept.run_checkKey (k:=.int .i64 ik) h2 (by simp[MapKept.IsKey]) _ 9999
 have hk:=MapKept.run_findKey (w:=w.alloc (.map en k)) h2 hf;have hs:∀o,(w.heap.push (.map en k)).setIfInBounds w.heap.size o=w.heap.push o:=fun o=>by
  apply Array.ext
  .simp
  .intro i h3 h4;by_cases e:i=w.heap.size
   .subst e;simp
   .have h5:i<w.heap.size:=by simp at h4;omega
    rw[Array.getElem_setIfInBounds_ne (h:=Ne.symm e),Array.getElem_push_lt h5,Array.getElem_push_lt h5];simp at h4 ⊢;omega
 simp only[Instr.mapUpdate,Sem.run_bind,run_underlying h1,MapKept.run_getObj_map hb,hc,hk,Result.andThen];rw[MapKept.run_setObj_map _ hb];show Result.ok () { w with heap:=(w.heap.push (.map en k)).setIfInBounds w.heap.size _ }=_
 rw[hs];rfl
theorem run_lookI{P:Program}{w:World}{T kt et:TypeId}(h1:P.underlying T=some (.map kt et))(h2:P.underlying kt=some (.int .i64)){en:Array MapEntry}{k:Nat}{ik:Int}{v:Value}{j:Nat}(hf:Instr.findNow (.int .i64) (.int .i64 ik) en.toList 0=some (some (j,v))):
  (Instr.lookup T (.map (some w.heap.size)) (.int .i64 ik) false).run P (w.alloc (.map en k))=.ok v (w.alloc (.map en k)):=by
 have hb:(w.alloc (.map en k)).heap[w.heap.size]?=some (.map en k):=by
  show (w.heap.push (.map en k))[w.heap.size]?=_
  simp
 have hc:∀e,(Instr.checkKey e 10000 kt (.int .i64 ik)).run P (w.alloc (.map en k))=.ok () (w.alloc (.map en k)):=fun e=>MapKept.run_checkKey (k:=.int .i64 ik) h2 (by simp[MapKept.IsKey]) _ 9999
 have hk:=MapKept.run_findKey (w:=w.alloc (.map en k)) h2 hf;simp[Instr.lookup,run_underlying h1,MapKept.run_getObj_map hb,hc,hk,Result.andThen]
theorem wpList_insI{P:Program}{w w':World}{ops:Array Oper}{rest:List Oper}{o:Oper}{a:Act}{Q:Exit->Act->World->Prop}(hg:o.guard=none)(m x v:Operand)(t:TypeId)(hop:o.op=Op.insert t m x v)(hrun:(Instr.mapUpdate t (a.eval m) (a.eval x) (a.eval v)).run P w=.ok () w')(hK:wpList P ops Q rest (a.put o.dst undef) w'):wpList P ops Q (o::rest) a w:=by
 refine wpList_plain hg fun K' hK'=>?_
 unfold Oper.wp;simp[execOp,hop,hrun,Result.andThen];exact hK' _ _ hK
theorem wpList_lookI{P:Program}{w:World}{ops:Array Oper}{rest:List Oper}{o:Oper}{a:Act}{Q:Exit->Act->World->Prop}(hg:o.guard=none)(m x:Operand)(t:TypeId)(hop:o.op=Op.lookup t m x false)(r:Value)(hrun:(Instr.lookup t (a.eval m) (a.eval x) false).run P w=.ok r w)(hK:wpList P ops Q rest (a.put o.dst r) w):wpList P ops Q (o::rest) a w:=by
 refine wpList_plain hg fun K' hK'=>?_
 unfold Oper.wp;simp[execOp,hop,hrun,Result.andThen];exact hK' _ _ hK
end Go.AM
namespace Go.Proofs.YtainalmfffjnjaaGreatDoor.pfx
open Go Go.Proofs Go.RowKit Go.AM
open Go.Proofs.Tryz
abbrev pfE:Array MapEntry := #[⟨.int .i64 2,.string sNot,0⟩,⟨.int .i64 5,.string sEX,1⟩,⟨.int .i64 6,.string sEF,2⟩,⟨.int .i64 7,.string sEG,3⟩,⟨.int .i64 9,.string sAX,4⟩,⟨.int .i64 10,.string sAF,5⟩,⟨.int .i64 11,.string sAG,6⟩]
set_option maxRecDepth 100000 in
theorem any(k:Int)(s:ByteArray)(j:Nat)(hf:Instr.findNow (.int .i64) (.int .i64 k) pfE.toList 0=some (some (j,.string s)))(w:World):
  Calls prog 188 #[.int .i64 k] w fun e w'=>e=.returned (.string s)/\Below w.heap.size w w':=by
 have hmm:=@run_makeMap prog
 go_enter func188,ntmps188
 go_wp2_with (first
  | (refine wpList_insI rfl _ _ _ _ rfl (run_insI underlying319 underlying3 rfl) ?_)
  | (refine wpList_lookI rfl _ _ _ rfl _ (run_lookI underlying319 underlying3 hf) ?_)
  | go_in)
 go_ret
 exact⟨rfl,(Below.refl _ _).alloc (nr _) _⟩
end Go.Proofs.YtainalmfffjnjaaGreatDoor.pfx
namespace Go.AM
open Go Go.Proofs
open Go.Proofs.Tryz
set_option maxRecDepth 100000 in
theorem prefixT_c(i:Nat)(hi:i<7)(tok:Tks)(nt:Nat):DCall prog 188 [I (kdP.getD i 0)] tok nt (Sb (wdP.getD i ⟨#[]⟩)) tok nt:=by
 refine DCall.of_below (Enters.mk func188 rfl (by kernel_rfl)) rfl fun G w vals hr=>?_
 obtain⟨hlen,hrv⟩:=hr
 match vals,hlen with
 | [v],_ =>
 have hv:=hrv 0 (by simp) (by simp);simp only[List.getElem_cons_zero] at hv;have:v=.int .i64 (kdP.getD i 0):=by cases hv with|d h=>cases h;rfl
 subst this;have hi7:i=0∨i=1∨i=2∨i=3∨i=4∨i=5∨i=6:=by omega
 rcases hi7 with rfl|rfl|rfl|rfl|rfl|rfl|rfl
 .exact Go.Proofs.YtainalmfffjnjaaGreatDoor.pfx.any 2 sNot 0 rfl w
 .exact Go.Proofs.YtainalmfffjnjaaGreatDoor.pfx.any 5 sEX 1 rfl w
 .exact Go.Proofs.YtainalmfffjnjaaGreatDoor.pfx.any 6 sEF 2 rfl w
 .exact Go.Proofs.YtainalmfffjnjaaGreatDoor.pfx.any 7 sEG 3 rfl w
 .exact Go.Proofs.YtainalmfffjnjaaGreatDoor.pfx.any 9 sAX 4 rfl w
 .exact Go.Proofs.YtainalmfffjnjaaGreatDoor.pfx.any 10 sAF 5 rfl w
 .exact Go.Proofs.YtainalmfffjnjaaGreatDoor.pfx.any 11 sAG 6 rfl w
theorem pfx_hit{i:Nat}(h:i<7):pfxK (wdP.getD i ⟨#[]⟩)=some (kdP.getD i 0):=by
 have:i=0∨i=1∨i=2∨i=3∨i=4∨i=5∨i=6:=by omega
 rcases this with rfl|rfl|rfl|rfl|rfl|rfl|rfl<;>decide
def NoW(s:ByteArray)(i:Nat):Prop:=∀j,j<i->wdP.getD j ⟨#[]⟩≠s
theorem NoW.succ{s:ByteArray}{i:Nat}(h:NoW s i)(hn:wdP.getD i ⟨#[]⟩≠s):NoW s (i+1):=fun j hj=>by
 by_cases e:j=i
 .subst e;exact hn
 .exact h j (by omega)
theorem pfx_none{s:ByteArray}(h:NoW s 7):pfxK s=none:=by
 unfold pfxK;rw[if_neg (fun e=>h 0 (by decide) e.symm),if_neg (fun e=>h 1 (by decide) e.symm),if_neg (fun e=>h 2 (by decide) e.symm),if_neg (fun e=>h 3 (by decide) e.symm),if_neg (fun e=>h 4 (by decide) e.symm),if_neg (fun e=>h 5 (by decide) e.symm),if_neg (fun e=>h 6 (by decide) e.symm)]
theorem words_mem{s:ByteArray}(h:NoW s 7)(hE:s≠wE)(hA:s≠wA):memS wordsL s=decide (s=wU):=by
 rw[Bool.eq_iff_iff,memS_iff,decide_eq_true_eq];constructor
 .intro hm;have hm:s∈[sNot,sEX,sEF,sEG,sAX,sAF,sAG,wE,wA,wU]:=hm
  simp only[List.mem_cons,List.not_mem_nil,or_false] at hm;rcases hm with e|e|e|e|e|e|e|e|e|e
  .exact absurd e.symm (h 0 (by decide))
  .exact absurd e.symm (h 1 (by decide))
  .exact absurd e.symm (h 2 (by decide))
  .exact absurd e.symm (h 3 (by decide))
  .exact absurd e.symm (h 4 (by decide))
  .exact absurd e.symm (h 5 (by decide))
  .exact absurd e.symm (h 6 (by decide))
  .exact absurd e hE
  .exact absurd e hA
  .exact e
 .rintro rfl;exact memS_iff.1 (by decide)
@[local simp] theorem to_fz{p q:Nat->Prop}:To p q none nilS (.d (fos [])):=.odsub .emp
theorem w_E{w:ByteArray}:w.toList=[69]↔w=wE:=by have h:=seq_iff (a:=w) (b:=wE);simpa[wE] using h
theorem w_A{w:ByteArray}:w.toList=[65]↔w=wA:=by have h:=seq_iff (a:=w) (b:=wA);simpa[wA] using h
set_option maxRecDepth 100000 in
theorem unt_of(L:List Tk)(hL:L.length<=1000000000)(F:RqS->Fo × RqS)(n:Nat)(hF:PrdF prog L 112 F n)(hG:GoesF L F)(k:Int):∀r:RqS,r.Ok L->rem L r<=n->∀(ks:Nat) (box:Bxs),box ks=some [r.row L]->∀(nb:Nat) (tok:Tks) (nt:Nat),
  ACalls prog 189 [.ptr ks 0 0,I k] ⟨box,nb,tok,nt⟩ (QRd (untF L F k r).1.av ((untF L F k r).2.row L) ks box nb tok nt):=by
 intro r h hr ks box hk nb tok nt;have t1:=takeT_c L r h (by omega) sLp ks;have a1:=(AdvS.take h sLp).adv;have hrem:=rem_adv a1;have a2:=hG _ a1.ok;have c1:=hF _ a1.ok (by omega) ks;obtain⟨R,hR⟩:∃R,untF L F k r=R:=⟨_,rfl⟩
 rw[hR];unfold untF at hR;generalize takeR L r sLp=r1 at *;obtain⟨c0,r2,hc0⟩:∃c0 r2,F r1=(c0,r2):=⟨_,_,rfl⟩
 rw[hc0] at c1 a2 hR;simp only at c1 a2 hR;have hrem2:=rem_adv a2;have t3:=takeT_c L r2 a2.ok (by omega) wU ks;have a3:=(AdvS.take a2.ok wU).adv;have hrem3:=rem_adv a3;have c3:=hF _ a3.ok (by omega) ks;have a4:=hG _ a3.ok;generalize takeR L r2 wU=r3 at *;obtain⟨c2,r4,hc2⟩:∃c2 r4,F r3=(c2,r4):=⟨_,_,rfl⟩
 rw[hc2] at c3 a4 hR;simp only at c3 a4 hR;have t5:=takeT_c L r4 a4.ok (by omega) sRp ks;subst hR;refine sI func189 ntmps189 fun Hb Ht=>?_
 have kn:=key_lt Hb hk;have ht0:=TK.start Ht;try (simp)
 repeat ((first|refine sR ?_|refine sC ?_|refine sX ?_);simp)
 refine Stop.of_a (t1 _ (by simp only;rw[lO kn];exact hk) _ _ _) ?_;rintro v m ⟨rfl,rfl⟩;try (simp[uL kn])
 repeat ((first|refine sR ?_|refine sC ?_|refine sX ?_);simp[uL kn])
 refine Stop.of_a (c1 _ (by simp only;rw[lO kn,uS]) _ _ _) ?_;rintro v m ⟨rfl,rfl⟩;try (simp[uL kn,upd_upd])
 repeat ((first|refine sR ?_|refine sC ?_|refine sX ?_);simp[uL kn,upd_upd])
 refine Stop.of_a (t3 _ (by simp only;rw[lO kn,uS]) _ _ _) ?_;rintro v m ⟨rfl,rfl⟩;try (simp[uL kn,upd_upd])
 repeat ((first|refine sR ?_|refine sC ?_|refine sX ?_);simp[uL kn,upd_upd])
 refine Stop.of_a (c3 _ (by simp only;rw[lO kn,uS]) _ _ _) ?_;rintro v m ⟨rfl,rfl⟩;try (simp[uL kn,upd_upd])
 repeat ((first|refine sR ?_|refine sC ?_|refine sX ?_);simp[uL kn,upd_upd])
 refine Stop.of_a (t5 _ (by simp only;rw[lO kn,uS]) _ _ _) ?_;rintro v m ⟨rfl,rfl⟩;try (simp[uL kn,upd_upd])
 repeat ((first|refine sR ?_|refine sC ?_|refine sX ?_);simp[uL kn,upd_upd])
 refine sT ?_;try simp only[AU]
 have htk:=ht0.full.app;have e1:(Fo.mk k ⟨#[]⟩ [c0,c2]).kind=k:=rfl
 have e2:(Fo.mk k ⟨#[]⟩ [c0,c2]).name=⟨#[]⟩:=rfl
 have e3:(Fo.mk k ⟨#[]⟩ [c0,c2]).kids=[c0,c2]:=rfl
 have e4:fos [c0,c2]=.sl 3 [[.raw (.int .i64 c0.kind),.raw (.string c0.name),fos c0.kids],[.raw (.int .i64 c2.kind),.raw (.string c2.name),fos c2.kids]]:=by simp[Fo.cells_eq c0,Fo.cells_eq c2]
 refine⟨by simp,(Fin.gen (av:=Fo.av (.mk k ⟨#[]⟩ [c0,c2])) (tok':=tok) (nt':=nt) (by simp[resAs,resA,lk];rfl) (by rw[<-uL kn,Hb]) (nr _) htk.le (fun t ht=>⟨htk.old t ht,.inr (Ht t ht)⟩) (outG (by simp)) (by simp[e1,e2,e3,e4])).mono fun v m hq=>?_⟩;exact hq
def stFm(L:List Tk)(r:RqS)(s:ByteArray)(ks nb:Nat)(box:Bxs)(tok:Tks)(nt:Nat)(i:Nat):AS :=
 ⟨tl [(24,.d (ints kdP)),(25,I 7),(26,I i),(3,Sb s),(2,.ptr (nb+2) 0 0),(0,.ptr ks 0 0)],lb nb (upd box ks (some [r.row L])) [(2,[zRowF])],tok,nt⟩
set_option maxRecDepth 100000 in
theorem formula_of(L:List Tk)(hL:L.length<=1000000000)(hT:∀t∈L,t.text.size<=200000000000000)(F:RqS->Fo × RqS)(n:Nat)(hF:PrdF prog L 112 F n)(hG:GoesF L F):PrdF prog L 112 (frmF L F) (n+1):=by
 intro r h hr ks box hk nb tok nt;obtain⟨R,hR⟩:∃R,frmF L F r=R:=⟨_,rfl⟩
 rw[hR];unfold frmF at hR;have pk:=peekT_c L r sLp ks;refine sI func112 ntmps112 fun Hb Ht=>?_
 have kn:=key_lt Hb hk;by_cases hb:r.bad<0
 .rw[if_pos hb] at hR;have hb':¬0<=r.bad:=by omega
  have hls:=list_of L hL F n hF hG r h hb hr ks;try (simp[lO kn,hk,hb,hb'])
  repeat ((first|refine sR ?_|refine sC ?_|refine sX ?_);simp[lO kn,hk,hb,hb'])
  refine Stop.of_a (pk _ (by simp only;rw[lO kn];exact hk) _ _ _) ?_;rintro v m ⟨rfl,rfl⟩;cases hp:peekB L r sLp
  .rw[hp] at hR;simp only[Bool.false_eq_true,↓reduceIte] at hR;have w1:=wordT_c L r h (by omega) ks;have a1:=AdvS.kind h 1;have hrem:=rem_advS a1 hb h;have hsz:=kind_sizeF hT r 1;obtain⟨s,r1,hsr⟩:∃s r1,kindR L r 1=(s,r1):=⟨_,_,rfl⟩
   rw[hsr] at w1 a1 hrem hsz hR;simp only at w1 a1 hrem hsz hR;try (simp[hp])
   repeat ((first|refine sR ?_|refine sC ?_|refine sX ?_);simp[hp])
   refine Stop.of_a (w1 _ (by simp only;rw[lO kn];exact hk) _ _ _) ?_;rintro v m ⟨rfl,rfl⟩;by_cases hb1:r1.bad<0
   .rw[if_pos hb1] at hR;have hb1':¬0<=r1.bad:=by omega
    try (simp[lO kn,uS,uL kn,hb1,hb1'])
    repeat ((first|refine sR ?_|refine sC ?_|refine sX ?_);simp[lO kn,uS,uL kn,hb1,hb1'])
    refine⟨rfl,?_⟩;refine sN ?_;refine sL (stFm L r1 s ks nb box tok nt) (fun i=>i<=7/\NoW s i) (fun i=>7-i) 0 ⟨Nat.zero_le _,fun j h=>by omega⟩
     (Weaks.mk' (nr _) (by simp[ToL,lk,kdP,ints];exact to_ptr (by rw[lO kn,uS];simp)) (by simp[BoxL,lk]) (outG (by simp))) ?_
    rintro i S ⟨hi,hno⟩ hS;simp only[stFm] at hS;subst hS;have hw:=sW (i:=i) (by omega);have hkl:kdP.length=7:=rfl
    by_cases hlt:i<7
    .have hlt':(i:Int)<7:=by omega
     have hlt2:i<kdP.length:=hlt
     have hpx:=prefixT_c i hlt;have hk1:kdP.getD i 0=kdP[i]:=by simp[hlt2]
     have hph:=pfx_hit hlt;rw[hk1] at hpx hph;obtain⟨wd,hwd⟩:∃wd,wdP.getD i ⟨#[]⟩=wd:=⟨_,rfl⟩
     rw[hwd] at hpx hph;have hsq:=seq_dec s wd;by_cases hs:s=wd
     .have hs':decide (s=wd)=true:=by simp[hs]
      rw[hs'] at hsq;rw[wrdF,hs,hph] at hR;simp only at hR;have c1:=hF r1 a1.ok (by omega) ks;obtain⟨c0,r2,hc0⟩:∃c0 r2,F r1=(c0,r2):=⟨_,_,rfl⟩
      rw[hc0] at c1 hR;simp only at c1 hR;subst hR;try (simp[hlt,hlt',hkl])
      repeat ((first|refine sR ?_|refine sC ?_|refine sX ?_);simp[hlt,hlt',hkl])
      refine sD (hpx _ _) ?_;simp;try (simp[hsq])
      repeat ((first|refine sR ?_|refine sC ?_|refine sX ?_);simp[hsq])
      refine Stop.of_a (c1 _ (by simp only;rw[lO kn,uS]) _ _ _) ?_;rintro v m ⟨rfl,rfl⟩;try (simp[uL kn,upd_upd])
      repeat ((first|refine sR ?_|refine sC ?_|refine sX ?_);simp[uL kn,upd_upd])
      refine sT ?_;try simp only[AU]
      have e1:(Fo.mk kdP[i] ⟨#[]⟩ [c0]).kind=kdP[i]:=rfl
      have e2:(Fo.mk kdP[i] ⟨#[]⟩ [c0]).name=⟨#[]⟩:=rfl
      have e3:(Fo.mk kdP[i] ⟨#[]⟩ [c0]).kids=[c0]:=rfl
      have e4:fos [c0]=.sl 3 [[.raw (.int .i64 c0.kind),.raw (.string c0.name),fos c0.kids]]:=by simp[Fo.cells_eq c0]
      refine⟨by simp,(Fin.gen (av:=Fo.av (.mk kdP[i] ⟨#[]⟩ [c0])) (tok':=tok) (nt':=nt) (by simp[resAs,resA,lk];rfl) (by rw[<-uL kn,Hb]) (nr _) (nr _) (fun t ht=>⟨ht,.inl rfl⟩) (outG (by simp)) (by simp[e1,e2,e3,e4])).mono fun v m hq=>?_⟩;exact hq
     .have hs':decide (s=wd)=false:=by simp[hs]
      rw[hs'] at hsq;try (simp[hlt,hlt',hkl])
      repeat ((first|refine sR ?_|refine sC ?_|refine sX ?_);simp[hlt,hlt',hkl])
      refine sD (hpx _ _) ?_;simp;try (simp[hsq,hw])
      repeat ((first|refine sR ?_|refine sC ?_|refine sX ?_);simp[hsq,hw])
      refine sE ?_;exact⟨i+1,⟨hlt,hno.succ (by rw[hwd];exact Ne.symm hs)⟩,by omega,Weaks.mk' (nr _) (by simp[ToL,lk];exact to_ptr (by rw[lO kn,uS];simp)) (by simp[BoxL,lk]) (outG (by simp))⟩
    .have:i=7:=by omega
     subst this;rw[wrdF,pfx_none hno] at hR;simp only at hR;by_cases hE:s=wE
     .have hE':=w_E.2 hE
      rw[if_pos hE] at hR;have u1:=unt_of L hL F n hF hG 8 r1 a1.ok (by omega) ks;try (simp[hE'])
      repeat ((first|refine sR ?_|refine sC ?_|refine sX ?_);simp[hE'])
      refine Stop.of_a (u1 _ (by simp only;rw[lO kn,uS]) _ _ _) ?_;rintro v m ⟨rfl,rfl⟩;rw[<-hR];try (simp[uL kn,upd_upd])
      repeat ((first|refine sR ?_|refine sC ?_|refine sX ?_);simp[uL kn,upd_upd])
      refine sT ?_;try simp only[AU]
      refine⟨by simp,(Fin.gen (av:=Fo.av (untF L F 8 r1).1) (tok':=tok) (nt':=nt) (by simp[resAs,resA,lk];rfl) (by rw[<-uL kn,Hb]) (nr _) (nr _) (fun t ht=>⟨ht,.inl rfl⟩) (outG (by simp)) (by simp)).mono fun v m hq=>?_⟩;exact hq
     .have hE':¬s.toList=[69]:=fun h=>hE (w_E.1 h)
      rw[if_neg hE] at hR;by_cases hA:s=wA
      .have hA':=w_A.2 hA
       rw[if_pos hA] at hR;have u1:=unt_of L hL F n hF hG 12 r1 a1.ok (by omega) ks;try (simp[hE',hA'])
       repeat ((first|refine sR ?_|refine sC ?_|refine sX ?_);simp[hE',hA'])
       refine Stop.of_a (u1 _ (by simp only;rw[lO kn,uS]) _ _ _) ?_;rintro v m ⟨rfl,rfl⟩;rw[<-hR];try (simp[uL kn,upd_upd])
       repeat ((first|refine sR ?_|refine sC ?_|refine sX ?_);simp[uL kn,upd_upd])
       refine sT ?_;try simp only[AU]
       refine⟨by simp,(Fin.gen (av:=Fo.av (untF L F 12 r1).1) (tok':=tok) (nt':=nt) (by simp[resAs,resA,lk];rfl) (by rw[<-uL kn,Hb]) (nr _) (nr _) (fun t ht=>⟨ht,.inl rfl⟩) (outG (by simp)) (by simp)).mono fun v m hq=>?_⟩;exact hq
      .have hA':¬s.toList=[65]:=fun h=>hA (w_A.1 h)
       rw[if_neg hA] at hR;have hm:=words_mem hno hE hA;have hct:=containsS_c wordsL s (by decide);rw[hm] at hct;by_cases hU:s=wU
       .rw[if_pos hU] at hR;subst hR;have hU':decide (s=wU)=true:=by simp[hU]
        rw[hU'] at hct;have hw3:IntKind.i64.wrap ((r1.at':Int)-1)=(r1.at':Int)-1:=by have:=a1.ok.a;exact wrap_in (by omega) (by omega)
        try (simp[hE',hA'])
        repeat ((first|refine sR ?_|refine sC ?_|refine sX ?_);simp[hE',hA'])
        refine sD (hct _ _) ?_;simp;try (simp[lO kn,uS,uL kn,upd_upd,hw3])
        repeat ((first|refine sR ?_|refine sC ?_|refine sX ?_);simp[lO kn,uS,uL kn,upd_upd,hw3])
        refine sT ?_;try simp only[AU]
        refine⟨by simp,(Fin.gen (av:=Fo.av (.mk 1 s [])) (tok':=tok) (nt':=nt) (by simp[resAs,resA,lk];rfl) (by rw[<-uL kn,Hb]) (nr _) (nr _) (fun t ht=>⟨ht,.inl rfl⟩) (outG (by simp)) (by simp[Fo.kind,Fo.name,Fo.kids])).mono fun v m hq=>?_⟩;exact hq
       .rw[if_neg hU] at hR;subst hR;have hU':decide (s=wU)=false:=by simp[hU]
        rw[hU'] at hct;try (simp[hE',hA'])
        repeat ((first|refine sR ?_|refine sC ?_|refine sX ?_);simp[hE',hA'])
        refine sD (hct _ _) ?_;simp;try (simp)
        repeat ((first|refine sR ?_|refine sC ?_|refine sX ?_);simp)
        refine sT ?_;try simp only[AU]
        refine⟨by simp,(Fin.gen (av:=Fo.av (.mk 1 s [])) (tok':=tok) (nt':=nt) (by simp[resAs,resA,lk];rfl) (by rw[<-uL kn,Hb]) (nr _) (nr _) (fun t ht=>⟨ht,.inl rfl⟩) (outG (by simp)) (by simp[Fo.kind,Fo.name,Fo.kids])).mono fun v m hq=>?_⟩;exact hq
   .rw[if_neg hb1] at hR;have hb1':0<=r1.bad:=by omega
    subst hR;try (simp[lO kn,uS,uL kn,hb1,hb1'])
    repeat ((first|refine sR ?_|refine sC ?_|refine sX ?_);simp[lO kn,uS,uL kn,hb1,hb1'])
    refine sT ?_;try simp only[AU]
    refine⟨by simp,(Fin.gen (av:=Fo.av zF) (tok':=tok) (nt':=nt) (by simp[resAs,resA,lk];rfl) (by rw[<-uL kn,Hb]) (nr _) (nr _) (fun t ht=>⟨ht,.inl rfl⟩) (outG (by simp)) (by simp[zF,Fo.kind,Fo.name,Fo.kids])).mono fun v m hq=>?_⟩;exact hq
  .rw[hp] at hR;simp only[↓reduceIte] at hR;try (simp[hp])
   repeat ((first|refine sR ?_|refine sC ?_|refine sX ?_);simp[hp])
   refine Stop.of_a (hls _ (by simp only;rw[lO kn];exact hk) _ _ _) ?_;rintro v m ⟨rfl,rfl⟩;try (simp[uL kn,upd_upd])
   repeat ((first|refine sR ?_|refine sC ?_|refine sX ?_);simp[uL kn,upd_upd])
   refine sT ?_;try simp only[AU]
   rw[<-hR];refine⟨by simp,(Fin.gen (av:=Fo.av (listF L F r).1) (tok':=tok) (nt':=nt) (by simp[resAs,resA,lk];rfl) (by rw[<-uL kn,Hb]) (nr _) (nr _) (fun t ht=>⟨ht,.inl rfl⟩) (outG (by simp)) (by simp)).mono fun v m hq=>?_⟩;exact hq
 .rw[if_neg hb] at hR;have hb':0<=r.bad:=by omega
  subst hR;try (simp[lO kn,hk,hb,hb'])
  repeat ((first|refine sR ?_|refine sC ?_|refine sX ?_);simp[lO kn,hk,hb,hb'])
  refine sT ?_;try simp only[AU]
  refine⟨by simp,(Fin.gen (av:=Fo.av zF) (tok':=tok) (nt':=nt) (by simp[resAs,resA,lk];rfl) Hb (nr _) (nr _) (fun t ht=>⟨ht,.inl rfl⟩) (fun k rows _ h=>.inl h) (by simp[zF,Fo.kind,Fo.name,Fo.kids])).mono fun v m hq=>?_⟩;exact⟨hq.1,by rw[upd_keep hk];exact hq.2⟩
theorem text_size(s:ByteArray)(h:s.size<=20000):(textR s).size<=20000:=by
 unfold textR;split
 .rw[ByteArray.size_extract];omega
 .rw[ByteArray.size_extract];omega
theorem toksF_ok:∀(f:Nat) (s:ByteArray) (line:Int) (out:List Tk),s.size<=20000->(∀t∈out,t.text.size<=20000)->out.length<=4000->(∀t∈(toksF f s line out).1,t.text.size<=20000)/\(toksF f s line out).1.length<=4000
 | 0,s,line,out,hs,ho,hn=>⟨ho,hn⟩
 | f+1,s,line,out,hs,ho,hn=>by
  unfold toksF;repeat' split
  .exact⟨ho,hn⟩
  .exact toksF_ok f _ _ _ (by rw[dropB_size];omega) ho hn
  .exact toksF_ok f _ _ _ (by rw[dropB_size];omega) ho hn
  .exact toksF_ok f _ _ _ (by rw[dropB_size];omega) ho hn
  .exact⟨by simp,by simp⟩
  .exact⟨by simp,by simp⟩
  .refine toksF_ok f _ _ _ (by rw[dropB_size];omega) (fun t ht=>?_) (by simp;omega);rcases List.mem_append.1 ht with ht|ht
   .exact ho t ht
   .simp at ht;rw[ht];exact text_size s hs
theorem toksR_ok(s:ByteArray):(∀t∈(toksR s).1,t.text.size<=20000)/\(toksR s).1.length<=4000:=by
 unfold toksR;split
 .exact⟨by simp,by simp⟩
 .exact toksF_ok _ _ _ _ (by omega) (by simp) (by simp)
@[local simp] theorem to_fy{p q:Nat->Prop}:To p q none nilS (.d (fos [])):=.odsub .emp
theorem formula_bad(L:List Tk):PrdF prog L 112 (pFrm L 0) 0:=by
 intro r h hr ks box hk nb tok nt;have hb:¬r.bad<0:=rem_zero h (by omega)
 have hb':0<=r.bad:=by omega
 show ACalls prog 112 [.ptr ks 0 0] ⟨box,nb,tok,nt⟩ (QRd zF.av (r.row L) ks box nb tok nt)
 refine sI func112 ntmps112 fun Hb Ht=>?_
 have kn:=key_lt Hb hk;try (simp[lO kn,hk,hb,hb'])
 repeat ((first|refine sR ?_|refine sC ?_|refine sX ?_);simp[lO kn,hk,hb,hb'])
 refine sT ?_;try simp only[AU]
 refine⟨by simp,(Fin.gen (av:=Fo.av zF) (tok':=tok) (nt':=nt) (by simp[resAs,resA,lk];rfl) Hb (nr _) (nr _) (fun t ht=>⟨ht,.inl rfl⟩) (fun k rows _ h=>.inl h) (by simp[zF,Fo.kind,Fo.name,Fo.kids])).mono fun v m hq=>?_⟩;exact⟨hq.1,by rw[upd_keep hk];exact hq.2⟩
theorem pF_all(L:List Tk)(hL:L.length<=1000000000)(hT:∀t∈L,t.text.size<=200000000000000):∀n,PrdF prog L 112 (pFrm L n) n
 | 0=>formula_bad L
 | n+1=>formula_of L hL hT (pFrm L n) n (pF_all L hL hT n) (pF_adv L n)
def lineT(L:List Tk)(i:Nat):Int:=match L[i]? with
 | some t=>t.line
 | none=>0
def lineF(L:List Tk)(b:Int):Int:=if L.length=0 then 1 else lineT L (min b ((L.length:Int)-1)).toNat
def badF1(L:List Tk)(r:RqS):Int:=if r.bad<0/\r.at'<L.length then (r.at':Int) else r.bad
def parL(L:List Tk):Fo × Int × Int :=
 if 0<=badF1 L (pFrm L (L.length+1) ⟨0, -1⟩).2 then (zF,lineF L (badF1 L (pFrm L (L.length+1) ⟨0, -1⟩).2),2)
 else if shapeF (pFrm L (L.length+1) ⟨0, -1⟩).1≠0 then (zF,0,shapeF (pFrm L (L.length+1) ⟨0, -1⟩).1) else ((pFrm L (L.length+1) ⟨0, -1⟩).1,0,0)
def parS(s:ByteArray):Fo × Int × Int:=if (toksR s).2.2≠0 then (zF,(toksR s).2.1,(toksR s).2.2) else parL (toksR s).1
set_option maxRecDepth 100000 in
theorem parseT_c(s:ByteArray)(hs:s.size<=200000000000000):DC 48 [Sb s] (.tup [(parS s).1.av,I (parS s).2.1,I (parS s).2.2]):=by
 intro tok nt box nb;have ht:=tokens_c s hs;obtain⟨hT,hL⟩:=toksR_ok s;obtain⟨N,hN⟩:∃N,parS s=N:=⟨_,rfl⟩
 rw[hN];unfold parS at hN;generalize toksR s=K at *;refine sI func48 ntmps48 fun Hb Ht=>?_
 have ht0:=TK.start Ht;repeat first|simp|refine sR ?_
 refine sD (ht _ _) ?_;repeat first|simp|refine sR ?_
 by_cases he:K.2.2=0
 .rw[if_neg (by simp[he])] at hN;have be:(K.2.2 != 0)=false:=by simp[he]
  generalize K.1=L at *;have hT2:∀t∈L,t.text.size<=200000000000000:=fun t h=>by have:=hT t h;omega
  have hr0:(⟨0, -1⟩:RqS).Ok L:=⟨by simp,by simp,by show (-1:Int)<=L.length;omega⟩
  have c1:=pF_all L (by omega) hT2 (L.length+1) ⟨0, -1⟩ hr0 (rem_le L _);have hsz:=(pF_sz (L:=L) (by omega) hT2 (L.length+1)).sz ⟨0, -1⟩ hr0 (rem_le L _);have hsm:=(pF_sz (L:=L) (by omega) hT2 (L.length+1)).sm ⟨0, -1⟩ hr0 (rem_le L _);have hok:=(pF_adv L (L.length+1) ⟨0, -1⟩ hr0).ok;have hrl:=rem_le L ⟨0, -1⟩;unfold parL at hN;obtain⟨f,r,hfr⟩:∃f r,pFrm L (L.length+1) ⟨0, -1⟩=(f,r):=⟨_,_,rfl⟩
  rw[hfr] at c1 hsz hsm hok hN;simp only at c1 hsz hsm hok hN;have hsh:=shapeT_c f (by omega) hsm;simp only[be];try (simp)
  repeat ((first|refine sR ?_|refine sC ?_|refine sX ?_);simp)
  refine Stop.of_a (c1 _ _ (by simp[lb_at,lk]) _ _ _) ?_;rintro v m ⟨rfl,rfl⟩;have hoa:=hok.a;have hob:=hok.c;have hwl:IntKind.i64.wrap ((L.length:Int)-1)=(L.length:Int)-1:=wrap_in (by omega) (by omega)
  have key:∀b:Int,0<=b->0<L.length->∃j:Nat,∃h:j<L.length,min b ((L.length:Int)-1)=(j:Int)/\lineF L b=L[j].line:=by
   intro b h0 h1;refine⟨(min b ((L.length:Int)-1)).toNat,by omega,by omega,?_⟩;unfold lineF lineT;rw[if_neg (by omega),List.getElem?_eq_getElem (show (min b ((L.length:Int)-1)).toNat<L.length by omega)]
  by_cases hb:r.bad<0
  .by_cases hlt:r.at'<L.length
   .have hlt':(r.at':Int)<L.length:=by omega
    have hbf:badF1 L r=(r.at':Int):=by unfold badF1;rw[if_pos ⟨hb,hlt⟩]
    rw[hbf,if_pos (by omega)] at hN;obtain⟨j,hj,hmn,hln⟩:=key r.at' (by omega) (by omega);have hpos:0<L.length:=by omega
    have hpos':(0:Int)<L.length:=by omega
    have hj':(j:Int)<L.length:=by omega
    rw[hln] at hN;subst hN;try (simp[lk,hb,hlt,hlt',hpos,hpos',hwl,hmn,hj,hj'])
    repeat ((first|refine sR ?_|refine sC ?_|refine sX ?_);simp[lk,hb,hlt,hlt',hpos,hpos',hwl,hmn,hj,hj'])
    refine sT (sH Hb Ht ?_);simp[zF,Fo.kind,Fo.name,Fo.kids]
   .have hlt':¬(r.at':Int)<L.length:=by omega
    have hbf:badF1 L r=r.bad:=by unfold badF1;rw[if_neg (fun h=>hlt h.2)]
    have hb':¬0<=r.bad:=by omega
    rw[hbf,if_neg hb'] at hN;try (simp[lk,hb,hlt,hlt',hb'])
    repeat ((first|refine sR ?_|refine sC ?_|refine sX ?_);simp[lk,hb,hlt,hlt',hb'])
    refine sD (hsh _ _) ?_;simp[Fo.cells_eq];by_cases h0:shapeF f=0
    .rw[if_neg (by simp[h0])] at hN;subst hN;have b0:(shapeF f != 0)=false:=by simp[h0]
     try (simp[b0])
     repeat ((first|refine sR ?_|refine sC ?_|refine sX ?_);simp[b0])
     refine sT (sH Hb Ht ?_);simp
    .rw[if_pos h0] at hN;subst hN;have b0:(shapeF f != 0)=true:=by simpa using h0
     try (simp[b0])
     repeat ((first|refine sR ?_|refine sC ?_|refine sX ?_);simp[b0])
     refine sT (sH Hb Ht ?_);simp[zF,Fo.kind,Fo.name,Fo.kids]
  .have hbf:badF1 L r=r.bad:=by unfold badF1;rw[if_neg (fun h=>hb h.1)]
   have hb':0<=r.bad:=by omega
   rw[hbf,if_pos hb'] at hN;by_cases hpos:0<L.length
   .have hpos':(0:Int)<L.length:=by omega
    obtain⟨j,hj,hmn,hln⟩:=key r.bad hb' hpos;have hj':(j:Int)<L.length:=by omega
    rw[hln] at hN;subst hN;try (simp[lk,hb,hb',hpos,hpos',hwl,hmn,hj,hj'])
    repeat ((first|refine sR ?_|refine sC ?_|refine sX ?_);simp[lk,hb,hb',hpos,hpos',hwl,hmn,hj,hj'])
    refine sT (sH Hb Ht ?_);simp[zF,Fo.kind,Fo.name,Fo.kids]
   .have hpos':¬(0:Int)<L.length:=by omega
    have hln:lineF L r.bad=1:=by unfold lineF;rw[if_pos (by omega)]
    rw[hln] at hN;subst hN;try (simp[lk,hb,hb',hpos,hpos'])
    repeat ((first|refine sR ?_|refine sC ?_|refine sX ?_);simp[lk,hb,hb',hpos,hpos'])
    refine sT (sH Hb Ht ?_);simp[zF,Fo.kind,Fo.name,Fo.kids]
 .rw[if_pos he] at hN;have be:(K.2.2 != 0)=true:=by simpa using he
  subst hN;simp only[be];try (simp)
  repeat ((first|refine sR ?_|refine sC ?_|refine sX ?_);simp)
  refine sT (sH Hb Ht ?_);simp[zF,Fo.kind,Fo.name,Fo.kids]
def zG:Fo:=.mk 1 ⟨#[]⟩ []
def frmG(L:List Tk)(F:RqS->Fo × RqS)(r:RqS):Fo × RqS :=
 if r.bad<0 then (if peekB L r sLp=true then listF L F r else if (kindR L r 1).2.bad<0 then wrdF L F (kindR L r 1).1 (kindR L r 1).2 else (zG,(kindR L r 1).2)) else (zG,r)
def pFrmG(L:List Tk):Nat->RqS->Fo × RqS
 | 0,r=>(if r.bad<0 then zF else zG,r)
 | n+1,r=>frmG L (pFrmG L n) r
theorem frmG_adv{L:List Tk}{F:RqS->Fo × RqS}(hF:GoesF L F){r:RqS}(h:r.Ok L):AdvQ L r (frmG L F r).2:=by
 unfold frmG;split
 .split
  .exact(list_adv hF h).adv
  .have h1:=AdvS.kind h 1;split
   .rename_i hb;exact h1.adv.trans (wrd_adv hF _ h1.ok (by have:=h1.lt hb;omega) hb)
   .exact h1.adv
 .exact AdvQ.refl h
theorem pG_adv(L:List Tk):∀n,GoesF L (pFrmG L n)
 | 0,r,h=>AdvQ.refl h
 | n+1,r,h=>frmG_adv (pG_adv L n) h
structure Agr (a b:Fo × RqS):Prop where
 s:a.2=b.2
 f:a.2.bad<0->a.1=b.1
def AgrF(L:List Tk)(F G:RqS->Fo × RqS):Prop:=∀r,RqS.Ok L r->Agr (F r) (G r)
theorem AdvQ.back{L:List Tk}{r r':RqS}(h:AdvQ L r r')(hb:r'.bad<0):r.bad<0:=by
 rcases Int.lt_or_le r.bad 0 with h2|h2
 .exact h2
 .rw[h.bd h2] at hb;omega
theorem more_agr{L:List Tk}{F G:RqS->Fo × RqS}(hF:GoesF L F)(hA:AgrF L F G)(sg:ByteArray):∀(n:Nat) (r:RqS) (l l':List Fo),r.Ok L->(r.bad<0->l=l') ->
  (moreF L F sg n r l).2=(moreF L G sg n r l').2/\((moreF L F sg n r l).2.bad<0->(moreF L F sg n r l).1=(moreF L G sg n r l').1)
 | 0,r,l,l',h,hl=>⟨rfl,hl⟩
 | n+1,r,l,l',h,hl=>by
  unfold moreF;split
  .rename_i hp;have h1:=(peek_at h hp).adv;have ha:=hA _ h1.ok;have h2:=hF _ h1.ok;rw[<-ha.s];exact more_agr hF hA sg n _ _ _ h2.ok fun hb=>by rw[hl (h1.back (h2.back hb)),ha.f hb]
  .exact⟨rfl,hl⟩
theorem lst_agr{L:List Tk}{F G:RqS->Fo × RqS}(hF:GoesF L F)(hA:AgrF L F G)(k:Int)(sg:ByteArray){a b a' b':Fo × RqS}(ho:b.2.Ok L)(hb:Agr b b')(hab:b.2.bad<0->a.1=a'.1):Agr (lstF L F k sg a b) (lstF L G k sg a' b'):=by
 have hm:=more_agr hF hA sg (L.length+1) b.2 [a.1,b.1] [a'.1,b'.1] ho (fun h=>by rw[hab h,hb.f h]);have hok:=(more_adv hF sg (L.length+1) b.2 [a.1,b.1] ho).ok;unfold lstF;rw[<-hb.s];constructor
 .simp only;rw[hm.1]
 .intro h;have h2:=(AdvS.take hok sRp).adv.back h;simp only;rw[hm.2 h2]
theorem list_agr{L:List Tk}{F G:RqS->Fo × RqS}(hF:GoesF L F)(hA:AgrF L F G){r:RqS}(h:r.Ok L):Agr (listF L F r) (listF L G r):=by
 have h1:=(AdvS.take h sLp).adv;have a1:=hA _ h1.ok;have h2:=hF _ h1.ok;unfold listF;rw[<-a1.s];split
 .have h3:=(AdvS.take h2.ok sBr).adv;have a3:=hA _ h3.ok;have h4:=hF _ h3.ok;exact lst_agr hF hA _ _ h4.ok a3 fun hb=>a1.f (h3.back (h4.back hb))
 .have h3:=(AdvS.take h2.ok sAm).adv;have a3:=hA _ h3.ok;have h4:=hF _ h3.ok;exact lst_agr hF hA _ _ h4.ok a3 fun hb=>a1.f (h3.back (h4.back hb))
theorem unt_agr{L:List Tk}{F G:RqS->Fo × RqS}(hF:GoesF L F)(hA:AgrF L F G)(k:Int){r:RqS}(h:r.Ok L):Agr (untF L F k r) (untF L G k r):=by
 have h1:=(AdvS.take h sLp).adv;have a1:=hA _ h1.ok;have h2:=hF _ h1.ok;have h3:=(AdvS.take h2.ok wU).adv;have a3:=hA _ h3.ok;have h4:=hF _ h3.ok;unfold untF;rw[<-a1.s,<-a3.s];refine⟨rfl,fun hb=>?_⟩;have b4:=(AdvS.take h4.ok sRp).adv.back hb;simp only;rw[a3.f b4,a1.f (h3.back (h4.back b4))]
theorem wrd_agr{L:List Tk}{F G:RqS->Fo × RqS}(hF:GoesF L F)(hA:AgrF L F G)(s:ByteArray){r:RqS}(h:r.Ok L):Agr (wrdF L F s r) (wrdF L G s r):=by
 unfold wrdF;split
 .have a:=hA _ h;refine⟨a.s,fun hb=>?_⟩;simp only;rw[a.f hb]
 .split
  .exact unt_agr hF hA 8 h
  .split
   .exact unt_agr hF hA 12 h
   .split
    .exact⟨rfl,fun _=>rfl⟩
    .exact⟨rfl,fun _=>rfl⟩
theorem frm_agr{L:List Tk}{F G:RqS->Fo × RqS}(hF:GoesF L F)(hA:AgrF L F G):AgrF L (frmF L F) (frmG L G):=by
 intro r h;unfold frmF frmG;split
 .split
  .exact list_agr hF hA h
  .have h1:=AdvS.kind h 1;split
   .exact wrd_agr hF hA _ h1.ok
   .rename_i hb;exact⟨rfl,fun hb2=>absurd hb2 hb⟩
 .rename_i hb;exact⟨rfl,fun hb2=>absurd hb2 hb⟩
theorem p_agr(L:List Tk):∀n,AgrF L (pFrm L n) (pFrmG L n)
 | 0,r,h=>⟨rfl,fun hb=>by
  have hb:r.bad<0:=hb
  show zF=(if r.bad<0 then zF else zG)
  rw[if_pos hb]⟩
 | n+1,r,h=>frm_agr (pF_adv L n) (p_agr L n) r h
def TkL(L:List Tk):Prop:=∀t∈L,(1<=t.kind/\t.kind<=4)/\(t.kind=1->letB (byteAt t.text 0)=true)/\(t.kind=4->letB (byteAt t.text 0)=false)
theorem text_let{s:ByteArray}(h1:1<=s.size)(he:(nextR s).2.2=0):((nextR s).1=1->letB (byteAt (textR s) 0)=true)/\((nextR s).1=4->letB (byteAt (textR s) 0)=false):=by
 have hr:=nextR_rng h1 he;have hb:(nextR s).1≠3->byteAt (textR s) 0=byteAt s 0:=fun h3=>by
  have ht:textR s=s.extract 0 (nextR s).2.1.toNat:=by unfold textR;rw[if_neg h3]
  have h2:(s.extract 0 (nextR s).2.1.toNat).data.toList=s.data.toList.take (nextR s).2.1.toNat:=by rw[ba_cut];simp
  have h4:0<(nextR s).2.1.toNat:=by omega
  rw[ht];simp only[byteAt,h2,List.getD_eq_getElem?_getD,List.getElem?_take,if_pos h4]
 refine⟨fun hk=>?_,fun hk=>?_⟩
 .rw[hb (by omega)];unfold nextR at hk;by_cases e1:letB (byteAt s 0)=true
  .exact e1
  .rw[if_neg e1] at hk;repeat' split at hk
   all_goals simp at hk
 .rw[hb (by omega)];unfold nextR at hk;by_cases e1:letB (byteAt s 0)=true
  .rw[if_pos e1] at hk;split at hk<;>simp at hk
  .simpa using e1
theorem toksF_let:∀(f:Nat) (s:ByteArray) (line:Int) (out:List Tk),TkL out->TkL (toksF f s line out).1
 | 0,s,line,out,ho=>ho
 | f+1,s,line,out,ho=>by
  unfold toksF;repeat' split
  .exact ho
  .exact toksF_let f _ _ _ ho
  .exact toksF_let f _ _ _ ho
  .exact toksF_let f _ _ _ ho
  .intro t ht;simp at ht
  .intro t ht;simp at ht
  .rename_i h0 _ _ _ he _;have he':(nextR s).2.2=0:=Decidable.not_not.1 he
   have hr:=nextR_rng (s:=s) (by omega) he';refine toksF_let f _ _ _ (fun t ht=>?_);rcases List.mem_append.1 ht with ht|ht
   .exact ho t ht
   .simp at ht;rw[ht];exact⟨hr.2.2.2,text_let (by omega) he'⟩
theorem toksR_let(s:ByteArray):TkL (toksR s).1:=by
 unfold toksR;split
 .intro t ht;simp at ht
 .exact toksF_let _ _ _ _ (fun t ht=>by simp at ht)
def WdK(s:ByteArray)(k:Int):Prop:=(k=4/\letB (byteAt s 0)=false)∨(k=1/\letB (byteAt s 0)=true)
theorem isAt_k{L:List Tk}(hK:TkL L){s:ByteArray}{k:Int}(hs:WdK s k){i:Nat}(h:i<L.length):isAt L i s=(decide (L[i].kind=k)&&decide (L[i].text=s)):=by
 rw[isAt_some h];obtain⟨⟨k1,k2⟩,k3,k4⟩:=hK L[i] (List.getElem_mem h);generalize L[i]=t at *;by_cases e:t.text=s
 .rw[e] at k3 k4;rw[Bool.eq_iff_iff];simp[e];rcases hs with ⟨rfl,hs⟩|⟨rfl,hs⟩
  .constructor
   .rintro(h1|h1)
    .rw[k3 h1] at hs;cases hs
    .exact h1
   .exact fun h1=>.inr h1
  .constructor
   .rintro(h1|h1)
    .exact h1
    .rw[k4 h1] at hs;cases hs
   .exact fun h1=>.inl h1
 .simp[e]
abbrev RqS.rowR(L:List Tk)(r:RqS):List AV:=[.d (tks L),I (if r.bad<0 then (r.at':Int) else r.bad),B (decide (0<=r.bad))]
theorem fail_row(L:List Tk)(r:RqS):(failR r).rowR L=[.d (tks L),I (if r.bad<0 then (r.at':Int) else r.bad),B true]:=by
 unfold failR;by_cases hb:r.bad<0
 .rw[if_pos hb];simp[hb]
 .rw[if_neg hb];simp[hb];omega
set_option maxRecDepth 100000 in
theorem is50_c(L:List Tk)(hK:TkL L)(r:RqS)(h:r.Ok L)(s:ByteArray)(k:Int)(hs:WdK s k)(ks:Nat)(box:Bxs)(hk:box ks=some [r.rowR L])(nb:Nat)(tok:Tks)(nt:Nat):
  ACalls prog 192 [.ptr ks 0 0,I k,Sb s] ⟨box,nb,tok,nt⟩ fun v m=>v=B (peekB L r s)/\m=⟨box,nb,tok,nt⟩:=by
 refine sI func192 ntmps192 fun Hb Ht=>?_
 have kn:=key_lt Hb hk;by_cases hb:r.bad<0
 .have hb0:decide (0<=r.bad)=false:=by simp;omega
  by_cases hlt:r.at'<L.length
  .have hlt':(r.at':Int)<L.length:=by omega
   have hp:peekB L r s=(decide (L[r.at'].kind=k)&&decide (L[r.at'].text=s)):=by simp[peekB,hb,isAt_k hK hs hlt]
   have hsq:=seq_dec L[r.at'].text s;by_cases e2:L[r.at'].kind=k
   .have b2:(L[r.at'].kind==k)=true:=by simp[e2]
    try (simp[lO kn,hk,hb,hb0,hlt,hlt',b2])
    repeat ((first|refine sR ?_|refine sC ?_|refine sX ?_);simp[lO kn,hk,hb,hb0,hlt,hlt',b2])
    refine sT (sH Hb Ht ?_);simp[hp,e2,hsq]
   .have b2:(L[r.at'].kind==k)=false:=by simp[e2]
    try (simp[lO kn,hk,hb,hb0,hlt,hlt',b2])
    repeat ((first|refine sR ?_|refine sC ?_|refine sX ?_);simp[lO kn,hk,hb,hb0,hlt,hlt',b2])
    refine sT (sH Hb Ht ?_);simp[hp,e2]
  .have hlt':¬(r.at':Int)<L.length:=by omega
   have hp:peekB L r s=false:=by simp[peekB,isAt_none hlt]
   try (simp[lO kn,hk,hb,hb0,hlt'])
   repeat ((first|refine sR ?_|refine sC ?_|refine sX ?_);simp[lO kn,hk,hb,hb0,hlt'])
   refine sT (sH Hb Ht ?_);simp[hp]
 .have hb0:decide (0<=r.bad)=true:=by simp;omega
  have hp:peekB L r s=false:=by simp[peekB,hb]
  try (simp[lO kn,hk,hb,hb0])
  repeat ((first|refine sR ?_|refine sC ?_|refine sX ?_);simp[lO kn,hk,hb,hb0])
  refine sT (sH Hb Ht ?_);simp[hp]
set_option maxRecDepth 100000 in
theorem take50_c(L:List Tk)(hK:TkL L)(r:RqS)(h:r.Ok L)(hL:L.length<=200000000000000)(s:ByteArray)(k:Int)(hs:WdK s k)(h0:s≠⟨#[]⟩)(ks:Nat)(box:Bxs)(hk:box ks=some [r.rowR L])(nb:Nat)(tok:Tks)(nt:Nat):
  ACalls prog 194 [.ptr ks 0 0,I k,Sb s] ⟨box,nb,tok,nt⟩ (QRd (Sb (if peekB L r s=true then s else ⟨#[]⟩)) ((takeR L r s).rowR L) ks box nb tok nt):=by
 have ha:=h.a;have hrow:=fail_row L r;have hs1:s.toList.isEmpty=false:=by simpa using fun h=>h0 (nm_nil.1 h)
 have hs2:¬s.toList=[]:=fun h=>h0 (nm_nil.1 h)
 refine sI func194 ntmps194 fun Hb Ht=>?_
 have kn:=key_lt Hb hk;have hw:IntKind.i64.wrap ((r.at':Int)+1)=((r.at'+1:Nat):Int):=by rw[wrap_in (by omega) (by omega)];rfl
 have hw2:IntKind.i64.wrap (r.at':Int)=(r.at':Int):=wrap_in (by omega) (by omega)
 by_cases hb:r.bad<0
 .have hb0:decide (0<=r.bad)=false:=by simp;omega
  rw[if_pos hb] at hrow;by_cases hlt:r.at'<L.length
  .have hlt':¬(L.length:Int)<=r.at':=by omega
   have hlt2:(r.at':Int)<L.length:=by omega
   have hp:peekB L r s=(decide (L[r.at'].kind=k)&&decide (L[r.at'].text=s)):=by simp[peekB,hb,isAt_k hK hs hlt]
   have hsq:=seq_dec L[r.at'].text s;by_cases e1:L[r.at'].kind=k
   .have b1:(L[r.at'].kind != k)=false:=by simp[e1]
    by_cases e2:L[r.at'].text=s
    .have hp1:peekB L r s=true:=by rw[hp];simp[e1,e2]
     have hd:decide (L[r.at'].text=s)=true:=by simp[e2]
     rw[hd] at hsq;have hsn:L[r.at'].text.toList=s.toList:=by rw[e2]
     have ht:takeR L r s=⟨r.at'+1,r.bad⟩:=by simp[takeR,hp1]
     try (simp[lO kn,hk,hb,hb0,hlt,hlt',hlt2,b1,hs1,hs2,hsn,uL kn,uS,hw,hw2])
     repeat ((first|refine sR ?_|refine sC ?_|refine sX ?_);simp[lO kn,hk,hb,hb0,hlt,hlt',hlt2,b1,hs1,hs2,hsn,uL kn,uS,hw,hw2])
     refine sT ?_;try simp only[AU]
     refine⟨by simp,(Fin.gen (av:=Sb L[r.at'].text) (tok':=tok) (nt':=nt) (by simp[resAs,resA,lk];rfl) (by rw[<-uL kn,Hb]) (nr _) (nr _) (fun t ht=>⟨ht,.inl rfl⟩) (outG (by simp)) (by simp)).mono fun v m hq=>?_⟩;exact⟨by rw[if_pos hp1,<-e2];exact hq.1,by rw[ht];simp only[RqS.rowR,hb,if_true,hb0];exact hq.2⟩
    .have hp1:peekB L r s=false:=by rw[hp];simp[e2]
     have hd:decide (L[r.at'].text=s)=false:=by simp[e2]
     rw[hd] at hsq;have hsn:¬L[r.at'].text.toList=s.toList:=fun h=>e2 (seq_iff.1 h)
     have ht:takeR L r s=failR r:=by simp[takeR,hp1]
     try (simp[lO kn,hk,hb,hb0,hlt,hlt',hlt2,b1,hs1,hs2,hsn,uL kn,uS])
     repeat ((first|refine sR ?_|refine sC ?_|refine sX ?_);simp[lO kn,hk,hb,hb0,hlt,hlt',hlt2,b1,hs1,hs2,hsn,uL kn,uS])
     refine sT ?_;try simp only[AU]
     refine⟨by simp,(Fin.gen (av:=Sb ⟨#[]⟩) (tok':=tok) (nt':=nt) (by simp[resAs,resA,lk];rfl) (by rw[<-uL kn,Hb]) (nr _) (nr _) (fun t ht=>⟨ht,.inl rfl⟩) (outG (by simp)) (by simp)).mono fun v m hq=>?_⟩;exact⟨by rw[if_neg (by simp[hp1])];exact hq.1,by rw[ht,hrow];exact hq.2⟩
   .have b1:(L[r.at'].kind != k)=true:=by simp[e1]
    have hp1:peekB L r s=false:=by rw[hp];simp[e1]
    have ht:takeR L r s=failR r:=by simp[takeR,hp1]
    try (simp[lO kn,hk,hb,hb0,hlt,hlt',hlt2,b1,uL kn,uS])
    repeat ((first|refine sR ?_|refine sC ?_|refine sX ?_);simp[lO kn,hk,hb,hb0,hlt,hlt',hlt2,b1,uL kn,uS])
    refine sT ?_;try simp only[AU]
    refine⟨by simp,(Fin.gen (av:=Sb ⟨#[]⟩) (tok':=tok) (nt':=nt) (by simp[resAs,resA,lk];rfl) (by rw[<-uL kn,Hb]) (nr _) (nr _) (fun t ht=>⟨ht,.inl rfl⟩) (outG (by simp)) (by simp)).mono fun v m hq=>?_⟩;exact⟨by rw[if_neg (by simp[hp1])];exact hq.1,by rw[ht,hrow];exact hq.2⟩
  .have hlt':(L.length:Int)<=r.at':=by omega
   have hp1:peekB L r s=false:=by simp[peekB,isAt_none hlt]
   have ht:takeR L r s=failR r:=by simp[takeR,hp1]
   try (simp[lO kn,hk,hb,hb0,hlt',uL kn,uS])
   repeat ((first|refine sR ?_|refine sC ?_|refine sX ?_);simp[lO kn,hk,hb,hb0,hlt',uL kn,uS])
   refine sT ?_;try simp only[AU]
   refine⟨by simp,(Fin.gen (av:=Sb ⟨#[]⟩) (tok':=tok) (nt':=nt) (by simp[resAs,resA,lk];rfl) (by rw[<-uL kn,Hb]) (nr _) (nr _) (fun t ht=>⟨ht,.inl rfl⟩) (outG (by simp)) (by simp)).mono fun v m hq=>?_⟩;exact⟨by rw[if_neg (by simp[hp1])];exact hq.1,by rw[ht,hrow];exact hq.2⟩
 .have hb0:decide (0<=r.bad)=true:=by simp;omega
  rw[if_neg hb] at hrow;have hp1:peekB L r s=false:=by simp[peekB,hb]
  have ht:takeR L r s=failR r:=by simp[takeR,hp1]
  try (simp[lO kn,hk,hb,hb0,uL kn,uS])
  repeat ((first|refine sR ?_|refine sC ?_|refine sX ?_);simp[lO kn,hk,hb,hb0,uL kn,uS])
  refine sT ?_;try simp only[AU]
  refine⟨by simp,(Fin.gen (av:=Sb ⟨#[]⟩) (tok':=tok) (nt':=nt) (by simp[resAs,resA,lk];rfl) (by rw[<-uL kn,Hb]) (nr _) (nr _) (fun t ht=>⟨ht,.inl rfl⟩) (outG (by simp)) (by simp)).mono fun v m hq=>?_⟩;exact⟨by rw[if_neg (by simp[hp1])];exact hq.1,by rw[ht,hrow];exact hq.2⟩
set_option maxRecDepth 100000 in
theorem word50_c2(L:List Tk)(r:RqS)(h:r.Ok L)(hL:L.length<=200000000000000)(ks:Nat)(box:Bxs)(hk:box ks=some [r.rowR L])(nb:Nat)(tok:Tks)(nt:Nat):
  ACalls prog 194 [.ptr ks 0 0,I 1,Sb ⟨#[]⟩] ⟨box,nb,tok,nt⟩ (QRd (Sb (kindR L r 1).1) ((kindR L r 1).2.rowR L) ks box nb tok nt):=by
 have ha:=h.a;have hrow:=fail_row L r;refine sI func194 ntmps194 fun Hb Ht=>?_
 have kn:=key_lt Hb hk;have hw:IntKind.i64.wrap ((r.at':Int)+1)=((r.at'+1:Nat):Int):=by rw[wrap_in (by omega) (by omega)];rfl
 have hw2:IntKind.i64.wrap (r.at':Int)=(r.at':Int):=wrap_in (by omega) (by omega)
 by_cases hb:r.bad<0
 .have hb0:decide (0<=r.bad)=false:=by simp;omega
  rw[if_pos hb] at hrow;by_cases hlt:r.at'<L.length
  .have hlt':¬(L.length:Int)<=r.at':=by omega
   have hlt2:(r.at':Int)<L.length:=by omega
   have hp:kindB L r 1=decide (L[r.at'].kind=1):=by simp[kindB,hb,kindAt_some hlt]
   by_cases e1:L[r.at'].kind=1
   .have b1:(L[r.at'].kind != 1)=false:=by simp[e1]
    have ht:kindR L r 1=(L[r.at'].text,⟨r.at'+1,r.bad⟩):=by simp[kindR,hp,e1,textAt_some hlt]
    try (simp[lO kn,hk,hb,hb0,hlt,hlt',hlt2,b1,uL kn,uS,hw,hw2])
    repeat ((first|refine sR ?_|refine sC ?_|refine sX ?_);simp[lO kn,hk,hb,hb0,hlt,hlt',hlt2,b1,uL kn,uS,hw,hw2])
    refine sT ?_;try simp only[AU]
    refine⟨by simp,(Fin.gen (av:=Sb L[r.at'].text) (tok':=tok) (nt':=nt) (by simp[resAs,resA,lk];rfl) (by rw[<-uL kn,Hb]) (nr _) (nr _) (fun t ht=>⟨ht,.inl rfl⟩) (outG (by simp)) (by simp)).mono fun v m hq=>?_⟩;exact⟨by rw[ht];exact hq.1,by rw[ht];simp only[RqS.rowR,hb,if_true,hb0];exact hq.2⟩
   .have b1:(L[r.at'].kind != 1)=true:=by simp[e1]
    have ht:kindR L r 1=(⟨#[]⟩,failR r):=by simp[kindR,hp,e1]
    try (simp[lO kn,hk,hb,hb0,hlt,hlt',hlt2,b1,uL kn,uS])
    repeat ((first|refine sR ?_|refine sC ?_|refine sX ?_);simp[lO kn,hk,hb,hb0,hlt,hlt',hlt2,b1,uL kn,uS])
    refine sT ?_;try simp only[AU]
    refine⟨by simp,(Fin.gen (av:=Sb ⟨#[]⟩) (tok':=tok) (nt':=nt) (by simp[resAs,resA,lk];rfl) (by rw[<-uL kn,Hb]) (nr _) (nr _) (fun t ht=>⟨ht,.inl rfl⟩) (outG (by simp)) (by simp)).mono fun v m hq=>?_⟩;exact⟨by rw[ht];exact hq.1,by rw[ht,hrow];exact hq.2⟩
  .have hlt':(L.length:Int)<=r.at':=by omega
   have ht:kindR L r 1=(⟨#[]⟩,failR r):=by simp[kindR,kindB,kindAt_none hlt]
   try (simp[lO kn,hk,hb,hb0,hlt',uL kn,uS])
   repeat ((first|refine sR ?_|refine sC ?_|refine sX ?_);simp[lO kn,hk,hb,hb0,hlt',uL kn,uS])
   refine sT ?_;try simp only[AU]
   refine⟨by simp,(Fin.gen (av:=Sb ⟨#[]⟩) (tok':=tok) (nt':=nt) (by simp[resAs,resA,lk];rfl) (by rw[<-uL kn,Hb]) (nr _) (nr _) (fun t ht=>⟨ht,.inl rfl⟩) (outG (by simp)) (by simp)).mono fun v m hq=>?_⟩;exact⟨by rw[ht];exact hq.1,by rw[ht,hrow];exact hq.2⟩
 .have hb0:decide (0<=r.bad)=true:=by simp;omega
  have ht:kindR L r 1=(⟨#[]⟩,failR r):=by simp[kindR,kindB,hb]
  rw[if_neg hb] at hrow;try (simp[lO kn,hk,hb,hb0,uL kn,uS])
  repeat ((first|refine sR ?_|refine sC ?_|refine sX ?_);simp[lO kn,hk,hb,hb0,uL kn,uS])
  refine sT ?_;try simp only[AU]
  refine⟨by simp,(Fin.gen (av:=Sb ⟨#[]⟩) (tok':=tok) (nt':=nt) (by simp[resAs,resA,lk];rfl) (by rw[<-uL kn,Hb]) (nr _) (nr _) (fun t ht=>⟨ht,.inl rfl⟩) (outG (by simp)) (by simp)).mono fun v m hq=>?_⟩;exact⟨by rw[ht];exact hq.1,by rw[ht,hrow];exact hq.2⟩
theorem wk_Lp:WdK sLp 4:=.inl ⟨rfl,by decide⟩
theorem wk_Rp:WdK sRp 4:=.inl ⟨rfl,by decide⟩
theorem wk_Am:WdK sAm 4:=.inl ⟨rfl,by decide⟩
theorem wk_Br:WdK sBr 4:=.inl ⟨rfl,by decide⟩
theorem wk_U:WdK wU 1:=.inr ⟨rfl,by decide⟩
def PrdR(P:Program)(L:List Tk)(f:FuncId)(F:RqS->Fo × RqS)(n:Nat):Prop:=∀r:RqS,r.Ok L->rem L r<=n->∀(ks:Nat) (box:Bxs),box ks=some [r.rowR L]->∀(nb:Nat) (tok:Tks) (nt:Nat),
 ACalls P f [.ptr ks 0 0] ⟨box,nb,tok,nt⟩ (QRd (F r).1.av ((F r).2.rowR L) ks box nb tok nt)
def conF(L:List Tk)(F:RqS->Fo × RqS)(r:RqS):Fo × RqS :=
 if peekB L (F r).2 sBr=true then lstF L F 4 sBr (F r) (F (takeR L (F r).2 sBr)) else lstF L F 3 sAm (F r) (F (takeR L (F r).2 sAm))
theorem list_con(L:List Tk)(F:RqS->Fo × RqS)(r:RqS):listF L F r=conF L F (takeR L r sLp):=rfl
def stCn(L:List Tk)(k:Int)(sg:ByteArray)(ks nb:Nat)(box:Bxs)(x:AccFo):AS :=
 ⟨tl [(4,Sb sg),(3,.ptr (nb+3) 0 0),(2,.ptr (nb+2) 0 0),(0,.ptr ks 0 0)],lb nb (upd box ks (some [x.r.rowR L])) [(3,[[I k,Sb ⟨#[]⟩,.osl 3 (x.l.map Fo.cells) x.own]]),(2,[zRowF])],x.tok,x.nt⟩
set_option maxRecDepth 100000 in
theorem con_of(L:List Tk)(hK:TkL L)(hL:L.length<=1000000000)(F:RqS->Fo × RqS)(n:Nat)(hF:PrdR prog L 114 F n)(hG:GoesF L F):∀r:RqS,r.Ok L->rem L r<=n->∀(ks:Nat) (box:Bxs),box ks=some [r.rowR L]->∀(nb:Nat) (tok:Tks) (nt:Nat),
  ACalls prog 193 [.ptr ks 0 0] ⟨box,nb,tok,nt⟩ (QRd (conF L F r).1.av ((conF L F r).2.rowR L) ks box nb tok nt):=by
 intro r h hr ks box hk nb tok nt;have a2:=hG r h;have c1:=hF r h hr ks;obtain⟨R,hR⟩:∃R,conF L F r=R:=⟨_,rfl⟩
 rw[hR];unfold conF at hR;obtain⟨c0,r2,hc0⟩:∃c0 r2,F r=(c0,r2):=⟨_,_,rfl⟩
 rw[hc0] at c1 a2 hR;simp only at c1 a2 hR;have hrem2:=rem_adv a2;have pk:=is50_c L hK r2 a2.ok sBr 4 wk_Br ks;refine sI func193 ntmps193 fun Hb Ht=>?_
 have kn:=key_lt Hb hk;have ht0:=TK.start Ht;have hne3:nb+3≠ks:=by omega
 try (simp)
 repeat ((first|refine sR ?_|refine sC ?_|refine sX ?_);simp)
 refine Stop.of_a (c1 _ (by simp only;rw[lO kn];exact hk) _ _ _) ?_;rintro v m ⟨rfl,rfl⟩;obtain⟨sg,k,hsk,hwk,hne⟩:∃sg k,(if peekB L r2 sBr=true then (sBr,(4:Int)) else (sAm,3))=(sg,k)/\WdK sg 4/\sg≠⟨#[]⟩:=by
  cases peekB L r2 sBr
  .exact⟨sAm,3,rfl,wk_Am,by decide⟩
  .exact⟨sBr,4,rfl,wk_Br,by decide⟩
 have hR2:lstF L F k sg (c0,r2) (F (takeR L r2 sg))=R:=by
  cases hp:peekB L r2 sBr
  .rw[hp] at hsk hR;simp at hsk hR;rw[<-hsk.1,<-hsk.2];exact hR
  .rw[hp] at hsk hR;simp at hsk hR;rw[<-hsk.1,<-hsk.2];exact hR
 simp[uL kn,upd_upd];refine sR ?_;simp;refine AL.seq ?_;refine AL.mid ⟨tl [(4,Sb sg),(3,.ptr (nb+3) 0 0),(2,.ptr (nb+2) 0 0),(0,.ptr ks 0 0)],lb nb (upd box ks (some [r2.rowR L])) [(3,[[I k,Sb ⟨#[]⟩,.osl 3 [c0.cells] .full]]),(2,[zRowF])],tok,nt⟩ ?_ ?_
 .try (simp)
  repeat ((first|refine sR ?_|refine sC ?_|refine sX ?_);simp)
  refine Stop.of_a (pk _ (by simp only;rw[lO kn,uS]) _ _ _) ?_;rintro v m ⟨rfl,rfl⟩;cases hp:peekB L r2 sBr
  .rw[hp] at hsk;simp at hsk;obtain⟨rfl,rfl⟩:=hsk;try (simp[hp])
   repeat ((first|refine sR ?_|refine sC ?_|refine sX ?_);simp[hp])
   refine sE ?_;exact Weaks.mk' (nr _) (by simp[ToL,lk,Fo.cells_eq,sAm,sBr];exact to_ptr (by rw[lO kn,uS];simp)) (by simp[BoxL,lk,Fo.cells_eq]) (outG (by simp))
  .rw[hp] at hsk;simp at hsk;obtain⟨rfl,rfl⟩:=hsk;try (simp[hp])
   repeat ((first|refine sR ?_|refine sC ?_|refine sX ?_);simp[hp])
   refine sE ?_;exact Weaks.mk' (nr _) (by simp[ToL,lk,Fo.cells_eq,sAm,sBr];exact to_ptr (by rw[lO kn,uS];simp)) (by simp[BoxL,lk,Fo.cells_eq]) (outG (by simp))
 .clear hsk hR;have t3:=take50_c L hK r2 a2.ok (by omega) sg 4 hwk hne ks;have a3:=(AdvS.take a2.ok sg).adv;have hrem3:=rem_adv a3;have c3:=hF _ a3.ok (by omega) ks;have a4:=hG _ a3.ok;generalize takeR L r2 sg=r3 at *;obtain⟨c1',r4,hc1⟩:∃c1' r4,F r3=(c1',r4):=⟨_,_,rfl⟩
  rw[hc1] at c3 a4 hR2;simp only at c3 a4;have hrem4:=rem_adv a4;obtain⟨M,hM⟩:∃M,moreF L F sg (L.length+1) r4 [c0,c1']=M:=⟨_,rfl⟩
  unfold lstF at hR2;simp only at hR2;rw[hM] at hR2;subst hR2;have hrl:=rem_le L r4;try (simp)
  repeat ((first|refine sR ?_|refine sC ?_|refine sX ?_);simp)
  refine Stop.of_a (t3 _ (by simp only;rw[lO kn,uS]) _ _ _) ?_;rintro v m ⟨rfl,rfl⟩;simp[uL kn,upd_upd];refine sN ?_;refine AL.region3 follows_Tryz (nr _) (by kernel_rfl) (Side.of (by simp)) [(Operand.tmp 15,Operand.tmp 17)] (by kernel_rfl) ?_;simp[lO kn,uL kn,uS];refine StopW.of_w rfl rfl (by simp only;rw[lO kn,uS];simp) (fun box' nb' hb'=>(c3 box' (by rw[hb'];simp only;rw[lO kn,uS]) nb' tok nt).mono fun v m1 hq=>⟨hq.1,hq.2⟩) ?_;simp[lO kn,uL kn,uS,upd_upd,NK,hne3];refine sN ?_;refine sL (stCn L k sg ks nb box) (LInv L F n sg M tok nt) (fun x=>x.f) ⟨r4,[c0,c1'],.tok nt,upd tok nt true,nt+1,L.length+1⟩ (LInv.of a4.ok (by omega) (by omega) hM (by simp;omega) ht0.full.app)
   (Weaks.mk' (by omega) (by simp[ToL,lk,Fo.cells_eq];exact to_ptr (by rw[lO kn,uS];simp)) (by simp[BoxL,lk,Fo.cells_eq]) (outG (by simp))) ?_
  clear hM;rintro⟨r,l,own,tok1,nt1,f⟩ S hinv hS;obtain⟨ho,hn1,hf,he,hl,htk⟩:=hinv;simp only[stCn] at hS ho hn1 hf he hl htk ⊢;subst hS;have pk2:=is50_c L hK r ho sg 4 hwk ks;try (simp)
  repeat ((first|refine sR ?_|refine sC ?_|refine sX ?_);simp)
  refine Stop.of_a (pk2 _ (by simp only;rw[lO kn,uS]) _ _ _) ?_;rintro v m ⟨rfl,rfl⟩;cases hp:peekB L r sg
  .have he2:moreF L F sg f r l=(l,r):=by
    cases f with
    | zero=>rfl
    | succ f=>rw[moreF,if_neg (by simp[hp])]
   rw[he2] at he;subst he;have t5:=take50_c L hK r ho (by omega) sRp 4 wk_Rp (by decide) ks;try (simp[hp])
   repeat ((first|refine sR ?_|refine sC ?_|refine sX ?_);simp[hp])
   refine Stop.of_a (t5 _ (by simp only;rw[lO kn,uS]) _ _ _) ?_;rintro v m ⟨rfl,rfl⟩;try (simp[uL kn,upd_upd])
   repeat ((first|refine sR ?_|refine sC ?_|refine sX ?_);simp[uL kn,upd_upd])
   refine sT ?_;try simp only[AU]
   refine⟨by simp,(Fin.gen (av:=Fo.av (.mk k ⟨#[]⟩ l)) (tok':=tok) (nt':=nt) (by simp[resAs,resA,lk];rfl) (by rw[<-uL kn,Hb]) (nr _) htk.le (fun t ht=>⟨htk.old t ht,.inr (Ht t ht)⟩) (outG (by simp)) (by simp[Fo.kind,Fo.name,Fo.kids])).mono fun v m hq=>?_⟩;exact hq
  .have hb:r.bad<0:=by unfold peekB at hp;simp only[Bool.and_eq_true,decide_eq_true_eq] at hp;exact hp.1
   have a5:=peek_at ho hp;have hlt:=rem_advS a5 hb ho;obtain⟨f,rfl⟩:∃f',f=f'+1:=⟨f-1,by omega⟩
   rw[moreF,if_pos hp] at he;have c5:=hF _ a5.ok (by omega) ks;have a6:=hG _ a5.ok;have hrem6:=rem_adv a6;have hat:=ho.a;have hw:IntKind.i64.wrap ((r.at':Int)+1)=((r.at'+1:Nat):Int):=by rw[wrap_in (by omega) (by omega)];rfl
   have hb0:decide (0<=r.bad)=false:=by simp;omega
   obtain⟨c7,r7,hc7⟩:∃c7 r7,F ⟨r.at'+1,r.bad⟩=(c7,r7):=⟨_,_,rfl⟩
   rw[hc7] at c5 a6 hrem6 he;simp only at c5 a6 hrem6 he;have hrow:RqS.rowR L ⟨r.at'+1,r.bad⟩=[.d (tks L),I ((r.at':Int)+1),B false]:=by simp[RqS.rowR,hb,hb0]
   simp[hp];refine sC ?_;simp;refine sR ?_;simp[lO kn,uS,uL kn,upd_upd,hb,hb0,hw];refine sN ?_;refine AL.region3 follows_Tryz (nr _) (by kernel_rfl) (Side.of (by simp)) [(Operand.tmp 32,Operand.tmp 34)] (by kernel_rfl) ?_;simp[lO kn,uL kn,uS];refine StopW.of_w rfl rfl (by simp only;rw[lO kn,uS];simp) (fun box' nb' hb'=>(c5 box' (by rw[hb',hrow];simp only;rw[lO kn,uS]) nb' tok1 nt1).mono fun v m1 hq=>⟨hq.1,hq.2⟩) ?_;simp[lO kn,uL kn,uS,upd_upd,NK,hne3];refine⟨⟨by omega,htk.live⟩,?_⟩;try (simp)
   repeat ((first|refine sR ?_|refine sC ?_|refine sX ?_);simp)
   refine sE ?_;refine⟨⟨r7,l++[c7],.tok nt1,upd (own.kill tok1) nt1 true,nt1+1,f⟩,LInv.of a6.ok (by omega) (by omega) he (by simp;omega) htk.app,by simp only;omega,?_⟩;simp only[stCn];exact Weaks.mk' (by have:=htk.le;omega) (by simp[ToL,lk,Fo.cells_eq];exact to_ptr (by rw[lO kn,uS];simp)) (by simp[BoxL,lk,Fo.cells_eq]) (outG (by simp))
theorem pk_bad{L:List Tk}{r:RqS}(h:¬r.bad<0)(s:ByteArray):peekB L r s=false:=by simp[peekB,h]
theorem kind_bad{L:List Tk}{r:RqS}(h:¬(kindR L r 1).2.bad<0):(kindR L r 1).1=⟨#[]⟩:=by
 unfold kindR at h ⊢;split
 .rename_i hp;rw[if_pos hp] at h;unfold kindB at hp;simp only[Bool.and_eq_true,decide_eq_true_eq] at hp;exact absurd hp.1 h
 .rfl
theorem frmG_eq(L:List Tk)(F:RqS->Fo × RqS)(r:RqS):frmG L F r=if peekB L r sLp=true then listF L F r else if (kindR L r 1).2.bad<0 then wrdF L F (kindR L r 1).1 (kindR L r 1).2 else (zG,(kindR L r 1).2):=by
 unfold frmG;by_cases hb:r.bad<0
 .rw[if_pos hb]
 .have hk:kindR L r 1=(⟨#[]⟩,r):=by simp[kindR,kindB,hb,failR]
  rw[if_neg hb,pk_bad hb,hk,if_neg (by simp),if_neg hb]
theorem rowR_ok{L:List Tk}{r:RqS}(h:r.bad<0):r.rowR L=[.d (tks L),I r.at',B false]:=by
 have hb0:decide (0<=r.bad)=false:=by simp;omega
 simp only[RqS.rowR,h,if_true,hb0]
theorem rowR_bad{L:List Tk}{r:RqS}(h:¬r.bad<0):r.rowR L=[.d (tks L),I r.bad,B true]:=by
 have hb0:decide (0<=r.bad)=true:=by simp;omega
 simp only[RqS.rowR,h,if_false,hb0]
theorem rem_peek{L:List Tk}{r:RqS}(h:r.Ok L){s:ByteArray}(hp:peekB L r s=true):r.bad<0/\takeR L r s=⟨r.at'+1,r.bad⟩/\AdvS L r ⟨r.at'+1,r.bad⟩ :=
 ⟨by unfold peekB at hp;simp only[Bool.and_eq_true,decide_eq_true_eq] at hp;exact hp.1,by simp[takeR,hp],peek_at h hp⟩
@[local simp] theorem to_fv{p q:Nat->Prop}:To p q none nilS (.d (fos [])):=.odsub .emp
set_option maxRecDepth 100000 in
theorem unt_ofR(L:List Tk)(hK:TkL L)(hL:L.length<=1000000000)(F:RqS->Fo × RqS)(n:Nat)(hF:PrdR prog L 114 F n)(hG:GoesF L F)(k:Int):∀r:RqS,r.Ok L->rem L r<=n->∀(ks:Nat) (box:Bxs),box ks=some [r.rowR L]->∀(nb:Nat) (tok:Tks) (nt:Nat),
  ACalls prog 195 [.ptr ks 0 0,I k] ⟨box,nb,tok,nt⟩ (QRd (untF L F k r).1.av ((untF L F k r).2.rowR L) ks box nb tok nt):=by
 intro r h hr ks box hk nb tok nt;have t1:=take50_c L hK r h (by omega) sLp 4 wk_Lp (by decide) ks;have a1:=(AdvS.take h sLp).adv;have hrem:=rem_adv a1;have a2:=hG _ a1.ok;have c1:=hF _ a1.ok (by omega) ks;obtain⟨R,hR⟩:∃R,untF L F k r=R:=⟨_,rfl⟩
 rw[hR];unfold untF at hR;generalize takeR L r sLp=r1 at *;obtain⟨c0,r2,hc0⟩:∃c0 r2,F r1=(c0,r2):=⟨_,_,rfl⟩
 rw[hc0] at c1 a2 hR;simp only at c1 a2 hR;have hrem2:=rem_adv a2;have t3:=take50_c L hK r2 a2.ok (by omega) wU 1 wk_U (by decide) ks;have a3:=(AdvS.take a2.ok wU).adv;have hrem3:=rem_adv a3;have c3:=hF _ a3.ok (by omega) ks;have a4:=hG _ a3.ok;generalize takeR L r2 wU=r3 at *;obtain⟨c2,r4,hc2⟩:∃c2 r4,F r3=(c2,r4):=⟨_,_,rfl⟩
 rw[hc2] at c3 a4 hR;simp only at c3 a4 hR;have t5:=take50_c L hK r4 a4.ok (by omega) sRp 4 wk_Rp (by decide) ks;subst hR;refine sI func195 ntmps195 fun Hb Ht=>?_
 have kn:=key_lt Hb hk;have ht0:=TK.start Ht;try (simp)
 repeat ((first|refine sR ?_|refine sC ?_|refine sX ?_);simp)
 refine Stop.of_a (t1 _ (by simp only;rw[lO kn];exact hk) _ _ _) ?_;rintro v m ⟨rfl,rfl⟩;try (simp[uL kn])
 repeat ((first|refine sR ?_|refine sC ?_|refine sX ?_);simp[uL kn])
 refine Stop.of_a (c1 _ (by simp only;rw[lO kn,uS]) _ _ _) ?_;rintro v m ⟨rfl,rfl⟩;try (simp[uL kn,upd_upd])
 repeat ((first|refine sR ?_|refine sC ?_|refine sX ?_);simp[uL kn,upd_upd])
 refine Stop.of_a (t3 _ (by simp only;rw[lO kn,uS]) _ _ _) ?_;rintro v m ⟨rfl,rfl⟩;try (simp[uL kn,upd_upd])
 repeat ((first|refine sR ?_|refine sC ?_|refine sX ?_);simp[uL kn,upd_upd])
 refine Stop.of_a (c3 _ (by simp only;rw[lO kn,uS]) _ _ _) ?_;rintro v m ⟨rfl,rfl⟩;try (simp[uL kn,upd_upd])
 repeat ((first|refine sR ?_|refine sC ?_|refine sX ?_);simp[uL kn,upd_upd])
 refine Stop.of_a (t5 _ (by simp only;rw[lO kn,uS]) _ _ _) ?_;rintro v m ⟨rfl,rfl⟩;try (simp[uL kn,upd_upd])
 repeat ((first|refine sR ?_|refine sC ?_|refine sX ?_);simp[uL kn,upd_upd])
 refine⟨rfl,?_⟩;try (simp)
 repeat ((first|refine sR ?_|refine sC ?_|refine sX ?_);simp)
 refine sT ?_;try simp only[AU]
 have htk:=ht0.full.app;have e1:(Fo.mk k ⟨#[]⟩ [c0,c2]).kind=k:=rfl
 have e2:(Fo.mk k ⟨#[]⟩ [c0,c2]).name=⟨#[]⟩:=rfl
 have e3:(Fo.mk k ⟨#[]⟩ [c0,c2]).kids=[c0,c2]:=rfl
 have e4:fos [c0,c2]=.sl 3 [[.raw (.int .i64 c0.kind),.raw (.string c0.name),fos c0.kids],[.raw (.int .i64 c2.kind),.raw (.string c2.name),fos c2.kids]]:=by simp[Fo.cells_eq c0,Fo.cells_eq c2]
 refine⟨by simp,(Fin.gen (av:=Fo.av (.mk k ⟨#[]⟩ [c0,c2])) (tok':=tok) (nt':=nt) (by simp[resAs,resA,lk];rfl) (by rw[<-uL kn,Hb]) (nr _) (nr _) (fun t ht=>⟨ht,.inl rfl⟩) (outG (by simp)) (by simp[e1,e2,e3,e4])).mono fun v m hq=>?_⟩;exact hq
def stFr(L:List Tk)(r:RqS)(s:ByteArray)(ks nb:Nat)(box:Bxs)(tok:Tks)(nt:Nat)(i:Nat):AS :=
 ⟨tl [(4,.d (strs wdP)),(5,.d (ints kdP)),(6,I i),(3,Sb s),(2,.ptr (nb+2) 0 0),(0,.ptr ks 0 0)],lb nb (upd box ks (some [r.rowR L])) [(2,[zRowF])],tok,nt⟩
set_option maxRecDepth 100000 in
theorem formula_ofR(L:List Tk)(hK:TkL L)(hL:L.length<=1000000000)(F:RqS->Fo × RqS)(n:Nat)(hG:GoesF L F):∀r:RqS,r.Ok L->rem L r<=n+1->(r.bad<0->PrdR prog L 114 F n)->∀(ks:Nat) (box:Bxs),box ks=some [r.rowR L]->∀(nb:Nat) (tok:Tks) (nt:Nat),
  ACalls prog 114 [.ptr ks 0 0] ⟨box,nb,tok,nt⟩ (QRd (frmG L F r).1.av ((frmG L F r).2.rowR L) ks box nb tok nt):=by
 intro r h hr hF ks box hk nb tok nt;obtain⟨R,hR⟩:∃R,frmG L F r=R:=⟨_,rfl⟩
 rw[hR];rw[frmG_eq] at hR;have pk:=is50_c L hK r h sLp 4 wk_Lp ks;refine sI func114 ntmps114 fun Hb Ht=>?_
 have kn:=key_lt Hb hk;try (simp)
 repeat ((first|refine sR ?_|refine sC ?_|refine sX ?_);simp)
 refine Stop.of_a (pk _ (by simp only;rw[lO kn];exact hk) _ _ _) ?_;rintro v m ⟨rfl,rfl⟩;cases hp:peekB L r sLp
 .rw[hp] at hR;simp only[Bool.false_eq_true,↓reduceIte] at hR;have w1:=word50_c2 L r h (by omega) ks;have a1:=AdvS.kind h 1;have hrem:(kindR L r 1).2.bad<0->rem L (kindR L r 1).2<=n:=fun hb=>by
   have hb0:r.bad<0:=a1.adv.back hb
   have:=rem_advS a1 hb0 h
   omega
  have hkb:=kind_bad (L:=L) (r:=r);obtain⟨s,r1,hsr⟩:∃s r1,kindR L r 1=(s,r1):=⟨_,_,rfl⟩
  rw[hsr] at w1 a1 hrem hR hkb;simp only at w1 a1 hrem hR hkb;have hkl:kdP.length=7:=rfl
  have hwl:wdP.length=7:=rfl
  try (simp[hp])
  repeat ((first|refine sR ?_|refine sC ?_|refine sX ?_);simp[hp])
  refine Stop.of_a (w1 _ (by simp only;rw[lO kn];exact hk) _ _ _) ?_;rintro v m ⟨rfl,rfl⟩;try (simp[lO kn,uS,uL kn])
  repeat ((first|refine sR ?_|refine sC ?_|refine sX ?_);simp[lO kn,uS,uL kn])
  refine⟨rfl,?_⟩;try (simp)
  repeat ((first|refine sR ?_|refine sC ?_|refine sX ?_);simp)
  refine⟨rfl,?_⟩;try (simp)
  repeat ((first|refine sR ?_|refine sC ?_|refine sX ?_);simp)
  refine sN ?_;refine sL (stFr L r1 s ks nb box tok nt) (fun i=>i<=7/\NoW s i) (fun i=>7-i) 0 ⟨Nat.zero_le _,fun j h=>by omega⟩
   (Weaks.mk' (nr _) (by simp[ToL,lk,kdP,wdP,ints,strs,sNot,sEX,sEF,sEG,sAX,sAF,sAG];exact to_ptr (by rw[lO kn,uS];simp)) (by simp[BoxL,lk]) (outG (by simp))) ?_
  rintro i S ⟨hi,hno⟩ hS;simp only[stFr] at hS;subst hS;have hw:=sW (i:=i) (by omega);by_cases hb1:r1.bad<0
  .rw[if_pos hb1] at hR;have hb1':decide (0<=r1.bad)=false:=by simp;omega
   have hrow:=rowR_ok (L:=L) hb1;have hremn:=hrem hb1;have hF:=hF (a1.adv.back hb1);by_cases hlt:i<7
   .have hlt':(i:Int)<7:=by omega
    have hlt2:i<kdP.length:=hlt
    have hlt3:i<wdP.length:=hlt
    have hk1:kdP.getD i 0=kdP[i]'hlt2:=by rw[List.getD_eq_getElem?_getD,List.getElem?_eq_getElem hlt2];rfl
    have hw1:wdP.getD i ⟨#[]⟩=wdP[i]'hlt3:=by rw[List.getD_eq_getElem?_getD,List.getElem?_eq_getElem hlt3];rfl
    have hph:=pfx_hit hlt;rw[hk1,hw1] at hph;have hnx:wdP[i]≠s->NoW s (i+1):=fun hne=>hno.succ (by rw[hw1];exact hne)
    have hsq:=seq_dec wdP[i] s;by_cases hs:wdP[i]=s
    .have hsl:wdP[i].toList=s.toList:=by rw[hs]
     rw[wrdF,<-hs,hph] at hR;simp only at hR;have c1:=hF r1 a1.ok hremn ks;obtain⟨c0,r2,hc0⟩:∃c0 r2,F r1=(c0,r2):=⟨_,_,rfl⟩
     rw[hc0] at c1 hR;simp only at c1 hR;subst hR;have hne2:nb+2≠ks:=by omega
     obtain⟨ki,hki⟩:∃k,kdP[i]'hlt2=k:=⟨_,rfl⟩
     rw[hki];refine sR ?_;simp[hlt,hlt',hkl,hwl,hb1,hb1',lO kn,uS];refine sC ?_;simp;refine sR ?_;simp[hlt,hlt',hkl,hwl];refine sC ?_;simp[hsl];refine sN ?_;refine AL.region3 follows_Tryz (nr _) (by kernel_rfl) (Side.of (by simp)) [(Operand.tmp 43,Operand.tmp 45)] (by kernel_rfl) ?_;simp[lO kn,uL kn,uS,hlt,hlt',hkl,hki];refine StopW.of_w rfl rfl (by simp only;rw[lO kn,uS];simp) (fun box' nb' hb'=>(c1 box' (by rw[hb'];simp only;rw[lO kn,uS]) nb' tok nt).mono fun v m1 hq=>⟨hq.1,hq.2⟩) ?_;simp[lO kn,uL kn,uS,upd_upd,NK,hne2];try (simp[uL kn,upd_upd])
     repeat ((first|refine sR ?_|refine sC ?_|refine sX ?_);simp[uL kn,upd_upd])
     refine sT ?_;try simp only[AU]
     have e1:(Fo.mk ki ⟨#[]⟩ [c0]).kind=ki:=rfl
     have e2:(Fo.mk ki ⟨#[]⟩ [c0]).name=⟨#[]⟩:=rfl
     have e3:(Fo.mk ki ⟨#[]⟩ [c0]).kids=[c0]:=rfl
     have e4:fos [c0]=.sl 3 [[.raw (.int .i64 c0.kind),.raw (.string c0.name),fos c0.kids]]:=by simp[Fo.cells_eq c0]
     refine⟨by simp,(Fin.gen (av:=Fo.av (.mk ki ⟨#[]⟩ [c0])) (tok':=tok) (nt':=nt) (by simp[resAs,resA,lk];rfl) (by rw[<-uL kn,Hb]) (nr _) (nr _) (fun t ht=>⟨ht,.inl rfl⟩) (outG (by simp)) (by simp[e1,e2,e3,e4,hki])).mono fun v m hq=>?_⟩;exact hq
    .have hsl:¬wdP[i].toList=s.toList:=fun h=>hs (seq_iff.1 h)
     try (simp[hlt,hlt',hkl,hwl,hb1,hb1',lO kn,uS,hsl,hw])
     repeat ((first|refine sR ?_|refine sC ?_|refine sX ?_);simp[hlt,hlt',hkl,hwl,hb1,hb1',lO kn,uS,hsl,hw])
     refine sE ?_;exact⟨i+1,⟨hlt,hnx hs⟩,by omega,Weaks.mk' (nr _) (by simp[ToL,lk];exact to_ptr (by rw[lO kn,uS];simp)) (by simp[BoxL,lk]) (outG (by simp))⟩
   .have:i=7:=by omega
    subst this;rw[wrdF,pfx_none hno] at hR;simp only at hR;by_cases hE:s=wE
    .have hE':=w_E.2 hE
     rw[if_pos hE] at hR;have u1:=unt_ofR L hK hL F n hF hG 8 r1 a1.ok hremn ks;try (simp[hkl,hwl,hb1,hb1',lO kn,uS,hE'])
     repeat ((first|refine sR ?_|refine sC ?_|refine sX ?_);simp[hkl,hwl,hb1,hb1',lO kn,uS,hE'])
     refine Stop.of_a (u1 _ (by simp only;rw[lO kn,uS]) _ _ _) ?_;rintro v m ⟨rfl,rfl⟩;rw[<-hR];try (simp[uL kn,upd_upd])
     repeat ((first|refine sR ?_|refine sC ?_|refine sX ?_);simp[uL kn,upd_upd])
     refine sT ?_;try simp only[AU]
     refine⟨by simp,(Fin.gen (av:=Fo.av (untF L F 8 r1).1) (tok':=tok) (nt':=nt) (by simp[resAs,resA,lk];rfl) (by rw[<-uL kn,Hb]) (nr _) (nr _) (fun t ht=>⟨ht,.inl rfl⟩) (outG (by simp)) (by simp)).mono fun v m hq=>?_⟩;exact hq
    .have hE':¬s.toList=[69]:=fun h=>hE (w_E.1 h)
     have bE:(s.toList==[69])=false:=by simpa using hE'
     rw[if_neg hE] at hR;by_cases hA:s=wA
     .have hA':=w_A.2 hA
      rw[if_pos hA] at hR;have u1:=unt_ofR L hK hL F n hF hG 12 r1 a1.ok hremn ks;try (simp[hkl,hwl,hb1,hb1',lO kn,uS,hE',hA',bE])
      repeat ((first|refine sR ?_|refine sC ?_|refine sX ?_);simp[hkl,hwl,hb1,hb1',lO kn,uS,hE',hA',bE])
      refine Stop.of_a (u1 _ (by simp only;rw[lO kn,uS]) _ _ _) ?_;rintro v m ⟨rfl,rfl⟩;rw[<-hR];try (simp[uL kn,upd_upd])
      repeat ((first|refine sR ?_|refine sC ?_|refine sX ?_);simp[uL kn,upd_upd])
      refine sT ?_;try simp only[AU]
      refine⟨by simp,(Fin.gen (av:=Fo.av (untF L F 12 r1).1) (tok':=tok) (nt':=nt) (by simp[resAs,resA,lk];rfl) (by rw[<-uL kn,Hb]) (nr _) (nr _) (fun t ht=>⟨ht,.inl rfl⟩) (outG (by simp)) (by simp)).mono fun v m hq=>?_⟩;exact hq
     .have hA':¬s.toList=[65]:=fun h=>hA (w_A.1 h)
      have bA:(s.toList==[65])=false:=by simpa using hA'
      rw[if_neg hA] at hR;by_cases hU:s=wU
      .rw[if_pos hU] at hR;subst hR;have hU':s.toList=[85]:=by have h:=seq_iff (a:=s) (b:=wU);simpa[wU] using h.2 hU
       have hw3:IntKind.i64.wrap ((r1.at':Int)-1)=(r1.at':Int)-1:=by have:=a1.ok.a;exact wrap_in (by omega) (by omega)
       have hlt1:=a1.lt hb1;have hrow2:=rowR_bad (L:=L) (r:=⟨r1.at',(r1.at':Int)-1⟩) (by simp only;omega);try (simp[hkl,hwl,hb1,hb1',lO kn,uS,uL kn,upd_upd,hE',hA',hU',bE,bA,hw3])
       repeat ((first|refine sR ?_|refine sC ?_|refine sX ?_);simp[hkl,hwl,hb1,hb1',lO kn,uS,uL kn,upd_upd,hE',hA',hU',bE,bA,hw3])
       refine sT ?_;try simp only[AU]
       refine⟨by simp,(Fin.gen (av:=Fo.av (.mk 1 s [])) (tok':=tok) (nt':=nt) (by simp[resAs,resA,lk];rfl) (by rw[<-uL kn,Hb]) (nr _) (nr _) (fun t ht=>⟨ht,.inl rfl⟩) (outG (by simp)) (by simp[Fo.kind,Fo.name,Fo.kids])).mono fun v m hq=>?_⟩;exact⟨hq.1,by rw[hrow2];exact hq.2⟩
      .have hU':¬s.toList=[85]:=fun h=>hU (by have h2:=seq_iff (a:=s) (b:=wU);exact h2.1 (by simpa[wU] using h))
       have bU:(s.toList==[85])=false:=by simpa using hU'
       rw[if_neg hU] at hR;subst hR;try (simp[hkl,hwl,hb1,hb1',lO kn,uS,hE',hA',hU',bE,bA,bU])
       repeat ((first|refine sR ?_|refine sC ?_|refine sX ?_);simp[hkl,hwl,hb1,hb1',lO kn,uS,hE',hA',hU',bE,bA,bU])
       refine sT ?_;try simp only[AU]
       refine⟨by simp,(Fin.gen (av:=Fo.av (.mk 1 s [])) (tok':=tok) (nt':=nt) (by simp[resAs,resA,lk];rfl) (by rw[<-uL kn,Hb]) (nr _) (nr _) (fun t ht=>⟨ht,.inl rfl⟩) (outG (by simp)) (by simp[Fo.kind,Fo.name,Fo.kids])).mono fun v m hq=>?_⟩;exact hq
  .rw[if_neg hb1] at hR;have hb1':decide (0<=r1.bad)=true:=by simp;omega
   subst hR;obtain rfl:s=⟨#[]⟩:=hkb hb1;by_cases hlt:i<7
   .have hlt':(i:Int)<7:=by omega
    try (simp[hlt,hlt',hkl,hwl,hb1,hb1',lO kn,uS])
    repeat ((first|refine sR ?_|refine sC ?_|refine sX ?_);simp[hlt,hlt',hkl,hwl,hb1,hb1',lO kn,uS])
    refine sT ?_;try simp only[AU]
    refine⟨by simp,(Fin.gen (av:=Fo.av zG) (tok':=tok) (nt':=nt) (by simp[resAs,resA,lk];rfl) (by rw[<-uL kn,Hb]) (nr _) (nr _) (fun t ht=>⟨ht,.inl rfl⟩) (outG (by simp)) (by simp[zG,Fo.kind,Fo.name,Fo.kids])).mono fun v m hq=>?_⟩;exact hq
   .have:i=7:=by omega
    subst this;try (simp[hkl,hwl,hb1,hb1',lO kn,uS])
    repeat ((first|refine sR ?_|refine sC ?_|refine sX ?_);simp[hkl,hwl,hb1,hb1',lO kn,uS])
    refine sT ?_;try simp only[AU]
    refine⟨by simp,(Fin.gen (av:=Fo.av zG) (tok':=tok) (nt':=nt) (by simp[resAs,resA,lk];rfl) (by rw[<-uL kn,Hb]) (nr _) (nr _) (fun t ht=>⟨ht,.inl rfl⟩) (outG (by simp)) (by simp[zG,Fo.kind,Fo.name,Fo.kids])).mono fun v m hq=>?_⟩;exact hq
 .rw[hp] at hR;simp only[↓reduceIte] at hR;obtain⟨hb,ht,ha⟩:=rem_peek h hp;have hb0:decide (0<=r.bad)=false:=by simp;omega
  have hlt:=rem_advS ha hb h;have hat:=h.a;have hw:IntKind.i64.wrap ((r.at':Int)+1)=((r.at'+1:Nat):Int):=by rw[wrap_in (by omega) (by omega)];rfl
  have hrow:RqS.rowR L ⟨r.at'+1,r.bad⟩=[.d (tks L),I ((r.at':Int)+1),B false]:=by simp[RqS.rowR,hb,hb0]
  have hcn:=con_of L hK hL F n (hF hb) hG ⟨r.at'+1,r.bad⟩ ha.ok (by omega) ks;rw[list_con,ht] at hR;rw[hR] at hcn;try (simp[hp,lO kn,uS,uL kn,hk,hb,hb0,hw])
  repeat ((first|refine sR ?_|refine sC ?_|refine sX ?_);simp[hp,lO kn,uS,uL kn,hk,hb,hb0,hw])
  refine Stop.of_a (hcn _ (by simp only;rw[lO kn,uS,hrow]) _ _ _) ?_;rintro v m ⟨rfl,rfl⟩;try (simp[uL kn,upd_upd])
  repeat ((first|refine sR ?_|refine sC ?_|refine sX ?_);simp[uL kn,upd_upd])
  refine sT ?_;try simp only[AU]
  refine⟨by simp,(Fin.gen (av:=Fo.av R.1) (tok':=tok) (nt':=nt) (by simp[resAs,resA,lk];rfl) (by rw[<-uL kn,Hb]) (nr _) (nr _) (fun t ht=>⟨ht,.inl rfl⟩) (outG (by simp)) (by simp)).mono fun v m hq=>?_⟩;exact hq
theorem pG_all(L:List Tk)(hK:TkL L)(hL:L.length<=1000000000):∀n,PrdR prog L 114 (pFrmG L n) n
 | 0=>fun r h hr ks box hk nb tok nt=>by
  have hb:¬r.bad<0:=rem_zero h (by omega)
  have h1:=formula_ofR L hK hL (pFrmG L 0) 0 (pG_adv L 0) r h (by omega) (fun hb'=>absurd hb' hb) ks box hk nb tok nt;have e1:frmG L (pFrmG L 0) r=(zG,r):=by unfold frmG;rw[if_neg hb]
  have e2:pFrmG L 0 r=(zG,r):=by show ((if r.bad<0 then zF else zG),r)=_;rw[if_neg hb]
  rw[e1] at h1;rw[e2];exact h1
 | n+1=>fun r h hr ks box hk nb tok nt=>formula_ofR L hK hL (pFrmG L n) n (pG_adv L n) r h hr (fun _=>pG_all L hK hL n) ks box hk nb tok nt
theorem parL_nil:parL []=(zF,1,2):=by
 have h1:pFrm [] ([]:List Tk).length.succ ⟨0, -1⟩=(zF,⟨0,0⟩):=by
  show frmF [] (pFrm [] 0) ⟨0, -1⟩=_
  rfl
 unfold parL;have e:([]:List Tk).length+1=([]:List Tk).length.succ:=rfl
 rw[e,h1];rfl
@[local simp] theorem to_fw{p q:Nat->Prop}:To p q none nilS (.d (fos [])):=.odsub .emp
set_option maxRecDepth 100000 in
theorem parse50_c(s:ByteArray)(hs:s.size<=200000000000000):DC 49 [Sb s] (.tup [(parS s).1.av,I (parS s).2.1,I (parS s).2.2]):=by
 intro tok nt box nb;have ht:=tokens01_c s hs;obtain⟨hT,hL⟩:=toksR_ok s;have hK:=toksR_let s;obtain⟨N,hN⟩:∃N,parS s=N:=⟨_,rfl⟩
 rw[hN];unfold parS at hN;generalize toksR s=K at *;refine sI func49 ntmps49 fun Hb Ht=>?_
 have ht0:=TK.start Ht;repeat first|simp|refine sR ?_
 refine sD (ht _ _) ?_;repeat first|simp|refine sR ?_
 by_cases he:K.2.2=0
 .rw[if_neg (by simp[he])] at hN;have be:(K.2.2 != 0)=false:=by simp[he]
  generalize K.1=L at *;have hT2:∀t∈L,t.text.size<=200000000000000:=fun t h=>by have:=hT t h;omega
  by_cases h0:L.length=0
  .obtain rfl:L=[]:=List.length_eq_zero_iff.1 h0;rw[parL_nil] at hN;subst hN;simp only[be];try (simp)
   repeat ((first|refine sR ?_|refine sC ?_|refine sX ?_);simp)
   refine sT (sH Hb Ht ?_);simp[zF,Fo.kind,Fo.name,Fo.kids]
  .have b0:((L.length:Int)==0)=false:=beq_eq_false_iff_ne.2 (by omega)
   have hr0:(⟨0, -1⟩:RqS).Ok L:=⟨by simp,by simp,by show (-1:Int)<=L.length;omega⟩
   have c1:=pG_all L hK (by omega) (L.length+1) ⟨0, -1⟩ hr0 (rem_le L _);have ag:=p_agr L (L.length+1) ⟨0, -1⟩ hr0;have hsz:=(pF_sz (L:=L) (by omega) hT2 (L.length+1)).sz ⟨0, -1⟩ hr0 (rem_le L _);have hsm:=(pF_sz (L:=L) (by omega) hT2 (L.length+1)).sm ⟨0, -1⟩ hr0 (rem_le L _);have hok:=(pF_adv L (L.length+1) ⟨0, -1⟩ hr0).ok;have hrl:=rem_le L ⟨0, -1⟩;unfold parL at hN;obtain⟨f,r,hfr⟩:∃f r,pFrm L (L.length+1) ⟨0, -1⟩=(f,r):=⟨_,_,rfl⟩
   obtain⟨g,r',hgr⟩:∃g r',pFrmG L (L.length+1) ⟨0, -1⟩=(g,r'):=⟨_,_,rfl⟩
   rw[hfr] at ag hsz hsm hok hN;rw[hgr] at ag c1;obtain⟨agS,agF⟩:=ag;simp only at c1 hsz hsm hok hN agS agF;subst agS;have hsh:=shape50_c f (by omega) hsm;simp only[be];try (simp[b0])
   repeat ((first|refine sR ?_|refine sC ?_|refine sX ?_);simp[b0])
   refine Stop.of_a (c1 _ _ (by simp[lb_at,lk]) _ _ _) ?_;rintro v m ⟨rfl,rfl⟩;have hoa:=hok.a;have hob:=hok.c;have hwl:IntKind.i64.wrap ((L.length:Int)-1)=(L.length:Int)-1:=wrap_in (by omega) (by omega)
   have key:∀b:Int,0<=b->0<L.length->∃j:Nat,∃h:j<L.length,min b ((L.length:Int)-1)=(j:Int)/\lineF L b=L[j].line:=by
    intro b h0 h1;refine⟨(min b ((L.length:Int)-1)).toNat,by omega,by omega,?_⟩;unfold lineF lineT;rw[if_neg (by omega),List.getElem?_eq_getElem (show (min b ((L.length:Int)-1)).toNat<L.length by omega)]
   by_cases hb:r.bad<0
   .have hb0:decide (0<=r.bad)=false:=by simp;omega
    have hfg:=agF hb;subst hfg;by_cases hlt:r.at'<L.length
    .have hlt':(r.at':Int)<L.length:=by omega
     have hbf:badF1 L r=(r.at':Int):=by unfold badF1;rw[if_pos ⟨hb,hlt⟩]
     rw[hbf,if_pos (by omega)] at hN;obtain⟨j,hj,hmn,hln⟩:=key r.at' (by omega) (by omega);have hj':(j:Int)<L.length:=by omega
     rw[hln] at hN;subst hN;repeat first|simp[lk,hb,hb0,hlt,hlt']|refine sR ?_
     refine sC ?_;simp[lk,hb,hb0,hlt,hlt']
     refine sN ?_;refine AL.region2 follows_Tryz (nr _) (by kernel_rfl) (Side.of (by simp)) ?_;simp[lk,hb,hb0,hwl,hmn,hj,hj'];refine sT (sH Hb Ht ?_);simp[zF,Fo.kind,Fo.name,Fo.kids]
    .have hlt':¬(r.at':Int)<L.length:=by omega
     have hbf:badF1 L r=r.bad:=by unfold badF1;rw[if_neg (fun h=>hlt h.2)]
     have hb':¬0<=r.bad:=by omega
     rw[hbf,if_neg hb'] at hN;try (simp[lk,hb,hb0,hlt,hlt',hb'])
     repeat ((first|refine sR ?_|refine sC ?_|refine sX ?_);simp[lk,hb,hb0,hlt,hlt',hb'])
     refine sD (hsh _ _) ?_;simp[Fo.cells_eq];by_cases h0:shapeF f=0
     .rw[if_neg (by simp[h0])] at hN;subst hN;have b0:(shapeF f != 0)=false:=by simp[h0]
      try (simp[b0])
      repeat ((first|refine sR ?_|refine sC ?_|refine sX ?_);simp[b0])
      refine sT (sH Hb Ht ?_);simp
     .rw[if_pos h0] at hN;subst hN;have b0:(shapeF f != 0)=true:=by simpa using h0
      try (simp[b0])
      repeat ((first|refine sR ?_|refine sC ?_|refine sX ?_);simp[b0])
      refine sT (sH Hb Ht ?_);simp[zF,Fo.kind,Fo.name,Fo.kids]
   .have hb0:decide (0<=r.bad)=true:=by simp;omega
    have hbf:badF1 L r=r.bad:=by unfold badF1;rw[if_neg (fun h=>hb h.1)]
    have hb':0<=r.bad:=by omega
    rw[hbf,if_pos hb'] at hN;obtain⟨j,hj,hmn,hln⟩:=key r.bad hb' (by omega);have hj':(j:Int)<L.length:=by omega
    rw[hln] at hN;subst hN;repeat first|simp[lk,hb,hb0,hb']|refine sR ?_
    refine sC ?_;simp[lk,hb,hb0,hb']
    refine sN ?_;refine AL.region2 follows_Tryz (nr _) (by kernel_rfl) (Side.of (by simp)) ?_;simp[lk,hb,hb0,hwl,hmn,hj,hj'];refine sT (sH Hb Ht ?_);simp[zF,Fo.kind,Fo.name,Fo.kids]
 .rw[if_pos he] at hN;have be:(K.2.2 != 0)=true:=by simpa using he
  subst hN;simp only[be];try (simp)
  repeat ((first|refine sR ?_|refine sC ?_|refine sX ?_);simp)
  refine sT (sH Hb Ht ?_);simp[zF,Fo.kind,Fo.name,Fo.kids]
def stSmF(f:Fo)(nb:Nat)(box:Bxs)(tok:Tks)(nt:Nat)(i:Nat):AS :=
 ⟨tl [(5,I i),(2,.ptr (nb+2) 0 0),(3,.ptr (nb+3) 0 0)],lb nb box [(2,[f.row]),(3,[f.row])],tok,nt⟩
set_option maxRecDepth 100000 in
theorem same50_c:∀(n:Nat) (f:Fo),f.size<n->f.size<=1000000->∀(tok:Tks) (nt:Nat),DCall prog 50 [f.av,f.av] tok nt (B true) tok nt
 | 0,f,hn,_,tok,nt=>absurd hn (Nat.not_lt_zero _)
 | n+1,f,hn,hb,tok,nt=>by
  intro box nb;have hkl:=f.kids_len;refine sI func50 ntmps50 fun Hb Ht=>?_
  have htk0:TK tok nt tok nt []:=TK.start Ht
  try (simp)
  repeat ((first|refine sR ?_|refine sC ?_|refine sX ?_);simp)
  refine sN ?_;refine sL (stSmF f nb box tok nt) (fun i=>i<=f.kids.length) (fun i=>f.kids.length-i) 0 (Nat.zero_le _) wkA ?_;rintro i S hi hS;simp only[stSmF] at hS;subst hS;have hw:=sW (i:=i) (by omega);by_cases hlt:i<f.kids.length
  .have hlt':(i:Int)<f.kids.length:=by omega
   have ih:=same50_c n f.kids[i] (by have:=Fo.sizeL_mem (List.getElem_mem hlt);rw[f.size_eq] at hn;omega) (by have:=Fo.sizeL_mem (List.getElem_mem hlt);rw[f.size_eq] at hb;omega);try (simp[hlt,hlt',Fo.cells_eq])
   repeat ((first|refine sR ?_|refine sC ?_|refine sX ?_);simp[hlt,hlt',Fo.cells_eq])
   refine sD (ih _ _) ?_;simp[Fo.cells_eq];try (simp[hw])
   repeat ((first|refine sR ?_|refine sC ?_|refine sX ?_);simp[hw])
   refine sE ?_;exact⟨i+1,hlt,by omega,wkA⟩
  .have:i=f.kids.length:=by omega
   subst this;try (simp)
   repeat ((first|refine sR ?_|refine sC ?_|refine sX ?_);simp)
   refine sT (sH Hb Ht ?_);simp
theorem parS_sz(s:ByteArray):(parS s).1.size<=30000:=by
 obtain⟨hT,hL⟩:=toksR_ok s;unfold parS;split
 .show zF.size<=_;rw[zF_size];omega
 .generalize (toksR s).1=L at *;have hT2:∀t∈L,t.text.size<=200000000000000:=fun t h=>by have:=hT t h;omega
  have hr0:(⟨0, -1⟩:RqS).Ok L:=⟨by simp,by simp,by show (-1:Int)<=L.length;omega⟩
  have hsz:=(pF_sz (L:=L) (by omega) hT2 (L.length+1)).sz ⟨0, -1⟩ hr0 (rem_le L _);have hrl:=rem_le L ⟨0, -1⟩;unfold parL;repeat' split
  .show zF.size<=_;rw[zF_size];omega
  .show zF.size<=_;rw[zF_size];omega
  .show (pFrm L (L.length+1) ⟨0, -1⟩).1.size<=_;omega
set_option maxRecDepth 100000 in
theorem lawTParse_c(s:ByteArray)(hs:s.size<=200000000000000):DC 10 [Sb s] (B true):=by
 intro tok nt box nb;have hw:=awake50_c;have h1:=parseT_c s hs;have h2:=parse50_c s hs;have hz:=parS_sz s;have h3:=same50_c _ (parS s).1 (Nat.lt_succ_self _) (by omega);generalize parS s=R at *;refine sI func10 ntmps10 fun Hb Ht=>?_
 repeat first|simp|refine sR ?_
 refine sD (hw _ _) ?_;repeat first|simp|refine sR ?_
 by_cases hl:1000<s.size
 .have hl':(1000:Int)<(s.size:Int):=by omega
  try (simp[hl,hl'])
  repeat ((first|refine sR ?_|refine sC ?_|refine sX ?_);simp[hl,hl'])
  refine sD (hw _ _) ?_;simp;try (simp)
  repeat ((first|refine sR ?_|refine sC ?_|refine sX ?_);simp)
  refine sT (sH Hb Ht ?_);simp
 .have hl':¬(1000:Int)<(s.size:Int):=by omega
  try (simp[hl,hl'])
  repeat ((first|refine sR ?_|refine sC ?_|refine sX ?_);simp[hl,hl'])
  refine sD (h1 _ _) ?_;simp;try (simp)
  repeat ((first|refine sR ?_|refine sC ?_|refine sX ?_);simp)
  refine sD (h2 _ _) ?_;simp;try (simp)
  repeat ((first|refine sR ?_|refine sC ?_|refine sX ?_);simp)
  refine sD (h3 _ _) ?_;simp[Fo.cells_eq];try (simp)
  repeat ((first|refine sR ?_|refine sC ?_|refine sX ?_);simp)
  refine sT (sH Hb Ht ?_);simp
end Go.AM
