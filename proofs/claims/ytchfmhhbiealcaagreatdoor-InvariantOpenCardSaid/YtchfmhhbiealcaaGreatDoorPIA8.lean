/-
 Parts of the proof, as merged from many texts: a machine over data, what the functions compute, plain laws.
-/
import Derived.Test.YtchfmhhbiealcaaGreatDoorPIA7
import Derived.Shelf.Small.Strs
import Derived.Shelf.Strings.Search1
import Derived.Shelf.Slices.Reverse
import Derived.Ground.Names2Prog
import Derived.Test.YtchfmhhbiealcaaGreatDoorProg
import Derived.Laws.Strings
import Derived.WideShapes
set_option linter.unusedSimpArgs false
set_option linter.unusedVariables false
namespace Go.AM
open Go Go.Proofs
open Go.Proofs.Tryz
abbrev Ub(n:Int):AV:=.d (.raw (.int .u8 n))
abbrev Sb(s:ByteArray):AV:=.d (.raw (.string s))
def fH(c:Int):Bool:=decide (97<=c/\c<=122∨65<=c/\c<=90)
def eN(c:Int):Bool:=decide (48<=c/\c<=57)
def pR(c:Int):Bool:=fH c||eN c||c==95
def aK(s:ByteArray)(i:Nat):Int:=(s.data.toList.getD i 0).toNat
theorem aCe(c:Int):DC 315 [Ub c] (B (fH c)):=by
 intro tok nt box nb;by_cases h1:97<=c
 .by_cases h2:c<=122
  .refine sI func315 ntmps315 fun Hb Ht=>?_
   repeat first|simp[h1,h2]|refine sR ?_
   refine sT (sH Hb Ht ?_);simp[fH,h1,h2]
  .have h3:¬c<=90:=by omega
   have h4:65<=c:=by omega
   refine sI func315 ntmps315 fun Hb Ht=>?_
   repeat first|simp[h1,h2,h3,h4]|refine sR ?_
   refine sT (sH Hb Ht ?_);simp[fH,h1,h2,h3,h4]
 .by_cases h3:65<=c
  .by_cases h4:c<=90
   .refine sI func315 ntmps315 fun Hb Ht=>?_
    repeat first|simp[h1,h3,h4]|refine sR ?_
    refine sT (sH Hb Ht ?_);simp[fH,h1,h3,h4]
   .refine sI func315 ntmps315 fun Hb Ht=>?_
    repeat first|simp[h1,h3,h4]|refine sR ?_
    refine sT (sH Hb Ht ?_);simp[fH,h1,h3,h4]
  .refine sI func315 ntmps315 fun Hb Ht=>?_
   repeat first|simp[h1,h3]|refine sR ?_
   refine sT (sH Hb Ht ?_);simp[fH,h1,h3]
theorem aBc(c:Int):DC 318 [Ub c] (B (eN c)):=by
 intro tok nt box nb;by_cases h1:48<=c
 .by_cases h2:c<=57
  .refine sI func318 ntmps318 fun Hb Ht=>?_
   repeat first|simp[h1,h2]|refine sR ?_
   refine sT (sH Hb Ht ?_);simp[eN,h1,h2]
  .refine sI func318 ntmps318 fun Hb Ht=>?_
   repeat first|simp[h1,h2]|refine sR ?_
   refine sT (sH Hb Ht ?_);simp[eN,h1,h2]
 .refine sI func318 ntmps318 fun Hb Ht=>?_
  repeat first|simp[h1]|refine sR ?_
  refine sT (sH Hb Ht ?_);simp[eN,h1]
theorem aKL(c:Int):DC 317 [Ub c] (B (pR c)):=by
 intro tok nt box nb;have h1:=aCe c;have h2:=aBc c;cases e1:fH c
 .cases e2:eN c
  .rw[e1] at h1;rw[e2] at h2;refine sI func317 ntmps317 fun Hb Ht=>?_
   repeat first|simp|refine sR ?_
   refine sD (h1 _ _) ?_;repeat first|simp|refine sR ?_
   refine sD (h2 _ _) ?_;repeat first|simp|refine sR ?_
   refine sT (sH Hb Ht ?_);simp[pR,e1,e2]
  .rw[e1] at h1;rw[e2] at h2;refine sI func317 ntmps317 fun Hb Ht=>?_
   repeat first|simp|refine sR ?_
   refine sD (h1 _ _) ?_;repeat first|simp|refine sR ?_
   refine sD (h2 _ _) ?_;repeat first|simp|refine sR ?_
   refine sT (sH Hb Ht ?_);simp[pR,e1,e2]
 .rw[e1] at h1;refine sI func317 ntmps317 fun Hb Ht=>?_
  repeat first|simp|refine sR ?_
  refine sD (h1 _ _) ?_;repeat first|simp|refine sR ?_
  refine sT (sH Hb Ht ?_);simp[pR,e1]
def eM(p:Int->Bool)(s:ByteArray)(at':Nat):Nat:=((s.data.toList.drop at').takeWhile fun b=>p (b.toNat:Int)).length
theorem zH{α:Type}(q:α->Bool)(d:α):∀(l:List α) (i:Nat),i<=l.length->(∀j,j<i->q (l.getD j d)=true)->(i=l.length∨q (l.getD i d)=false)->(l.takeWhile q).length=i
 | [],i,hi,_,_=>by simp at hi;subst hi;rfl
 | x::l,0,_,_,h=>by
  have h2:q x=false:=by simpa using h
  simp[List.takeWhile_cons,h2]
 | x::l,i+1,hi,h1,h2=>by
  have hx:q x=true:=by simpa using h1 0 (by omega)
  have ih:=zH q d l i (by simpa using hi) (fun j hj=>by simpa using h1 (j+1) (by omega)) (by simpa using h2);simp[List.takeWhile_cons,hx,ih]
theorem mR(s:ByteArray):s.data.toList.length=s.size:=by rw[Array.length_toList];rfl
theorem gY{s:ByteArray}{i:Nat}(h:i<s.size):(s.data[i].toNat:Int)=aK s i:=by
 have h2:i<s.data.toList.length:=by rw[mR];exact h
 rw[aK,List.getD_eq_getElem?_getD,List.getElem?_eq_getElem h2,Option.getD_some,Array.getElem_toList]
theorem uR{p:Int->Bool}{s:ByteArray}{a i:Nat}(hi:a+i<=s.size)(h1:∀j,j<i->p (aK s (a+j))=true)(h2:a+i=s.size∨p (aK s (a+i))=false):eM p s a=i:=by
 have hl:=mR s;have g:∀j,(s.data.toList.drop a).getD j 0=s.data.toList.getD (a+j) 0:=fun j=>by simp[List.getD_eq_getElem?_getD,List.getElem?_drop]
 refine zH _ 0 _ i (by rw[List.length_drop];omega) (fun j hj=>?_) ?_
 .rw[g];exact h1 j hj
 .rcases h2 with h2|h2
  .left;rw[List.length_drop];omega
  .right;rw[g];exact h2
def aPJ(s:ByteArray)(f:FuncId)(nb:Nat)(box:Bxs)(tok:Tks)(nt:Nat)(i:Nat):AS:=⟨tl [(0,Sb s),(1,.fn (.func f) []),(5,I i)],lb nb box [],tok,nt⟩
theorem aJn(s:ByteArray)(f:FuncId)(p:Int->Bool)(hs:s.size<=200000000000000)(tok:Tks)(nt:Nat)(hf:∀c,dI prog f [Ub c] tok nt (B (p c)) tok nt):dI prog 316 [Sb s,.fn (.func f) []] tok nt (I (eM p s 0)) tok nt:=by
 intro box nb;refine sI func316 ntmps316 fun Hb Ht=>?_
 repeat first|simp|refine sR ?_
 refine sN ?_;have hc:∀c∈([]:List AV),bF (fun k=>box k≠none) (fun _=>True) c:=by simp
 refine sL (aPJ s f nb box tok nt) (fun i=>i<=s.size/\∀j,j<i->p (aK s j)=true) (fun i=>s.size-i) 0 ⟨Nat.zero_le _,by omega⟩ (wM (nr0 _) rfl (by simp[ToL,lk];exact .same (lC hc Hb [] (by simp) rfl _)) trivial) ?_;rintro i S' ⟨hi,hok⟩ hS;simp only[aPJ] at hS;subst hS;have hw:=sW (i:=i) (by omega);by_cases hlt:i<s.size
 .have hbb:=gY hlt;have hr:=uR (p:=p) (s:=s) (a:=0) (i:=i) (by omega) (fun j hj=>by rw[Nat.zero_add];exact hok j hj);rw[Nat.zero_add,<-hbb] at hr;have hok2:p (s.data[i].toNat)=true->∀j,j<i+1->p (aK s j)=true:=fun h j hj=>by
   by_cases e:j=i
   .rw[e,<-hbb];exact h
   .exact hok j (by omega)
  repeat first|simp[hlt]|refine sR ?_
  refine sD (hf _) ?_;repeat first|simp|refine sR ?_
  generalize (s.data[i].toNat:Int)=c at *;cases e:p c
  .have hr:=hr (.inr e);refine sC ?_;simp;refine sX ?_;simp only[AU,↓reduceIte];repeat first|simp|refine sR ?_
   refine sT (sH Hb Ht ?_);simp[hr]
  .refine sC ?_;simp;repeat first|simp[hw]|refine sR ?_
   refine sE ?_;exact⟨i+1,⟨hlt,hok2 e⟩,by omega,wM (nr0 _) rfl (by simp[ToL,lk];exact .same (lC hc Hb [] (by simp) rfl _)) trivial⟩
 .have hie:i=s.size:=by omega
  have hr:=uR (p:=p) (s:=s) (a:=0) (i:=i) (by omega) (fun j hj=>by rw[Nat.zero_add];exact hok j hj) (.inl (by omega));repeat first|simp[hlt]|refine sR ?_|refine sC ?_
  refine sX ?_;simp only[AU,↓reduceIte];repeat first|simp|refine sR ?_
  refine sT (sH Hb Ht ?_);simp[hr]
end Go.AM
namespace Go.Proofs
open Go.Shelf
open Go.Proofs.Tryz
def Tryz.lays137_ren:Go.Shelf.Ren:=⟨fun|137=>321|217=>334|266=>337|n=>n,fun|9=>9|5=>5|3=>3|n=>n,fun|n=>n⟩
theorem Tryz.lays137:Go.Proofs.Lays.n137 prog Tryz.lays137_ren:={
 mixed:=by kernel_rfl
 f137:=func321.trans (congrArg some (by kernel_rfl))
 f217:=func334.trans (congrArg some (by kernel_rfl))
 f266:=func337.trans (congrArg some (by kernel_rfl))
 t3:=underlying3
 a3:=isAgg3
 z3:=sizeOf3
 v3:=zeroValue3
 t5:=underlying5
 a5:=isAgg5
 z5:=sizeOf5
 v5:=zeroValue5
 t9:=underlying9
 a9:=isAgg9
 z9:=sizeOf9
 v9:=zeroValue9 }
open Go.RowKit in
theorem Tryz.strings_IndexByte(s:ByteArray)(c:Int)(w:World):
  Calls prog 321 #[.string s,.int .u8 c] w fun e w'=>e=.returned (.int .i64 (Lib.indexByte s.data.toList c.toNat.toUInt8))/\w'=w:=Any.strings_IndexByte Tryz.lays137 s c w
def Tryz.lays112_ren:Go.Shelf.Ren:=⟨fun|112=>322|n=>n,fun|28=>37|3=>3|4=>4|0=>0|n=>n,fun|n=>n⟩
theorem Tryz.lays112:Go.Proofs.Lays.n112 prog Tryz.lays112_ren:={
 mixed:=by kernel_rfl
 f112:=func322.trans (congrArg some (by kernel_rfl))
 t0:=underlying0
 a0:=isAgg0
 z0:=sizeOf0
 v0:=zeroValue0
 t3:=underlying3
 a3:=isAgg3
 z3:=sizeOf3
 v3:=zeroValue3
 t4:=underlying4
 a4:=isAgg4
 z4:=sizeOf4
 v4:=zeroValue4
 t28:=underlying37
 a28:=isAgg37
 z28:=sizeOf37
 v28:=zeroValue37 }
open Go.RowKit Go.Lib Go.Sort in
theorem Tryz.slices_Reverse_int(blk off cap:Nat)(zs:List Int)(w:World)(hH:Holds (Value.int .i64) w blk off zs.toArray)(hsz:zs.length<=9223372036854775807):
  Calls prog 322 #[.slice (some ⟨blk,off,none⟩) zs.length cap] w fun e w'=>e=.returned (.tuple #[])/\∃n,w'=putRow (Value.int .i64) (Sort.ahead w n) blk off zs.reverse.toArray:=Any.slices_Reverse_int Tryz.lays112 blk off cap zs w hH hsz
open Go.RowKit Go.Lib Go.Sort in
theorem Tryz.slices_Reverse_int_empty(a:Option Addr)(cap:Nat)(w:World):
  Calls prog 322 #[.slice a 0 cap] w fun e w'=>e=.returned (.tuple #[])/\w'=w:=Any.slices_Reverse_int_empty Tryz.lays112 a cap w
end Go.Proofs
namespace Go.AM
open Go Go.Proofs Go.Shelf
open Go.Proofs.Tryz
theorem aKN{a b:ByteArray}:a.toList=b.toList↔a=b:=⟨fun h=>by rw[ByteArray.toList_eq,ByteArray.toList_eq] at h;exact Go.WideShapes.bytes_inj h,fun h=>by rw[h]⟩
theorem cV(a b:ByteArray):(a.toList==b.toList)=decide (a=b):=by rw[Bool.eq_iff_iff,beq_iff_eq,decide_eq_true_eq,aKN]
abbrev lH(l:List ByteArray):D:=.sl 1 (l.map fun s=>[.raw (.string s)])
def oQ(xs:List ByteArray)(v:ByteArray):Bool:=xs.any fun x=>decide (v=x)
theorem rN{xs:List ByteArray}{v:ByteArray}:oQ xs v=true↔v∈xs:=by simp[oQ]
def xW(xs:List ByteArray)(v:ByteArray):Int:=if oQ xs v=true then (xs.findIdx (fun x=>decide (v=x)):Int) else -1
theorem yT(xs:List ByteArray)(v:ByteArray):(0<=xW xs v)↔oQ xs v=true:=by
 unfold xW;split<;>simp[*]
def aOP(xs:List ByteArray)(v:ByteArray)(nb:Nat)(box:Bxs)(tok:Tks)(nt:Nat)(i:Nat):AS:=⟨tl [(0,.d (lH xs)),(1,Sb v),(7,I xs.length),(8,I i)],lb nb box [],tok,nt⟩
theorem aEV{l:List ByteArray}{i:Nat}(h:i<l.length):(l.map fun s=>[D.raw (.string s)])[i]?=some [D.raw (.string l[i])]:=by simp[h]
theorem aIg(xs:List ByteArray)(v:ByteArray)(hx:xs.length<=1000000):DC 332 [.d (lH xs),Sb v] (I (xW xs v)):=by
 intro tok nt box nb;refine sI func332 ntmps332 fun Hb Ht=>?_
 repeat first|simp|refine sR ?_
 refine sN ?_;refine sL (aOP xs v nb box tok nt) (fun i=>i<=xs.length/\v∉xs.take i) (fun i=>xs.length-i) 0 ⟨Nat.zero_le _,by simp⟩ (wM (nr0 _) rfl (by simp[ToL,lk]) trivial) ?_;rintro i S' ⟨hi,htk⟩ hS;simp only[aOP] at hS;subst hS;have hw:=sW (i:=i) (by omega);repeat first|simp|refine sR ?_|refine sC ?_
 refine⟨fun hlt=>?_,fun hge=>?_⟩
 .have hsp:xs=xs.take i++xs[i]::xs.drop (i+1):=by simp
  by_cases he:v=xs[i]
  .have b:(v.toList==xs[i].toList)=true:=by rw[cV];simpa using he
   have hmem:oQ xs v=true:=rN.2 (by rw[he];exact List.getElem_mem _)
   have hid:xs.findIdx (fun x=>decide (v=x))=i:=by
    rw[List.findIdx_eq hlt];refine⟨by simpa using he,fun j hj=>?_⟩;have:¬v=xs[j]:=fun e=>htk (by rw[e,List.mem_take_iff_getElem];exact⟨j,by omega,rfl⟩)
    simpa using this
   repeat first|simp[hlt,b]|refine sR ?_
   refine sC ?_;repeat first|simp|refine sR ?_
   refine sT (sH Hb Ht ?_);simp[xW,hmem,hid]
  .have b:(v.toList==xs[i].toList)=false:=by rw[cV];simpa using he
   repeat first|simp[hlt,b]|refine sR ?_
   refine sC ?_;simp;repeat first|simp[hw]|refine sR ?_
   refine sE ?_;refine⟨i+1,⟨hlt,?_⟩,by omega,wM (nr0 _) rfl (by simp[ToL,lk]) trivial⟩;rw[List.take_succ_eq_append_getElem hlt];simp only[List.mem_append,List.mem_singleton,not_or];exact⟨htk,he⟩
 .refine sX ?_;simp only[AU,↓reduceIte];repeat first|simp|refine sR ?_
  have hn:oQ xs v=false:=by
   rw[List.take_of_length_le hge] at htk;rw[<-Bool.not_eq_true,rN];exact htk
  refine sT (sH Hb Ht ?_);simp[xW,hn]
theorem tR(xs:List ByteArray)(v:ByteArray)(hx:xs.length<=1000000):DC 314 [.d (lH xs),Sb v] (B (oQ xs v)):=by
 intro tok nt box nb;refine sI func314 ntmps314 fun Hb Ht=>?_
 repeat first|simp|refine sR ?_
 refine sD (aIg xs v hx _ _) ?_;repeat first|simp|refine sR ?_
 refine sT (sH Hb Ht ?_);simp[yT]
theorem aCT(s:ByteArray)(c:Int):DC 321 [Sb s,Ub c] (I (Lib.indexByte s.data.toList c.toNat.toUInt8)):=by
 intro tok nt box nb;refine⟨iJ.mk func321 rfl (by kernel_rfl),fun G w vals hm hr=>?_⟩;obtain⟨hlen,hrv⟩:=hr
 match vals,hlen with
 | [v,u],_ =>
  have h0:=hrv 0 (by simp) (by simp);have h1:=hrv 1 (by simp) (by simp);simp only[List.getElem_cons_zero,List.getElem_cons_succ] at h0 h1;cases h0 with
  | d h0 =>
  cases h0 with
  | raw h0 =>
  cases h1 with
  | d h1 =>
  cases h1 with
  | raw h1 =>
   refine(Tryz.strings_IndexByte s c w).mono ?_;rintro e w' ⟨rfl,rfl⟩;exact⟨_,_,_,G,rfl,⟨rfl,rfl⟩,rfl,hm,.d (.raw rfl),Le.refl _ _,fun k hk=>⟨hk,rfl⟩⟩
def pB(c:Int):Bool:=decide (32<=c/\c<=126)&&c != 34
theorem aGc(c:Int):DC 333 [Ub c] (B (pB c)):=by
 intro tok nt box nb;by_cases h1:32<=c
 .by_cases h2:c<=126
  .refine sI func333 ntmps333 fun Hb Ht=>?_
   repeat first|simp[h1,h2]|refine sR ?_
   refine sT (sH Hb Ht ?_);simp[pB,h1,h2]
  .refine sI func333 ntmps333 fun Hb Ht=>?_
   repeat first|simp[h1,h2]|refine sR ?_
   refine sT (sH Hb Ht ?_);simp[pB,h1,h2]
 .refine sI func333 ntmps333 fun Hb Ht=>?_
  repeat first|simp[h1]|refine sR ?_
  refine sT (sH Hb Ht ?_);simp[pB,h1]
theorem uK(p:Int->Bool)(s:ByteArray)(a:Nat):eM p s a<=s.size-a:=by
 have h:=(List.takeWhile_sublist (l:=s.data.toList.drop a) fun b=>p (b.toNat:Int)).length_le;rw[List.length_drop,mR] at h;exact h
theorem aAI{s:ByteArray}:(s.extract 1 s.size).size=s.size-1:=by simp[ByteArray.size_extract]
def aI2(s:ByteArray):Int × Int :=
 if 1+eM pB (s.extract 1 s.size) 0=s.size then (0,2) else if aK s (1+eM pB (s.extract 1 s.size) 0)≠34 then (0,2)
 else if 60<eM pB (s.extract 1 s.size) 0 then (0,3) else ((eM pB (s.extract 1 s.size) 0:Int)+2,0)
theorem aHC(s:ByteArray)(h1:1<=s.size)(hs:s.size<=200000000000000):DC 319 [Sb s] (.tup [I (aI2 s).1,I (aI2 s).2]):=by
 intro tok nt box nb;have hr:=aJn (s.extract 1 s.size) 333 pB (by rw[aAI];omega) tok nt fun c=>aGc c tok nt
 have hle:=uK pB (s.extract 1 s.size) 0;rw[aAI] at hle;have hq:aI2 s=if 1+eM pB (s.extract 1 s.size) 0=s.size then (0,2) else if aK s (1+eM pB (s.extract 1 s.size) 0)≠34 then (0,2) else if 60<eM pB (s.extract 1 s.size) 0 then (0,3) else ((eM pB (s.extract 1 s.size) 0:Int)+2,0):=rfl
 generalize eM pB (s.extract 1 s.size) 0=n at *;have h1':(1:Int)<=s.size:=by omega
 have w1:IntKind.i64.wrap (1+(n:Int))=((1+n:Nat):Int):=by rw[aM (by omega) (by omega)];omega
 have w2:IntKind.i64.wrap ((n:Int)+2)=(n:Int)+2:=aM (by omega) (by omega)
 refine sI func319 ntmps319 fun Hb Ht=>?_
 repeat first|simp[h1,h1']|refine sR ?_
 refine sD (hr) ?_;simp;by_cases e1:1+n=s.size
 .have b1:((1:Int)+n==s.size)=true:=by rw[beq_iff_eq];omega
  rw[if_pos e1] at hq;rw[hq];repeat first|simp[w1,b1]|refine sR ?_
  refine sC ?_;repeat first|simp|refine sR ?_
  refine sT (sH Hb Ht ?_);simp
 .have b1:((1:Int)+n==s.size)=false:=by rw[beq_eq_false_iff_ne];omega
  have hlt:1+n<s.size:=by omega
  have hb:=gY hlt;have l1:(0:Int)<=1+n:=by omega
  have l2:(1:Int)+n<s.size:=by omega
  have t1:((1:Int)+n).toNat=1+n:=by omega
  rw[if_neg e1] at hq;repeat first|simp[w1,b1,l1,l2,t1,hlt]|refine sR ?_
  rw[hb];by_cases e2:aK s (1+n)=34
  .have b2:(aK s (1+n) != 34)=false:=by simp[e2]
   rw[if_neg (by simp[e2])] at hq;simp only[b2];refine sC ?_;simp;repeat first|simp[w2]|refine sR ?_
   by_cases e3:60<n
   .have e4:(60:Int)<n:=by omega
    rw[if_pos e3] at hq;rw[hq];refine sC ?_;simp[e4];repeat first|simp|refine sR ?_
    refine sT (sH Hb Ht ?_);simp
   .have e4:¬(60:Int)<n:=by omega
    rw[if_neg e3] at hq;rw[hq];refine sC ?_;simp[e4];repeat first|simp[w2]|refine sR ?_
    refine sT (sH Hb Ht ?_);simp
  .have b2:(aK s (1+n) != 34)=true:=by simp[e2]
   rw[if_pos e2] at hq;rw[hq];simp only[b2];refine sC ?_;repeat first|simp|refine sR ?_
   refine sT (sH Hb Ht ?_);simp
def aL6:List ByteArray:=[⟨#[45,62]⟩,⟨#[60,61]⟩,⟨#[62,61]⟩,⟨#[61,61]⟩,⟨#[33,61]⟩]
def aCl(s:ByteArray):Bool:=decide (2<=s.size)&&oQ aL6 (s.extract 0 2)
theorem aMq(s:ByteArray)(hs:s.size<=200000000000000):DC 320 [Sb s] (B (aCl s)):=by
 intro tok nt box nb;by_cases h2:2<=s.size
 .have h2':(2:Int)<=s.size:=by omega
  refine sI func320 ntmps320 fun Hb Ht=>?_
  have hc:=tR aL6 (s.extract 0 2) (by decide);repeat first|simp[h2,h2']|refine sR ?_
  refine⟨rfl,?_⟩;refine aN.data ?_;refine sD (hc _ _) ?_;repeat first|simp|refine sR ?_
  refine sT (sH Hb Ht ?_);simp[aCl,h2]
 .have h2':¬(2:Int)<=s.size:=by omega
  refine sI func320 ntmps320 fun Hb Ht=>?_
  repeat first|simp[h2,h2']|refine sR ?_
  refine sT (sH Hb Ht ?_);simp[aCl,h2]
def mK(s:ByteArray):Int × Int × Int :=
 if fH (aK s 0)=true then (if 20<eM pR s 0 then (0,0,3) else (1,eM pR s 0,0))
 else if eN (aK s 0)=true then (if 9<eM eN s 0 then (0,0,3) else (2,eM eN s 0,0))
 else if aK s 0=34 then (3,(aI2 s).1,(aI2 s).2) else if aCl s=true then (4,2,0)
 else if 0<=Lib.indexByte [123,125,40,41,91,93,44,59,58,61,43,45,42,60,62,33,38,124,46,63] (UInt8.ofNat (aK s 0).toNat) then (4,1,0) else (0,0,2)
theorem aMX(s:ByteArray)(h1:1<=s.size)(hs:s.size<=200000000000000):DC 284 [Sb s] (.tup [I (mK s).1,I (mK s).2.1,I (mK s).2.2]):=by
 intro tok nt box nb;have hl:=aCe (aK s 0);have hd:=aBc (aK s 0);have r1:=aJn s 317 pR hs tok nt fun c=>aKL c tok nt
 have r2:=aJn s 318 eN hs tok nt fun c=>aBc c tok nt
 have hq:=aHC s h1 hs;have hp:=aMq s hs;have hx:=fun q=>aCT q (aK s 0)
 have h0:0<s.size:=h1
 have h0':(0:Int)<s.size:=by omega
 have hb:=gY h0;obtain⟨N,hN⟩:∃N,mK s=N:=⟨_,rfl⟩
 rw[hN];unfold mK at hN;have n1:eM pR s 0<=s.size:=uK _ _ _
 have n2:eM eN s 0<=s.size:=uK _ _ _
 generalize eM pR s 0=a1 at *;generalize eM eN s 0=a2 at *;refine sI func284 ntmps284 fun Hb Ht=>?_
 repeat first|simp[h0,h0']|refine sR ?_
 rw[hb];refine sD (hl _ _) ?_;repeat first|simp|refine sR ?_
 cases e1:fH (aK s 0)
 .rw[if_neg (by simp[e1])] at hN;refine sC ?_;repeat first|simp|refine sR ?_
  refine sD (hd _ _) ?_;repeat first|simp|refine sR ?_
  cases e2:eN (aK s 0)
  .rw[if_neg (by simp[e2])] at hN;refine sC ?_;repeat first|simp|refine sR ?_
   by_cases e3:aK s 0=34
   .rw[if_pos e3] at hN;have b3:(aK s 0==34)=true:=by simp[e3]
    simp only[b3];refine sC ?_;repeat first|simp|refine sR ?_
    refine sD (hq _ _) ?_;repeat first|simp|refine sR ?_
    refine sT (sH Hb Ht ?_);simp[<-hN]
   .rw[if_neg e3] at hN;have b3:(aK s 0==34)=false:=by simp[e3]
    simp only[b3];refine sC ?_;repeat first|simp|refine sR ?_
    refine sD (hp _ _) ?_;repeat first|simp|refine sR ?_
    cases e4:aCl s
    .rw[if_neg (by simp[e4])] at hN;refine sC ?_;repeat first|simp|refine sR ?_
     refine sD (hx _ _ _) ?_;repeat first|simp|refine sR ?_
     by_cases e5:0<=Lib.indexByte [123,125,40,41,91,93,44,59,58,61,43,45,42,60,62,33,38,124,46,63] (UInt8.ofNat (aK s 0).toNat)
     .rw[if_pos e5] at hN;refine sC ?_;simp[e5];repeat first|simp|refine sR ?_
      refine sT (sH Hb Ht ?_);simp[<-hN]
     .rw[if_neg e5] at hN;refine sC ?_;simp[e5];repeat first|simp|refine sR ?_
      refine sT (sH Hb Ht ?_);simp[<-hN]
    .rw[if_pos e4] at hN;refine sC ?_;repeat first|simp|refine sR ?_
     refine sT (sH Hb Ht ?_);simp[<-hN]
  .rw[if_pos e2] at hN;refine sC ?_;repeat first|simp|refine sR ?_
   refine sD (r2) ?_;repeat first|simp|refine sR ?_
   by_cases e3:9<a2
   .have e4:(9:Int)<a2:=by omega
    rw[if_pos e3] at hN;refine sC ?_;simp[e4];repeat first|simp|refine sR ?_
    refine sT (sH Hb Ht ?_);simp[<-hN]
   .have e4:¬(9:Int)<a2:=by omega
    rw[if_neg e3] at hN;refine sC ?_;simp[e4];repeat first|simp|refine sR ?_
    refine sT (sH Hb Ht ?_);simp[<-hN]
 .rw[if_pos e1] at hN;refine sC ?_;repeat first|simp|refine sR ?_
  refine sD (r1) ?_;repeat first|simp|refine sR ?_
  by_cases e3:20<a1
  .have e4:(20:Int)<a1:=by omega
   rw[if_pos e3] at hN;refine sC ?_;simp[e4];repeat first|simp|refine sR ?_
   refine sT (sH Hb Ht ?_);simp[<-hN]
  .have e4:¬(20:Int)<a1:=by omega
   rw[if_neg e3] at hN;refine sC ?_;simp[e4];repeat first|simp|refine sR ?_
   refine sT (sH Hb Ht ?_);simp[<-hN]
def cM(s:ByteArray):Bool:=decide (1<=s.size/\s.size<=20)&&fH (aK s 0)&&decide (eM pR s 0=s.size)
theorem aDN{s:ByteArray}(h1:1<=s.size):((decide ((mK s).2.2=0)&&decide ((mK s).1=1))&&decide ((mK s).2.1=(s.size:Int)))=cM s:=by
 unfold cM mK;by_cases e1:fH (aK s 0)=true
 .rw[if_pos e1];by_cases e2:20<eM pR s 0
  .rw[if_pos e2];have:¬((1<=s.size/\s.size<=20)/\eM pR s 0=s.size):=by omega
   rw[Bool.eq_iff_iff];simp[e1];omega
  .rw[if_neg e2];rw[Bool.eq_iff_iff];simp[e1];omega
 .rw[if_neg e1];have e1':fH (aK s 0)=false:=by simpa using e1
  rw[e1'];simp only[Bool.and_false,Bool.false_and];split
  .split<;>simp
  .split
   .simp
   .split
    .simp
    .split<;>simp
theorem nT{s:ByteArray}:(s.toList==(⟨#[]⟩:ByteArray).toList)=decide (s.size=0):=by
 rw[cV,Bool.eq_iff_iff,decide_eq_true_eq,decide_eq_true_eq];constructor
 .rintro rfl;rfl
 .intro h;obtain⟨⟨l⟩⟩:=s;cases l with
  | nil=>rfl
  | cons x r=>simp[ByteArray.size] at h
theorem aIF(s:ByteArray)(hs:s.size<=200000000000000):DC 243 [.agg [I 1,Sb s,I 0]] (.tup [Sb s,B (cM s)]):=by
 intro tok nt box nb;by_cases h0:s.size=0
 .have b0:(s.toList==(⟨#[]⟩:ByteArray).toList)=true:=by rw[nT];simp[h0]
  have hse:s=⟨#[]⟩:=by rw[cV] at b0;simpa using b0
  have hn:cM s=false:=by simp[cM,h0]
  rw[hn];refine sI func243 ntmps243 fun Hb Ht=>?_
  repeat (first|simp|refine sR ?_)
  refine sC ?_
  repeat (first|simp|refine sR ?_)
  have b1:s.toList=[]:=by simpa using b0
  repeat first|simp[b1]|refine sR ?_|refine sC ?_
  refine sT (sH Hb Ht ?_);simp[hse]
 .have b0:(s.toList==(⟨#[]⟩:ByteArray).toList)=false:=by rw[nT];simp[h0]
  have hx:=aMX s (by omega) hs;have hnb:=aDN (s:=s) (by omega);generalize mK s=N at *;refine sI func243 ntmps243 fun Hb Ht=>?_
  repeat (first|simp|refine sR ?_)
  refine sC ?_
  repeat (first|simp|refine sR ?_)
  have b1:¬s.toList=[]:=by simpa using b0
  repeat first|simp[b1]|refine sR ?_|refine sC ?_
  refine sD (hx _ _) ?_;simp;by_cases f1:N.2.2=0
  .have g1:(N.2.2==0)=true:=by simp[f1]
   by_cases f2:N.1=1
   .have g2:(N.1==1)=true:=by simp[f2]
    repeat first|simp[g1,g2]|refine sR ?_
    by_cases f3:N.2.1=(s.size:Int)
    .have g3:(N.2.1==(s.size:Int))=true:=by simp[f3]
     rw[<-hnb];refine sT (sH Hb Ht ?_);simp[f1,f2,f3,g3]
    .have g3:(N.2.1==(s.size:Int))=false:=by simp[f3]
     rw[<-hnb];refine sT (sH Hb Ht ?_);simp[f1,f2,f3,g3]
   .have g2:(N.1==1)=false:=by simp[f2]
    rw[<-hnb];repeat first|simp[g1,g2]|refine sR ?_
    refine sT (sH Hb Ht ?_);simp[f1,f2]
  .have g1:(N.2.2==0)=false:=by simp[f1]
   rw[<-hnb];repeat first|simp[g1]|refine sR ?_
   refine sT (sH Hb Ht ?_);simp[f1]
theorem nM(s:ByteArray)(hs:s.size<=200000000000000):DC 184 [Sb s] (B (cM s)):=by
 intro tok nt box nb;have h:=aIF s hs;refine sI func184 ntmps184 fun Hb Ht=>?_
 repeat first|simp|refine sR ?_
 refine sD (h _ _) ?_;repeat first|simp|refine sR ?_
 refine sT (sH Hb Ht ?_);simp
theorem xX(c:Int):DC 306 [Ub c] (B (fH c)):=by
 intro tok nt box nb;by_cases h1:97<=c
 .by_cases h2:c<=122
  .refine sI func306 ntmps306 fun Hb Ht=>?_
   repeat first|simp[h1,h2]|refine sR ?_
   refine sT (sH Hb Ht ?_);simp[fH,h1,h2]
  .have h3:¬c<=90:=by omega
   have h4:65<=c:=by omega
   refine sI func306 ntmps306 fun Hb Ht=>?_
   repeat first|simp[h1,h2,h3,h4]|refine sR ?_
   refine sT (sH Hb Ht ?_);simp[fH,h1,h2,h3,h4]
 .by_cases h3:65<=c
  .by_cases h4:c<=90
   .refine sI func306 ntmps306 fun Hb Ht=>?_
    repeat first|simp[h1,h3,h4]|refine sR ?_
    refine sT (sH Hb Ht ?_);simp[fH,h1,h3,h4]
   .refine sI func306 ntmps306 fun Hb Ht=>?_
    repeat first|simp[h1,h3,h4]|refine sR ?_
    refine sT (sH Hb Ht ?_);simp[fH,h1,h3,h4]
  .refine sI func306 ntmps306 fun Hb Ht=>?_
   repeat first|simp[h1,h3]|refine sR ?_
   refine sT (sH Hb Ht ?_);simp[fH,h1,h3]
theorem aAG(c:Int):DC 307 [Ub c] (B (eN c)):=by
 intro tok nt box nb;by_cases h1:48<=c
 .by_cases h2:c<=57
  .refine sI func307 ntmps307 fun Hb Ht=>?_
   repeat first|simp[h1,h2]|refine sR ?_
   refine sT (sH Hb Ht ?_);simp[eN,h1,h2]
  .refine sI func307 ntmps307 fun Hb Ht=>?_
   repeat first|simp[h1,h2]|refine sR ?_
   refine sT (sH Hb Ht ?_);simp[eN,h1,h2]
 .refine sI func307 ntmps307 fun Hb Ht=>?_
  repeat first|simp[h1]|refine sR ?_
  refine sT (sH Hb Ht ?_);simp[eN,h1]
def aLt(s:ByteArray)(d:Bool)(nb:Nat)(box:Bxs)(tok:Tks)(nt:Nat)(i:Nat):AS:=⟨tl [(0,Sb s),(1,I 0),(2,B d),(7,I i)],lb nb box [],tok,nt⟩
def pd(d:Bool)(c:Int):Bool:=eN c||(!d&&(fH c||c==95))
theorem aJb:pd false=pR:=by
 funext c
 simp only[pd,pR,Bool.not_false,Bool.true_and];cases fH c<;>cases eN c<;>simp
set_option maxRecDepth 100000 in
theorem aJS(s:ByteArray)(d:Bool)(hs:s.size<=200000000000000):DC 308 [Sb s,I 0,B d] (I (eM (pd d) s 0)):=by
 intro tok nt box nb;have hl:=xX;have hd:=aAG;refine sI func308 ntmps308 fun Hb Ht=>?_
 repeat first|simp|refine sR ?_
 refine sN ?_;refine sL (aLt s d nb box tok nt) (fun i=>i<=s.size/\∀j,j<i->pd d (aK s j)=true) (fun i=>s.size-i) 0 ⟨Nat.zero_le _,by omega⟩ (wM (nr0 _) rfl (by simp[ToL,lk]) trivial) ?_;rintro i S' ⟨hi,hok⟩ hS;simp only[aLt] at hS;subst hS;have hw:=sW (i:=i) (by omega);have hwi:IntKind.i64.wrap (i:Int)=i:=aM (by omega) (by omega)
 by_cases hlt:i<s.size
 .have hbb:=gY hlt;have hr:=uR (p:=pd d) (s:=s) (a:=0) (i:=i) (by omega) (fun j hj=>by rw[Nat.zero_add];exact hok j hj);rw[Nat.zero_add,<-hbb] at hr;have hok2:pd d (s.data[i].toNat)=true->∀j,j<i+1->pd d (aK s j)=true:=fun h j hj=>by
   by_cases e:j=i
   .rw[e,<-hbb];exact h
   .exact hok j (by omega)
  have hd:=hd (s.data[i].toNat);have hl:=hl (s.data[i].toNat);have fin1:pd d (s.data[i].toNat)=false->eM (pd d) s 0=i:=fun h=>hr (.inr h)
  cases ed:eN (s.data[i].toNat)
  .rw[ed] at hd;cases d
   .cases el:fH (s.data[i].toNat)
    .rw[el] at hl;cases eu:((s.data[i].toNat:Int)==95)
     .have hr:=fin1 (by simp[pd,ed,el,eu]);repeat first|simp[hlt,hwi]|refine sR ?_
      refine sD (hd _ _) ?_;simp;repeat first|simp[hlt,hwi]|refine sR ?_
      refine sD (hl _ _) ?_;simp;repeat first|simp[hlt,hwi,eu]|refine sR ?_|refine sC ?_
      refine sX ?_;simp only[AU,↓reduceIte];repeat first|simp|refine sR ?_
      refine sT (sH Hb Ht ?_);simp[hr]
     .have hv:=hok2 (by simp[pd,ed,el,eu]);repeat first|simp[hlt,hwi]|refine sR ?_
      refine sD (hd _ _) ?_;simp;repeat first|simp[hlt,hwi]|refine sR ?_
      refine sD (hl _ _) ?_;simp;repeat first|simp[hlt,hwi,eu]|refine sR ?_
      refine sC ?_;simp;repeat first|simp[hw]|refine sR ?_
      refine sE ?_;exact⟨i+1,⟨hlt,hv⟩,by omega,wM (nr0 _) rfl (by simp[ToL,lk]) trivial⟩
    .rw[el] at hl;have hv:=hok2 (by simp[pd,ed,el]);repeat first|simp[hlt,hwi]|refine sR ?_
     refine sD (hd _ _) ?_;simp;repeat first|simp[hlt,hwi]|refine sR ?_
     refine sD (hl _ _) ?_;simp;repeat first|simp[hlt,hwi]|refine sR ?_
     refine sC ?_;simp;repeat first|simp[hw]|refine sR ?_
     refine sE ?_;exact⟨i+1,⟨hlt,hv⟩,by omega,wM (nr0 _) rfl (by simp[ToL,lk]) trivial⟩
   .have hr:=fin1 (by simp[pd,ed]);repeat first|simp[hlt,hwi]|refine sR ?_
    refine sD (hd _ _) ?_;simp;repeat first|simp[hlt,hwi]|refine sR ?_|refine sC ?_
    refine sX ?_;simp only[AU,↓reduceIte];repeat first|simp|refine sR ?_
    refine sT (sH Hb Ht ?_);simp[hr]
  .rw[ed] at hd;have hv:=hok2 (by simp[pd,ed]);repeat first|simp[hlt,hwi]|refine sR ?_
   refine sD (hd _ _) ?_;simp;repeat first|simp[hlt,hwi]|refine sR ?_
   refine sC ?_;simp;repeat first|simp[hw]|refine sR ?_
   refine sE ?_;exact⟨i+1,⟨hlt,hv⟩,by omega,wM (nr0 _) rfl (by simp[ToL,lk]) trivial⟩
 .have hie:i=s.size:=by omega
  have hr:=uR (p:=pd d) (s:=s) (a:=0) (i:=i) (by omega) (fun j hj=>by rw[Nat.zero_add];exact hok j hj) (.inl (by omega));repeat first|simp[hlt,hwi]|refine sR ?_|refine sC ?_
  refine sX ?_;simp only[AU,↓reduceIte];repeat first|simp|refine sR ?_
  refine sT (sH Hb Ht ?_);simp[hr]
def jR(s:ByteArray)(n:Nat):Int :=
 if n<s.size then (if aK s n=34 then (n:Int)+1 else if aK s n<32∨126<aK s n then 0 else jR s (n+1)) else 0
termination_by s.size-n
theorem wX{s:ByteArray}{n:Nat}(h:¬n<s.size):jR s n=0:=by rw[jR,if_neg h]
theorem aG2{s:ByteArray}{n:Nat}(h:n<s.size)(h1:aK s n=34):jR s n=(n:Int)+1:=by rw[jR,if_pos h,if_pos h1]
theorem xY{s:ByteArray}{n:Nat}(h:n<s.size)(h1:¬aK s n=34)(h2:aK s n<32∨126<aK s n):jR s n=0:=by rw[jR,if_pos h,if_neg h1,if_pos h2]
theorem aFc{s:ByteArray}{n:Nat}(h:n<s.size)(h1:¬aK s n=34)(h2:¬(aK s n<32∨126<aK s n)):jR s n=jR s (n+1):=by rw[jR,if_pos h,if_neg h1,if_neg h2]
theorem aB0(s:ByteArray):∀(k n:Nat),s.size-n=k->1<=n->jR s n=0∨2<=jR s n/\jR s n<=s.size
 | 0,n,hk,_=>.inl (wX (by omega))
 | k+1,n,hk,h1=>by
  have hlt:n<s.size:=by omega
  by_cases e1:aK s n=34
  .rw[aG2 hlt e1];right;omega
  .by_cases e2:aK s n<32∨126<aK s n
   .exact .inl (xY hlt e1 e2)
   .rw[aFc hlt e1 e2];exact aB0 s k (n+1) (by omega) (by omega)
def aFg(s:ByteArray)(nb:Nat)(box:Bxs)(tok:Tks)(nt:Nat)(i:Nat):AS:=⟨tl [(0,Sb s),(1,I 0),(5,I i)],lb nb box [],tok,nt⟩
theorem aDV(s:ByteArray)(hs:s.size<=200000000000000):DC 309 [Sb s,I 0] (I (jR s 1)):=by
 intro tok nt box nb;refine sI func309 ntmps309 fun Hb Ht=>?_
 repeat first|simp|refine sR ?_
 refine sN ?_;by_cases h0:1<=s.size
 .refine sL (aFg s nb box tok nt) (fun i=>i<=s.size/\jR s 1=jR s i) (fun i=>s.size-i) 1 ⟨h0,rfl⟩ (wM (nr0 _) rfl (by simp[ToL,lk]) trivial) ?_;rintro i S' ⟨hi,hq⟩ hS;simp only[aFg] at hS;subst hS;have hw:=sW (i:=i) (by omega);have hwi:IntKind.i64.wrap (i:Int)=i:=aM (by omega) (by omega)
  by_cases hlt:i<s.size
  .have hbb:=gY hlt;repeat (first|simp[hlt,hwi]|refine sR ?_)
   refine sC ?_
   repeat (first|simp[hlt,hwi]|refine sR ?_)
   rw[hbb];by_cases e1:aK s i=34
   .have b1:(aK s i==34)=true:=by simp[e1]
    have hr:=aG2 hlt e1;simp only[b1];refine sC ?_;simp;repeat first|simp[hw]|refine sR ?_
    refine sT (sH Hb Ht ?_);simp[hq,hr]
   .have b1:(aK s i==34)=false:=by simp[e1]
    simp only[b1];refine sC ?_;simp;by_cases e2:aK s i<32
    .have hr:=xY hlt e1 (.inl e2);repeat first|simp[e2]|refine sR ?_
     refine sC ?_;repeat first|simp|refine sR ?_
     refine sT (sH Hb Ht ?_);simp[hq,hr]
    .by_cases e3:126<aK s i
     .have hr:=xY hlt e1 (.inr e3);repeat first|simp[e2,e3]|refine sR ?_
      refine sC ?_;repeat first|simp|refine sR ?_
      refine sT (sH Hb Ht ?_);simp[hq,hr]
     .have hr:=aFc hlt e1 (by omega);repeat first|simp[e2,e3]|refine sR ?_
      refine sC ?_;simp;repeat first|simp[hw]|refine sR ?_
      refine sE ?_;exact⟨i+1,⟨hlt,hq.trans hr⟩,by omega,wM (nr0 _) rfl (by simp[ToL,lk]) trivial⟩
  .have hr:=wX hlt;repeat first|simp[hlt,hwi]|refine sR ?_|refine sC ?_
   refine sX ?_;simp only[AU,↓reduceIte];repeat first|simp|refine sR ?_
   refine sT (sH Hb Ht ?_);simp[hq,hr]
 .have hr:=wX (s:=s) (n:=1) (by omega);refine sL (aFg s nb box tok nt) (fun i=>i=1) (fun i=>0) 1 rfl (wM (nr0 _) rfl (by simp[ToL,lk]) trivial) ?_;rintro i S' rfl hS;simp only[aFg] at hS;subst hS;have h1:¬(1:Int)<s.size:=by omega
  have hwi:IntKind.i64.wrap (1:Int)=1:=rfl
  repeat first|simp[hwi,h1]|refine sR ?_|refine sC ?_
  refine sX ?_;simp only[AU,↓reduceIte];repeat first|simp|refine sR ?_
  refine sT (sH Hb Ht ?_);simp[hr]
def lP:List ByteArray:=[⟨#[45,62]⟩,⟨#[60,61]⟩,⟨#[62,61]⟩,⟨#[61,61]⟩,⟨#[33,61]⟩,⟨#[123]⟩,⟨#[125]⟩,⟨#[40]⟩,⟨#[41]⟩,⟨#[91]⟩,⟨#[93]⟩,⟨#[44]⟩,⟨#[59]⟩,⟨#[58]⟩,⟨#[61]⟩,⟨#[43]⟩,⟨#[45]⟩,⟨#[42]⟩,⟨#[60]⟩,⟨#[62]⟩,⟨#[33]⟩,⟨#[38]⟩,⟨#[124]⟩,⟨#[46]⟩,⟨#[63]⟩]
theorem aGx:DC 310 [] (.d (lH lP)):=by
 intro tok nt box nb;refine sI func310 ntmps310 fun Hb Ht=>?_
 repeat first|simp|refine sR ?_
 refine⟨rfl,?_⟩;repeat first|simp|refine sR ?_
 refine sT (sH Hb Ht ?_);simp[lH,lP]
def wE(s:ByteArray):List ByteArray->Int × ByteArray × Int × Int
 | []=>(0,⟨#[]⟩,0,2)
 | x::r=>if x.size<=s.size/\s.extract 0 x.size=x then (4,x,x.size,0) else wE s r
theorem aGf(s x:ByteArray)(r:List ByteArray):wE s (x::r)=if x.size<=s.size/\s.extract 0 x.size=x then ((4:Int),x,(x.size:Int),(0:Int)) else wE s r:=rfl
theorem aAq(s:ByteArray):∀l,(wE s l).1=4/\(wE s l).2.2.2=0∨(wE s l).2.2.2=2
 | []=>.inr rfl
 | x::r=>by
  unfold wE;split
  .exact .inl ⟨rfl,rfl⟩
  .exact aAq s r
def wO(s:ByteArray):Int × ByteArray × Int × Int :=
 if fH (aK s 0)=true∨eN (aK s 0)=true then
  (if (if eN (aK s 0)=true then 9 else 20)<eM (pd (eN (aK s 0))) s 0 then (0,⟨#[]⟩,0,3)
   else (if eN (aK s 0)=true then 2 else 1,s.extract 0 (eM (pd (eN (aK s 0))) s 0),eM (pd (eN (aK s 0))) s 0,0))
 else if aK s 0=34 then (if jR s 1=0 then (0,⟨#[]⟩,0,2) else if 60<jR s 1-2 then (0,⟨#[]⟩,0,3) else (3,s.extract 1 ((jR s 1).toNat-1),jR s 1,0))
 else wE s lP
def aPa(s:ByteArray)(L:List ByteArray)(nb:Nat)(box:Bxs)(tok:Tks)(nt:Nat)(i:Nat):AS :=
 ⟨tl [(13,I i),(12,.d (lH L)),(4,.ptr (nb+4) 0 0),(0,Sb s),(1,I 0)],lb nb box [(4,[[I 0,Sb ⟨#[]⟩,I 0]])],tok,nt⟩
set_option maxRecDepth 100000 in
theorem aJy(s:ByteArray)(h1:1<=s.size)(hs:s.size<=200000000000000):DC 272 [Sb s,I 0] (.tup [.agg [I (wO s).1,Sb (wO s).2.1,I 0],I (wO s).2.2.1,I (wO s).2.2.2]):=by
 intro tok nt box nb;obtain⟨N,hN⟩:∃N,wO s=N:=⟨_,rfl⟩
 rw[hN];unfold wO at hN;have hl:=xX (aK s 0);have hd:=aAG (aK s 0);have hr:=fun d=>aJS s d hs
 have hq:=aDV s hs;have hqr:=aB0 s _ 1 rfl (nr0 _);have hsg:=aGx;have h0:0<s.size:=h1
 have h0':(0:Int)<s.size:=by omega
 have hb:=gY h0;have hrl:eM (pd (eN (aK s 0))) s 0<=s.size:=uK _ _ _
 cases ed:eN (aK s 0)
 .rw[ed] at hd hrl hN;cases el:fH (aK s 0)
  .rw[el] at hl hN;rw[if_neg (by simp)] at hN;refine sI func272 ntmps272 fun Hb Ht=>?_
   repeat first|simp[h0,h0']|refine sR ?_
   rw[hb];refine sD (hl _ _) ?_;repeat first|simp|refine sR ?_
   refine sD (hd _ _) ?_;repeat (first|simp|refine sR ?_)
   refine sC ?_
   repeat (first|simp|refine sR ?_)
   by_cases e3:aK s 0=34
   .rw[if_pos e3] at hN;have b3:(aK s 0==34)=true:=by simp[e3]
    generalize jR s 1=q at *;repeat first|simp[b3]|refine sR ?_
    refine sC ?_;repeat first|simp|refine sR ?_
    refine sD (hq _ _) ?_;simp;by_cases q0:q=0
    .have b4:(q==0)=true:=by simp[q0]
     rw[if_pos q0] at hN;repeat first|simp[b4]|refine sR ?_
     refine sC ?_;repeat first|simp|refine sR ?_
     refine sT (sH Hb Ht ?_);simp[<-hN]
    .have b4:(q==0)=false:=by simp[q0]
     obtain⟨q1,q2⟩:=hqr.resolve_left q0;rw[if_neg q0] at hN;have w1:IntKind.i64.wrap (q-2)=q-2:=aM (by omega) (by omega)
     have w2:IntKind.i64.wrap q=q:=aM (by omega) (by omega)
     have w3:IntKind.i64.wrap (q-1)=q-1:=aM (by omega) (by omega)
     have w4:IntKind.i64.wrap 1=1:=rfl
     by_cases q3:60<q-2
     .rw[if_pos q3] at hN;repeat first|simp[b4]|refine sR ?_
      refine sC ?_;simp;repeat first|simp[w1]|refine sR ?_
      refine sC ?_;simp[q3];repeat first|simp|refine sR ?_
      refine sT (sH Hb Ht ?_);simp[<-hN]
     .rw[if_neg q3] at hN;have q4:(1:Int)<=q-1:=by omega
      have q5:q-1<=s.size:=by omega
      have q6:1<=q.toNat-1:=by omega
      have q7:q.toNat-1<=s.size:=by omega
      have q8:0<=q-1:=by omega
      repeat first|simp[b4]|refine sR ?_
      refine sC ?_;simp;repeat first|simp[w1]|refine sR ?_
      refine sC ?_;simp[q3];repeat first|simp[w2,w3,w4,q4,q5,q6,q7,q8]|refine sR ?_
      refine⟨by omega,?_⟩;repeat first|simp|refine sR ?_
      refine sT (sH Hb Ht ?_);simp[<-hN]
   .rw[if_neg e3] at hN;have b3:(aK s 0==34)=false:=by simp[e3]
    repeat first|simp[b3]|refine sR ?_
    refine sC ?_;repeat first|simp|refine sR ?_
    refine sD (hsg _ _) ?_;repeat first|simp|refine sR ?_
    refine sN ?_;refine sL (aPa s lP nb box tok nt) (fun i=>i<=lP.length/\wE s lP=wE s (lP.drop i)) (fun i=>lP.length-i) 0 ⟨Nat.zero_le _,rfl⟩ wkA ?_;rintro i S' ⟨hi,hsq⟩ hS;simp only[aPa] at hS;subst hS;have hlen:lP.length<=1000:=by decide
    have hmax:∀x∈lP,x.size<=2:=by decide
    generalize lP=L at *;have hw:=sW (i:=i) (by omega);repeat first|simp|refine sR ?_|refine sC ?_
    refine⟨fun hlt=>?_,fun hge=>?_⟩
    .have hx:=hmax _ (List.getElem_mem hlt);have hdr:L.drop i=L[i]::L.drop (i+1):=List.drop_eq_getElem_cons hlt
     have hwx:IntKind.i64.wrap (L[i].size:Int)=L[i].size:=aM (by omega) (by omega)
     rw[hdr] at hsq;rw[aGf] at hsq;by_cases c1:L[i].size<=s.size
     .have c1':(L[i].size:Int)<=s.size:=by omega
      by_cases c2:s.extract 0 L[i].size=L[i]
      .have b2:((s.extract 0 L[i].size).toList==L[i].toList)=true:=by rw[cV];simp[c2]
       rw[if_pos ⟨c1,c2⟩] at hsq;repeat first|simp[hlt,hwx,c1,c1',b2]|refine sR ?_
       refine sC ?_;simp[hlt,hwx,c1,c1',b2]
       refine sN ?_;refine AL.region2 cA (nr0 _) (by kernel_rfl) (oO.of (by simp)) ?_;simp[hlt];refine sT (sH Hb Ht ?_);simp[hsq,<-hN]
      .have b2:((s.extract 0 L[i].size).toList==L[i].toList)=false:=by rw[cV];simp[c2]
       rw[if_neg fun h=>c2 h.2] at hsq;repeat first|simp[hlt,hwx,c1,c1',b2]|refine sR ?_
       refine sC ?_;simp;repeat first|simp[hw]|refine sR ?_
       refine sE ?_;exact⟨i+1,⟨hlt,hsq⟩,by omega,wkA⟩
     .have c1':¬(L[i].size:Int)<=s.size:=by omega
      rw[if_neg fun h=>c1 h.1] at hsq;repeat first|simp[hlt,hwx,c1,c1']|refine sR ?_
      refine sC ?_;simp;repeat first|simp[hw]|refine sR ?_
      refine sE ?_;exact⟨i+1,⟨hlt,hsq⟩,by omega,wkA⟩
    .refine sX ?_;simp only[AU,↓reduceIte];repeat first|simp|refine sR ?_
     have hie:i=L.length:=by omega
     rw[hie,List.drop_length] at hsq;refine sT (sH Hb Ht ?_);simp[<-hN,hsq,wE]
  .rw[el] at hl hN;rw[if_pos (by simp)] at hN;have hr:=hr false;generalize eM (pd false) s 0=n at *;refine sI func272 ntmps272 fun Hb Ht=>?_
   repeat first|simp[h0,h0']|refine sR ?_
   rw[hb];refine sD (hl _ _) ?_;repeat first|simp|refine sR ?_
   refine sC ?_;repeat first|simp|refine sR ?_
   refine sD (hd _ _) ?_;repeat first|simp|refine sR ?_
   refine sD (hr _ _) ?_;repeat first|simp|refine sR ?_
   refine sD (hd _ _) ?_;repeat first|simp|refine sR ?_
   refine sC ?_;repeat first|simp|refine sR ?_
   by_cases e3:20<n
   .have e4:(20:Int)<n:=by omega
    simp only[Bool.false_eq_true,if_false] at hN;rw[if_pos e3] at hN;refine sC ?_;simp[e4];repeat first|simp|refine sR ?_
    refine sT (sH Hb Ht ?_);simp[<-hN]
   .have e4:¬(20:Int)<n:=by omega
    simp only[Bool.false_eq_true,if_false] at hN;rw[if_neg e3] at hN;have hwn:IntKind.i64.wrap (n:Int)=n:=aM (by omega) (by omega)
    have hns:(n:Int)<=s.size:=by omega
    refine sC ?_;simp[e4];repeat first|simp[hwn,hns,hrl]|refine sR ?_
    refine sT (sH Hb Ht ?_);simp[<-hN]
 .rw[ed] at hd hrl hN;have el:fH (aK s 0)=false:=by
   have:=ed
   unfold eN at this;unfold fH;simp only[decide_eq_true_eq,decide_eq_false_iff_not] at this ⊢;omega
  rw[el] at hl;rw[if_pos (by simp)] at hN;have hr:=hr true;generalize eM (pd true) s 0=n at *;refine sI func272 ntmps272 fun Hb Ht=>?_
  repeat first|simp[h0,h0']|refine sR ?_
  rw[hb];refine sD (hl _ _) ?_;repeat first|simp|refine sR ?_
  refine sD (hd _ _) ?_;repeat first|simp|refine sR ?_
  refine sC ?_;repeat first|simp|refine sR ?_
  refine sD (hd _ _) ?_;repeat first|simp|refine sR ?_
  refine sD (hr _ _) ?_;repeat first|simp|refine sR ?_
  refine sD (hd _ _) ?_;repeat first|simp|refine sR ?_
  refine sC ?_;repeat first|simp|refine sR ?_
  by_cases e3:9<n
  .have e4:(9:Int)<n:=by omega
   simp only[if_true] at hN;rw[if_pos e3] at hN;refine sC ?_;simp[e4];repeat first|simp|refine sR ?_
   refine sT (sH Hb Ht ?_);simp[<-hN]
  .have e4:¬(9:Int)<n:=by omega
   simp only[if_true] at hN;rw[if_neg e3] at hN;have hwn:IntKind.i64.wrap (n:Int)=n:=aM (by omega) (by omega)
   have hns:(n:Int)<=s.size:=by omega
   refine sC ?_;simp[e4];repeat first|simp[hwn,hns,hrl]|refine sR ?_
   refine sT (sH Hb Ht ?_);simp[<-hN]
theorem aKZ{c:Int}(h:fH c=true):eN c=false:=by
 unfold fH at h;unfold eN;simp only[decide_eq_true_eq,decide_eq_false_iff_not] at h ⊢;omega
theorem aGi{s:ByteArray}(h1:1<=s.size):((decide ((wO s).2.2.2=0)&&decide ((wO s).2.2.1=(s.size:Int)))&&decide ((wO s).1=1))=cM s:=by
 unfold cM wO;by_cases e1:fH (aK s 0)=true
 .have e2:=aKZ e1;rw[if_pos (.inl e1),e2,aJb];simp only[Bool.false_eq_true,if_false];by_cases e3:20<eM pR s 0
  .rw[if_pos e3,Bool.eq_iff_iff];simp[e1];omega
  .rw[if_neg e3,Bool.eq_iff_iff];simp[e1];omega
 .have e1':fH (aK s 0)=false:=by simpa using e1
  rw[e1'];simp only[Bool.and_false,Bool.false_and];split
  .rename_i h;have hd:eN (aK s 0)=true:=h.resolve_left (by simp)
   rw[hd];simp only[if_true];split<;>simp
  .split
   .split
    .simp
    .split<;>simp
   .rcases aAq s lP with ⟨k1,_⟩|k1<;>simp[k1]
theorem aHA(s:ByteArray):DC 271 [.agg [I 1,Sb s,I 0]] (Sb s):=by
 intro tok nt box nb;refine sI func271 ntmps271 fun Hb Ht=>?_
 repeat first|simp|refine sR ?_
 refine sC ?_;repeat first|simp|refine sR ?_
 refine sT (sH Hb Ht ?_);simp
theorem aGC(s:ByteArray)(hs:s.size<=200000000000000):DC 221 [.agg [I 1,Sb s,I 0]] (B (cM s)):=by
 intro tok nt box nb;have ht:=aHA s;by_cases h0:s.size=0
 .have b0:(s.toList==(⟨#[]⟩:ByteArray).toList)=true:=by rw[nT];simp[h0]
  have b1:s.toList=[]:=by simpa using b0
  have hn:cM s=false:=by simp[cM,h0]
  rw[hn];refine sI func221 ntmps221 fun Hb Ht=>?_
  repeat first|simp|refine sR ?_
  refine sD (ht _ _) ?_;repeat first|simp[b1]|refine sR ?_|refine sC ?_
  refine sT (sH Hb Ht ?_);simp
 .have b0:(s.toList==(⟨#[]⟩:ByteArray).toList)=false:=by rw[nT];simp[h0]
  have b1:¬s.toList=[]:=by simpa using b0
  have hx:=aJy s (by omega) hs;have hnb:=aGi (s:=s) (by omega);rw[<-hnb];generalize wO s=N at *;refine sI func221 ntmps221 fun Hb Ht=>?_
  repeat first|simp|refine sR ?_
  refine sD (ht _ _) ?_;repeat first|simp[b1]|refine sR ?_|refine sC ?_
  refine sD (hx _ _) ?_;simp;by_cases f1:N.2.2.2=0
  .have g1:(N.2.2.2==0)=true:=by simp[f1]
   by_cases f3:N.2.2.1=(s.size:Int)
   .have g3:(N.2.2.1==(s.size:Int))=true:=by simp[f3]
    repeat first|simp[g1,g3]|refine sR ?_
    by_cases f2:N.1=1
    .have g2:(N.1==1)=true:=by simp[f2]
     refine sT (sH Hb Ht ?_);simp[f1,f2,f3,g2]
    .have g2:(N.1==1)=false:=by simp[f2]
     refine sT (sH Hb Ht ?_);simp[f1,f2,f3,g2]
   .have g3:(N.2.2.1==(s.size:Int))=false:=by simp[f3]
    repeat first|simp[g1,g3]|refine sR ?_
    refine sT (sH Hb Ht ?_);simp[f1,f3]
  .have g1:(N.2.2.2==0)=false:=by simp[f1]
   repeat first|simp[g1]|refine sR ?_
   refine sT (sH Hb Ht ?_);simp[f1]
theorem iM(s:ByteArray)(hs:s.size<=200000000000000):DC 165 [Sb s] (B (cM s)):=by
 intro tok nt box nb;have h:=aGC s hs;refine sI func165 ntmps165 fun Hb Ht=>?_
 repeat first|simp|refine sR ?_
 refine sD (h _ _) ?_;repeat first|simp|refine sR ?_
 refine sT (sH Hb Ht ?_);simp
variable {P:Program}
def iR(cx:Cx)(nt0:Nat)(S S':AS):Prop:=∀G0 w0 G a w,aFx cx nt0 G0->G0.nt<=nt0->cP cx.n cx.nb G S a w->LeC cx G0 w0 G w S->∃G',cP cx.n cx.nb G' S' a w/\LeC cx G0 w0 G' w S'
theorem AT.trans{cx:Cx}{nt0:Nat}{c:Code}{S S':AS}{K:Exit->AS->Prop}(h:iR cx nt0 S S')(k:AT P cx nt0 c S' K):AT P cx nt0 c S K:=by
 intro G0 w0 he hn G a w hr hl;obtain⟨G',hr',hl'⟩:=h G0 w0 G a w he hn hr hl;exact k G0 w0 he hn G' a w hr' hl'
theorem AL.trans{cx:Cx}{nt0:Nat}{K:Exit->AS->Prop}{r:List CI}{S S':AS}{x:Code}(hw:iR cx nt0 S S')(h:AL P cx nt0 K (.c x::r) S'):AL P cx nt0 K (.c x::r) S:=by
 simp only[AL] at h ⊢;exact AT.trans hw h
inductive tV (t k sz:Nat) (es:List (List D)):AV->AV->Prop
 | bot {x}:tV t k sz es x .bot
 | same {x}:tV t k sz es x x
 | ex:tV t k sz es (.ex t sz es) (.msl k 0 es.length sz)
 | agg {cs ds:List AV} (hl:cs.length=ds.length) (h:∀i (h1:i<cs.length) (h2:i<ds.length),tV t k sz es cs[i] ds[i]):tV t k sz es (.agg cs) (.agg ds)
def ThR(t k sz:Nat)(es:List (List D))(r r':List AV):Prop:=r.length=r'.length/\∀i (h1:i<r.length) (h2:i<r'.length),tV t k sz es r[i] r'[i]
def aBi(t k sz:Nat)(es:List (List D))(r r':List (List AV)):Prop:=r.length=r'.length/\∀i (h1:i<r.length) (h2:i<r'.length),ThR t k sz es r[i] r'[i]
def ThL(t k sz:Nat)(es:List (List D)):List (Nat × AV)->List (Nat × AV)->Prop
 | [],[]=>True
 | (i,x)::a,(j,y)::b=>i=j/\tV t k sz es x y/\ThL t k sz es a b
 | _,_=>False
def ThB(t k sz:Nat)(es:List (List D)):List (Nat × List (List AV))->List (Nat × List (List AV))->Prop
 | [],[]=>True
 | (i,x)::a,(j,y)::b=>i=j/\aBi t k sz es x y/\ThB t k sz es a b
 | _,_=>False
theorem ThL.at{t k sz:Nat}{es:List (List D)}:∀{l l':List (Nat × AV)},ThL t k sz es l l'->∀i,tV t k sz es (tl l i) (tl l' i)
 | [],[],_,i=>.same
 | (i,x)::a,(j,y)::b,h,q=>by
  obtain⟨rfl,h1,h2⟩:=h;rw[jK,jK];split
  .exact h1
  .exact ThL.at h2 q
 | [],_::_,h,_=>h.elim
 | _::_,[],h,_=>h.elim
theorem ThB.at{t k sz:Nat}{es:List (List D)}:∀{l l':List (Nat × List (List AV))},ThB t k sz es l l'->∀i,(lk l i=none/\lk l' i=none)∨∃r r',lk l i=some r/\lk l' i=some r'/\aBi t k sz es r r'
 | [],[],_,i=>.inl ⟨rfl,rfl⟩
 | (i,x)::a,(j,y)::b,h,q=>by
  obtain⟨rfl,h1,h2⟩:=h;rw[cB,cB];split
  .exact .inr ⟨x,y,rfl,rfl,h1⟩
  .exact ThB.at h2 q
 | [],_::_,h,_=>h.elim
 | _::_,[],h,_=>h.elim
theorem aBi.flat{t k sz:Nat}{es:List (List D)}:∀{r r':List (List AV)},aBi t k sz es r r'->ThR t k sz es r.flatten r'.flatten
 | [],[],_=>⟨rfl,fun i h=>by simp at h⟩
 | x::a,y::b,h=>by
  have h0:=h.2 0 (by simp) (by simp);have ih:ThR t k sz es a.flatten b.flatten:=aBi.flat ⟨by simpa using h.1,fun i h1 h2=>h.2 (i+1) (by simpa using h1) (by simpa using h2)⟩
  simp only[List.getElem_cons_zero] at h0;refine⟨by simp[h0.1,ih.1],fun i h1 h2=>?_⟩;have hl:=h0.1;have hi2:=ih.1;simp only[List.flatten_cons] at h1 h2 ⊢;rw[List.length_append] at h1 h2;by_cases hi:i<x.length
  .have e1:(x++a.flatten)[i]'(by rw[List.length_append];omega)=x[i]:=List.getElem_append_left hi
   have e2:(y++b.flatten)[i]'(by rw[List.length_append];omega)=y[i]'(by omega):=List.getElem_append_left (by omega)
   rw[e1,e2];exact h0.2 i hi _
  .have e1:(x++a.flatten)[i]'(by rw[List.length_append];omega)=a.flatten[i-x.length]'(by omega):=List.getElem_append_right (by omega)
   have e2:(y++b.flatten)[i]'(by rw[List.length_append];omega)=b.flatten[i-y.length]'(by omega):=List.getElem_append_right (by omega)
   rw[e1,e2];have:=ih.2 (i-x.length) (by omega) (by omega)
   simp only[hl] at this ⊢;exact this
 | [],_::_,h=>by have:=h.1;simp at this
 | _::_,[],h=>by have:=h.1;simp at this
theorem wD(es:List (List D)):(cG es).flatten=es.flatten.map AV.d:=by
 induction es with
 | nil=>rfl
 | cons e es ih=>simp only[cG,List.map_cons,List.flatten_cons,List.map_append] at ih ⊢;rw[ih]
inductive uH (t k sz:Nat) (es:List (List D)):AV->AV->Prop
 | bot {x}:uH t k sz es x .bot
 | same {x} (h:bF (· ≠ k) (fun _=>True) x):uH t k sz es x x
 | msl:uH t k sz es (.msl k 0 es.length sz) (.ex t sz es)
 | agg {cs ds:List AV} (hl:cs.length=ds.length) (h:∀i (h1:i<cs.length) (h2:i<ds.length),uH t k sz es cs[i] ds[i]):uH t k sz es (.agg cs) (.agg ds)
def SeR(t k sz:Nat)(es:List (List D))(r r':List AV):Prop:=r.length=r'.length/\∀i (h1:i<r.length) (h2:i<r'.length),uH t k sz es r[i] r'[i]
def aIj(t k sz:Nat)(es:List (List D))(r r':List (List AV)):Prop:=r.length=r'.length/\∀i (h1:i<r.length) (h2:i<r'.length),SeR t k sz es r[i] r'[i]
def SeL(t k sz:Nat)(es:List (List D)):List (Nat × AV)->List (Nat × AV)->Prop
 | [],[]=>True
 | (i,x)::a,(j,y)::b=>i=j/\uH t k sz es x y/\SeL t k sz es a b
 | _,_=>False
def SeB(t k sz:Nat)(es:List (List D)):List (Nat × List (List AV))->List (Nat × List (List AV))->Prop
 | [],[]=>True
 | (i,x)::a,(j,y)::b=>i=j/\aIj t k sz es x y/\SeB t k sz es a b
 | _,_=>False
theorem SeL.at{t k sz:Nat}{es:List (List D)}:∀{l l':List (Nat × AV)},SeL t k sz es l l'->∀i,uH t k sz es (tl l i) (tl l' i)
 | [],[],_,i=>.bot
 | (i,x)::a,(j,y)::b,h,q=>by
  obtain⟨rfl,h1,h2⟩:=h;rw[jK,jK];split
  .exact h1
  .exact SeL.at h2 q
 | [],_::_,h,_=>h.elim
 | _::_,[],h,_=>h.elim
theorem SeB.at{t k sz:Nat}{es:List (List D)}:∀{l l':List (Nat × List (List AV))},SeB t k sz es l l'->∀i,(lk l i=none/\lk l' i=none)∨∃r r',lk l i=some r/\lk l' i=some r'/\aIj t k sz es r r'
 | [],[],_,i=>.inl ⟨rfl,rfl⟩
 | (i,x)::a,(j,y)::b,h,q=>by
  obtain⟨rfl,h1,h2⟩:=h;rw[cB,cB];split
  .exact .inr ⟨x,y,rfl,rfl,h1⟩
  .exact SeB.at h2 q
 | [],_::_,h,_=>h.elim
 | _::_,[],h,_=>h.elim
theorem aIj.flat{t k sz:Nat}{es:List (List D)}:∀{r r':List (List AV)},aIj t k sz es r r'->SeR t k sz es r.flatten r'.flatten
 | [],[],_=>⟨rfl,fun i h=>by simp at h⟩
 | x::a,y::b,h=>by
  have h0:=h.2 0 (by simp) (by simp);have ih:SeR t k sz es a.flatten b.flatten:=aIj.flat ⟨by simpa using h.1,fun i h1 h2=>h.2 (i+1) (by simpa using h1) (by simpa using h2)⟩
  simp only[List.getElem_cons_zero] at h0;refine⟨by simp[h0.1,ih.1],fun i h1 h2=>?_⟩;have hl:=h0.1;have hi2:=ih.1;simp only[List.flatten_cons] at h1 h2 ⊢;rw[List.length_append] at h1 h2;by_cases hi:i<x.length
  .have e1:(x++a.flatten)[i]'(by rw[List.length_append];omega)=x[i]:=List.getElem_append_left hi
   have e2:(y++b.flatten)[i]'(by rw[List.length_append];omega)=y[i]'(by omega):=List.getElem_append_left (by omega)
   rw[e1,e2];exact h0.2 i hi _
  .have e1:(x++a.flatten)[i]'(by rw[List.length_append];omega)=a.flatten[i-x.length]'(by omega):=List.getElem_append_right (by omega)
   have e2:(y++b.flatten)[i]'(by rw[List.length_append];omega)=b.flatten[i-y.length]'(by omega):=List.getElem_append_right (by omega)
   rw[e1,e2];have:=ih.2 (i-x.length) (by omega) (by omega)
   simp only[hl] at this ⊢;exact this
 | [],_::_,h=>by have:=h.1;simp at this
 | _::_,[],h=>by have:=h.1;simp at this
section
variable {t k sz:Nat} {es:List (List D)}
@[simp] theorem aO0(x:AV):tV t k sz es x .bot:=.bot
@[simp] theorem aNv(x:AV):tV t k sz es x x:=.same
@[simp] theorem aQr{n:Nat}:tV t k sz es (.ex t sz es) (.msl k 0 n sz)↔n=es.length:=⟨fun h=>by cases h;rfl,fun h=>by subst h;exact .ex⟩
@[simp] theorem aOd(x:AV):uH t k sz es x .bot:=.bot
@[simp] theorem aRO(x:D):uH t k sz es (.d x) (.d x):=.same .d
@[simp] theorem aQa(n:Nat)(xs:List (List D))(o:Own):uH t k sz es (.osl n xs o) (.osl n xs o):=.same (.osl fun _ _=>trivial)
@[simp] theorem aPi:uH t k sz es (.msl k 0 es.length sz) (.ex t sz es):=.msl
end
@[simp] theorem aSc{p:Nat->Prop}{fz:Option (Nat × Nat × List (List D))}(t sz:Nat)(es:List (List D)):To p (fun _=>True) fz (.ex t sz es) (.ex t sz es):=.same (.ex trivial)
@[simp] theorem aQi{p q:Nat->Prop}{t sz:Nat}{es:List (List D)}:bF p q (.ex t sz es)↔q t:=⟨fun h=>by cases h;assumption,.ex⟩
theorem TK.more{mtok:Nat->Bool}{nt0:Nat}{tok:Nat->Bool}{nt:Nat}{os:List Own}(h:TK mtok nt0 tok nt os)(q:Nat):TK mtok nt0 (upd tok (nt+q) true) (nt+q+1) (.tok (nt+q)::os):=by
 have hle:=h.le;refine⟨fun t ht=>?_,h.lt,by omega,fun o ho t e=>?_,List.pairwise_cons.2 ⟨fun o ho t e e'=>?_,h.ne⟩⟩
 .have:=h.lt t ht
  rw[uO _ _ (by omega)];exact h.old t ht
 .rcases List.mem_cons.1 ho with rfl|ho
  .cases e;exact⟨uS _ _ _,by omega,by omega⟩
  .obtain⟨h1,h2,h3⟩:=h.own o ho t e;exact⟨by rw[uO _ _ (by omega)];exact h1,h2,by omega⟩
 .cases e;have:=(h.own o ho _ e').2.2
  omega
abbrev U(n:Int):AV:=.d (.raw (.int .u64 n))
theorem u64_in{n:Int}(h0:0<=n)(h1:n<=18446744073709551615):IntKind.u64.wrap n=n:=by
 exact IntWalk.u64_in n ⟨h0,h1⟩
@[simp] theorem aMw(l:List Int):(dG l).tail=dG l.tail:=by simp[dG]
structure Sl where
 a:Int
 b:Int
 c:Int
 d:Int
 deriving DecidableEq,Inhabited
structure Te where
 k:Int
 a:Int
 b:Int
 c:Int
 d:Int
 deriving DecidableEq,Inhabited
abbrev Sl.cells(s:Sl):List D:=[.raw (.int .i64 s.a),.raw (.int .i64 s.b),.raw (.int .i64 s.c),.raw (.int .i64 s.d)]
abbrev Te.cells(t:Te):List D:=[.raw (.int .i64 t.k),.raw (.int .i64 t.a),.raw (.int .i64 t.b),.raw (.int .i64 t.c),.raw (.int .i64 t.d)]
abbrev gS(l:List Sl):D:=.sl 4 (l.map Sl.cells)
abbrev gR(l:List Te):D:=.sl 5 (l.map Te.cells)
inductive Cd where
 | mk (kind:Int) (kids:List Cd) (m:Mo) (g:Gr) (sl:List Sl) (vars:Int) (te:List Te)
def Cd.kind:Cd->Int|.mk k _ _ _ _ _ _=>k
def Cd.kids:Cd->List Cd|.mk _ c _ _ _ _ _=>c
def Cd.m:Cd->Mo|.mk _ _ m _ _ _ _=>m
def Cd.g:Cd->Gr|.mk _ _ _ g _ _ _=>g
def Cd.sl:Cd->List Sl|.mk _ _ _ _ s _ _=>s
def Cd.vars:Cd->Int|.mk _ _ _ _ _ v _=>v
def Cd.te:Cd->List Te|.mk _ _ _ _ _ _ t=>t
mutual
def Cd.cells:Cd->List D
 | .mk k c m g s v t=>[.raw (.int .i64 k),.sl 9 (Cd.rows c),ints m.nodes,ints m.edges,ints g.nodes,AM.edges g.edges,gS s,.raw (.int .i64 v),gR t]
def Cd.rows:List Cd->List (List D)
 | []=>[]
 | x::r=>Cd.cells x::Cd.rows r
end
theorem Cd.rows_map:∀l:List Cd,Cd.rows l=l.map Cd.cells
 | []=>by simp[Cd.rows]
 | x::r=>by simp[Cd.rows,Cd.rows_map r]
theorem Cd.cells_eq(c:Cd):c.cells=[.raw (.int .i64 c.kind),.sl 9 (c.kids.map Cd.cells),ints c.m.nodes,ints c.m.edges,ints c.g.nodes,AM.edges c.g.edges,gS c.sl,.raw (.int .i64 c.vars),gR c.te]:=by
 cases c;simp[Cd.cells,Cd.rows_map,Cd.kind,Cd.kids,Cd.m,Cd.g,Cd.sl,Cd.vars,Cd.te]
abbrev aAE(l:List Cd):D:=.sl 9 (l.map Cd.cells)
abbrev Cd.row(c:Cd):List AV:=[I c.kind,.d (aAE c.kids),.d (ints c.m.nodes),.d (ints c.m.edges),.d (ints c.g.nodes),.d (AM.edges c.g.edges),.d (gS c.sl),I c.vars,.d (gR c.te)]
abbrev Cd.av(c:Cd):AV:=.agg c.row
def dN:Nat:=100000000000000
theorem bM:dN=100000000000000:=rfl
def aIs:Nat:=764877654105
theorem aJG:aIs=764877654105:=rfl
inductive Cd.Big:Cd->Prop
 | mk {c:Cd} (hk:c.kids.length<=aIs) (hmn:c.m.nodes.length<=dN) (hme:c.m.edges.length<=dN) (hgn:c.g.nodes.length<=dN) (hge:c.g.edges.length<=dN) (hs:c.sl.length<=dN) (ht:c.te.length<=dN)
   (h:∀x∈c.kids,Cd.Big x):Cd.Big c
theorem Cd.Big.kids{c:Cd}(h:c.Big):c.kids.length<=aIs:=by cases h;assumption
mutual
def Cd.meas:Cd->Int × Int
 | .mk k c _ _ _ _ _=>let a:=Cd.measL c (1,0);if k=5 then (a.1,IntKind.i64.wrap (a.2+1)) else a
def Cd.measL:List Cd->Int × Int->Int × Int
 | [],a=>a
 | x::r,a=>Cd.measL r (IntKind.i64.wrap (a.1+(Cd.meas x).1),max a.2 (Cd.meas x).2)
end
theorem Cd.get{l:List Cd}{i:Nat}(h:i<l.length):(l.map Cd.cells)[i]?=some [.raw (.int .i64 l[i].kind),aAE l[i].kids,ints l[i].m.nodes,ints l[i].m.edges,ints l[i].g.nodes,AM.edges l[i].g.edges,gS l[i].sl,.raw (.int .i64 l[i].vars),gR l[i].te]:=by
 simp[h,Cd.cells_eq l[i]]
def z0(n:Int):Bool:=n==0
def aHE(c:Cd):Bool:=z0 c.sl.length&&(z0 c.vars&&z0 c.te.length)
def aBI(c:Cd):Bool:=z0 c.m.nodes.length&&(z0 c.m.edges.length&&(z0 c.g.nodes.length&&(z0 c.g.edges.length&&aHE c)))
def okC(c:Cd):Bool :=
 if c.kind=1 then z0 c.kids.length&&aBI c
 else if c.kind=2 then decide ((c.kids.length:Int)=1)&&aBI c
 else if c.kind=3∨c.kind=4 then decide (0<c.kids.length)&&aBI c
 else if c.kind=5 then decide ((c.kids.length:Int)=1)
 else false
def aIa(c:Cd):Int:=if okC c=true then if aHE c=true then 0 else 8 else 1
def aM2(c:Cd):Int:=if 2000<c.meas.1∨3<c.meas.2 then 3 else 0
variable {P:Program}
inductive Bo (box:Bxs):AV->AV->Prop
 | same {x} (h:bF (fun _=>False) (fun _=>True) x):Bo box x x
 | msl {k sz:Nat} {es:List (List D)} (hk:box k=some (cG es)):Bo box (.msl k 0 es.length sz) (.d (.sl sz es))
def BoL(box:Bxs):List AV->List AV->Prop
 | [],[]=>True
 | x::a,y::b=>Bo box x y/\BoL box a b
 | _,_=>False
theorem Bo.ext{box box':Bxs}(he:Ext box box'){x y:AV}(h:Bo box x y):Bo box' x y:=by
 cases h with
 | same h=>exact .same h
 | msl h=>exact .msl (he _ _ h)
theorem BoL.ext{box box':Bxs}(he:Ext box box'):∀{a b:List AV},BoL box a b->BoL box' a b
 | [],[],_=>trivial
 | x::a,y::b,h=>⟨h.1.ext he,BoL.ext he h.2⟩
 | [],_::_,h=>h.elim
 | _::_,[],h=>h.elim
def Gh.lend(G:Gh)(p:Nat->Prop)[DecidablePred p]:Gh:={ bx:=fun _=>none,kind:=fun b=>if p b then .whole else G.kind b,tk:=G.tk,nt:=G.nt }
theorem aEZ{G:Gh}{p:Nat->Prop}[DecidablePred p]{a:Addr}(h:G.ps a):(G.lend p).ps a:=by
 unfold Gh.ps at h ⊢;simp only[Gh.lend];by_cases e:p a.block
 .simp[e]
 .simp only[e,↓reduceIte];exact h
theorem RV.lend{G:Gh}{w:World}{p:Nat->Prop}[DecidablePred p](hp:∀b,p b->G.kind b=.box){x:AV}{v:Value}(h:RV G w x v)(ho:bF (fun _=>False) (fun _=>True) x):RV (G.lend p) w x v:=by
 have hc:∀(a:Addr) (u:Value),G.ps a->w.cell? a=some u->(G.lend p).ps a/\w.cell? a=some u:=fun a u h1 h2=>⟨aEZ h1,h2⟩
 have hk:∀g,G.kind g≠.box->(G.lend p).kind g=G.kind g:=fun g hg=>by
  simp only[Gh.lend];rw[if_neg fun e=>hg (hp g e)]
 induction h with
 | bot=>exact .bot
 | d h1=>exact .d (h1.mono hc)
 | osl h1 h2 =>
  refine .osl (h1.mono hc) ?_;rename_i o _;cases o with
  | full=>exact h2
  | tok t =>
   refine⟨h2.1,fun y hy=>?_⟩;have:=h2.2 y hy
   cases y with
   | none=>exact this
   | some g =>
    obtain⟨cap,hv,hg⟩:=this;exact⟨cap,hv,(hk g (by rw[hg];intro e;cases e)).trans hg⟩
 | ptr h1=>cases ho with|ptr h=>exact h.elim
 | here h1 h2=>cases ho with|here h=>exact h.elim
 | buf h1 h2 h3 h4 =>
  refine .buf (h1.mono hc) ⟨h2.1,fun y hy=>?_⟩ h3 h4;have:=h2.2 y hy
  cases y with
  | none=>exact this
  | some g =>
   obtain⟨cap,hv,hg⟩:=this;exact⟨cap,hv,(hk g (by rw[hg];intro e;cases e)).trans hg⟩
 | cptr a u h1 h2=>exact .cptr a u (fun j hj=>hc _ _ (h1 j hj).1 (h1 j hj).2) fun j hj=>(h2 j hj).mono hc
 | msl h1=>cases ho with|msl h=>exact h.elim
 | fn hl _ ih=>cases ho with|fn h=>exact .fn hl fun i h1 h2=>ih i h1 h2 (h _ (List.getElem_mem h1))
 | agg hl _ hone ih=>cases ho with|agg h=>exact .agg hl (fun i h1 h2=>ih i h1 h2 (h _ (List.getElem_mem h1))) hone
 | tup hl _ ih=>cases ho with|tup h=>exact .tup hl fun i h1 h2=>ih i h1 h2 (h _ (List.getElem_mem h1))
 | ex h1 =>
  obtain⟨r1,r0,r2⟩:=h1;refine .ex ⟨r1,r0,fun y hy=>?_⟩;obtain⟨g,cap,cs,e,rfl,h2,h3,h4,h5,h6,h7,h8,h9,h10⟩:=r2 y hy;exact⟨g,cap,cs,e,rfl,h2,h3,h4,(hk g (by rw[h5];intro e;cases e)).trans h5,h6,h7,h8,fun i g1 g2=>(h9 i g1 g2).mono hc,h10⟩
 | stk h1 =>
  obtain⟨r1,A,cap,hv,hc1,hm,r2⟩:=h1;refine .stk ⟨r1,A,cap,hv,hc1,hm,fun y hy=>?_⟩;have h0:=r2 y hy;cases y with
  | none=>exact h0
  | some g =>
   obtain⟨hA,vs,sp,e,h5,h6,h7,h8,h9⟩:=h0;exact⟨hA,vs,sp,e,(hk g (by rw[h5];intro e;cases e)).trans h5,h6,h7,h8.mono hc,h9⟩
 | que h1 h2=>exact .que (h1.mono hc) (h2.imp h2.1 fun x hx=>⟨hx,fun g _ f c he=>(hk g (by rw[he];intro e;cases e)).trans he⟩)
 | mp h1 =>
  refine .mp (h1.imp h1.1 (fun _ _ _ _ k=>k) hc (fun x hx=>⟨hx,fun g _ he=>⟨(hk g (by rw[he];intro e;cases e)).trans he,rfl⟩⟩) fun e _ n u h2=>?_);generalize e.2.2=o at h2 ⊢;cases o with
  | full=>exact h2
  | tok t =>
   refine⟨h2.1,fun y hy=>?_⟩;have:=h2.2 y hy
   cases y with
   | none=>exact this
   | some g =>
    obtain⟨cap,hv,hg⟩:=this;exact⟨cap,hv,(hk g (by rw[hg];intro e;cases e)).trans hg⟩
 | mpd h1=>exact .mpd (h1.imp hc fun r _ hk1=>⟨by simp only[Gh.lend];split;rfl;exact hk1,rfl⟩)
theorem Bo.lend{G:Gh}{m:bH}{w:World}{p:Nat->Prop}[DecidablePred p](hm:aV G m w)(hp:∀b,p b↔∃k sz,G.bx k=some (b,sz)){x y:AV}{v:Value}(hb:Bo m.box x y)(h:RV G w x v):RV (G.lend p) w y v:=by
 have hpb:∀b,p b->G.kind b=.box:=fun b hb=>by
  obtain⟨k,sz,h⟩:=(hp b).1 hb;exact(hm.blt h).2
 cases hb with
 | same ho=>exact h.lend hpb ho
 | @msl k sz es hk =>
  letI:DecidablePred (fun _:Nat=>False):=fun _=>Classical.propDecidable _
  generalize hx:(AV.msl k 0 es.length sz)=x at h;have h':=h
  cases h with
  | @msl k' off n b sz' cap h1 h2 h3 =>
   cases hx;have hw:RV (G.weak (fun _=>False) (some b) G.nt) w (.d (.sl sz es)) (.slice (some ⟨b,0*sz,none⟩) es.length cap):=by
    refine RV.to (q:=fun _=>True) (fz:=some (k,sz,es)) hm (fun j hj=>by cases hj;exact(hm.blt h1).2) ?_ ?_ h' (.frz rfl) (fun t _ ht=>ht)
    .intro k2 sz2 es2 e;cases e;obtain⟨_,cs,e',_,hs,_⟩:=hm.box k (cG es) b sz hk h1;refine⟨cG es,hk,by simp,hs,fun i g1 g2=>?_⟩;have:(cG es)[i]=(es[i]).map AV.d:=by simp[cG]
     rw[this];exact xS _
    .intro k2 sz2 es2 e j s hj;cases e;rw[h1] at hj;cases hj;rfl
   cases hw with
   | d hd =>
    refine .d (hd.mono fun a u h4 h5=>⟨?_,h5⟩);unfold Gh.ps at h4 ⊢;simp only[Gh.weak,Gh.lend] at h4 ⊢;by_cases e:p a.block
    .simp[e]
    .simp only[e,↓reduceIte];have hne:¬(some b=some a.block):=fun e2=>e ((hp _).2 ⟨k,sz,by cases e2;exact h1⟩)
     simp only[hne,↓reduceIte] at h4;exact h4
  | _=>cases hx
theorem BoL.lend{G:Gh}{m:bH}{w:World}{p:Nat->Prop}[DecidablePred p](hm:aV G m w)(hp:∀b,p b↔∃k sz,G.bx k=some (b,sz)):∀{xs ys:List AV} {vs:List Value},BoL m.box xs ys->RVs G w xs vs->RVs (G.lend p) w ys vs
 | [],[],vs,_,h=>⟨by have:=h.1;simpa using this,fun i h=>by simp at h⟩
 | x::a,y::b,vs,hb,h=>by
  obtain⟨v,us,rfl,h1,h2⟩:=h.uncons;exact RVs.cons (hb.1.lend hm hp h1) (BoL.lend hm hp hb.2 h2)
 | [],_::_,_,h,_=>h.elim
 | _::_,[],_,h,_=>h.elim
theorem cW.lent{f:FuncId}{args args':List AV}{box:Bxs}{tok:Nat->Bool}{nt:Nat}{u:Value}{tok':Nat->Bool}{nt':Nat}(hu:u.oneCell'=true)(h:dI P f args' tok nt (.d (.raw u)) tok' nt')(hb:BoL box args args'):cW P f args box tok nt (.d (.raw u)) tok' nt':=by
 classical
 intro box' nb hext;have hb':=hb.ext hext
 obtain⟨hen,hc⟩:=h (fun _=>none) nb;refine⟨hen,fun G w vals hm hr=>?_⟩
 let p:Nat->Prop:=fun b=>∃k sz,G.bx k=some (b,sz)
 have hp:∀b,p b↔∃k sz,G.bx k=some (b,sz):=fun b=>Iff.rfl
 have hpb:∀b,p b->b<w.heap.size/\G.kind b=.box:=fun b ⟨k,sz,hk⟩=>hm.blt hk
 have htk:∀t g,G.tk t=some (some g)->¬p g:=fun t g ht hpg=>by
  obtain⟨f',cur,e,h1,_⟩:=hm.tokb t g ht;rw[(hpb g hpg).2] at h1;rcases h1 with ⟨h1,_⟩|h1<;>cases h1
 have hm1:aV (G.lend p) ⟨fun _=>none,nb,tok,nt⟩ w:=by
  constructor
  case box=>intro k rows b sz h1;cases h1
  case nobox=>intro k _;rfl
  case inj=>intro k k' b sz sz' h1;cases h1
  case nb=>intro k _;rfl
  case nt=>exact hm.nt
  case toks=>exact hm.toks
  case tokb =>
   intro t g ht;obtain⟨f',cur,e,h1,h2⟩:=hm.tokb t g ht;refine⟨f',cur,e,?_,h2⟩;simp only[Gh.lend];rw[if_neg (htk t g ht)];exact h1
  case tinj=>exact hm.tinj
  case tnt=>exact hm.tnt
  case glob=>exact hm.glob.mono fun a u h1 h2=>⟨aEZ h1,h2⟩
  case fresh =>
   intro b hb1;simp only[Gh.lend];split
   .rfl
   .exact hm.fresh b hb1
 refine Calls.mono (hc (G.lend p) w vals hm1 (hb'.lend hm hp hr)) ?_;rintro e w' ⟨v,av,m',G1,rfl,⟨rfl,rfl⟩,h3,h4,h5,h6,h7⟩;have hv:v=u:=by cases h5 with|d h=>cases h;rfl
 subst hv;have hkeep:∀b,p b->G1.kind b=.whole/\w'.heap[b]?=w.heap[b]?:=fun b hb1=>h6.whole b (hpb b hb1).1 (by simp[Gh.lend,hb1])
 let G2:Gh:={ bx:=G.bx,kind:=fun b=>if p b then .box else G1.kind b,tk:=G1.tk,nt:=G1.nt }
 have hle:Le G w G2 w':=by
  refine⟨h6.os,h6.tape,h6.output,h6.size,fun b hb1 hk=>?_,fun b f' c hk=>?_,fun _ _ h=>h,h6.nt,fun t ht=>?_,?_⟩
  .have hn:¬p b:=fun e=>by rw[(hpb b e).2] at hk;cases hk
   obtain⟨a1,a2⟩:=h6.whole b hb1 (by simp only[Gh.lend];rw[if_neg hn];exact hk);exact⟨by simp only[G2];rw[if_neg hn];exact a1,a2⟩
  .have hn:¬p b:=fun e=>by rw[(hpb b e).2] at hk;cases hk
   obtain⟨⟨f2,a1,a2⟩,a3⟩:=h6.part b f' c (by simp only[Gh.lend];rw[if_neg hn];exact hk);exact⟨⟨f2,a1,by simp only[G2];rw[if_neg hn];exact a2⟩,a3⟩
  .rcases h6.tk t ht with a1|⟨a1,a2⟩
   .exact .inl a1
   .refine .inr ⟨a1,fun g hg=>?_⟩;have hn:=htk t g hg;obtain⟨b1,b2⟩:=a2 g hg;simp only[Gh.lend] at b1 b2;rw[if_neg hn] at b1 b2;exact⟨by simp only[G2];rw[if_neg hn];exact b1,b2⟩
  .exact h6.ty
 refine⟨v,_,_,G2,rfl,⟨rfl,rfl⟩,rfl,?_,.d (.raw hu),hle,fun k hk=>⟨hk,rfl⟩⟩;constructor
 case box =>
  intro k rows b sz hk hb1;obtain⟨g1,cs,e,g2,g3,g4,g5⟩:=hm.box k rows b sz hk hb1;have hpk:p b:=⟨k,sz,hb1⟩
  exact⟨by simp[G2,hpk],cs,e,(hkeep b hpk).2.trans g2,g3,g4.mono hle,g5⟩
 case nobox=>exact hm.nobox
 case inj=>exact hm.inj
 case nb=>exact hm.nb
 case nt=>exact h4.nt
 case toks=>exact h4.toks
 case tokb =>
  intro t g ht;obtain⟨f',cur,e,g1,g2⟩:=h4.tokb t g ht;refine⟨f',cur,e,?_,g2⟩;have hn:¬p g:=fun hpg=>by
   rw[(hkeep g hpg).1] at g1;rcases g1 with ⟨g1,_⟩|g1<;>cases g1
  simp only[G2];rw[if_neg hn];exact g1
 case tinj=>exact h4.tinj
 case tnt=>exact h4.tnt
 case glob=>exact hm.glob.mono hle.cells
 case fresh =>
  intro b hb1;have:=h6.size
  have hn:¬p b:=fun hpb1=>by have:=(hpb b hpb1).1;omega
  simp only[G2];rw[if_neg hn];exact h4.fresh b hb1
open Go Go.Proofs Go.RowKit
open Go.Proofs.Tryz
def kT(p:Gr)(N:List Int)(i:Nat):E:=⟨(p.edges.getD i default).ty,N.getD (p.edges.getD i default).fr.toNat 0,N.getD (p.edges.getD i default).to.toNat 0⟩
abbrev aON(p g:Gr)(kn n ke m:Nat)(f:FuncId)(caps:List AV):List AV:=[.d (ints p.nodes),.d (AM.edges p.edges),.d (ints g.nodes),.d (AM.edges g.edges),.msl kn 0 n 1,.msl ke 0 m 1,.fn (.func f) caps]
structure ExH (p g:Gr) (f:FuncId) (caps:List AV) (kx kn ke:Nat) (E0:Bxs) (N Es:List Int) (box:Bxs):Prop where
 ext:Ext E0 box
 x:box kx=some [aON p g kn p.nodes.length ke p.edges.length f caps]
 n:box kn=some (dG N)
 e:box ke=some (dG Es)
 nl:N.length=p.nodes.length
 el:Es.length=p.edges.length
theorem ExH.lb{p g:Gr}{f:FuncId}{caps:List AV}{kx kn ke nb:Nat}{E0:Bxs}{N Es:List Int}{box:Bxs}(h:ExH p g f caps kx kn ke E0 N Es box)(hb:lb nb box []=box)(loc:List (Nat × List (List AV))):
  ExH p g f caps kx kn ke E0 N Es (AM.lb nb box loc) :=
 ⟨Ext.lb h.ext hb loc,by rw[lO (bC hb h.x)];exact h.x,by rw[lO (bC hb h.n)];exact h.n,by rw[lO (bC hb h.e)];exact h.e,h.nl,h.el⟩
def aI7(l:List Int)(i:Nat):Prop:=∀j,j<i->0<=l.getD j 0
theorem aI7.set{l:List Int}{i:Nat}(h:aI7 l i)(hi:i<l.length)(k:Nat):aI7 (l.set i k) (i+1):=fun j hj=>by
 by_cases e:j=i
 .subst e;simp[hi]
 .have:=h j (by omega)
  simpa[List.getD,List.getElem?_set,Ne.symm e] using this
theorem aI7.all{l:List Int}{i:Nat}(h:aI7 l i)(hi:i=l.length):∀x∈l,0<=x:=fun x hx=>by
 obtain⟨j,hj,rfl⟩:=List.getElem_of_mem hx;have:=h j (by omega)
 simpa[hj] using this
inductive Cd.Fit:Cd->Prop
 | mk {c:Cd} (hk:c.kids.length<=aIs) (hm:c.m.Fit) (hg:c.g.Fit) (hs:c.sl.length<=dN) (ht:c.te.length<=dN) (h:∀x∈c.kids,Cd.Fit x):Cd.Fit c
theorem Cd.Fit.kids{c:Cd}(h:c.Fit):c.kids.length<=aIs:=by cases h;assumption
theorem Cd.Fit.m{c:Cd}(h:c.Fit):c.m.Fit:=by cases h;assumption
theorem Cd.Fit.g{c:Cd}(h:c.Fit):c.g.Fit:=by cases h;assumption
theorem Cd.Fit.big{c:Cd}(h:c.Fit):c.Big:=by
 induction h with
 | mk hk hm hg hs ht _ ih =>
  refine⟨hk,?_,?_,?_,?_,hs,ht,ih⟩
  .have:=hm.n;rw[bM];omega
  .have:=hm.e;rw[bM];omega
  .have:=hg.n;rw[bM];omega
  .have:=hg.e;rw[bM];omega
def aFn(a:Gr)(k:Int)(m:Mo)(g:Gr):Int:=if k=5 then (if aG a g m≠0 then aG a g m else if fV a g m=true then 0 else 1) else 0
mutual
def Cd.ovr:Cd->Gr->Int
 | .mk k c m g s v t,a=>if aIa (.mk k c m g s v t)=0 then if aFn a k m g=0 then Cd.ovrL c (if k=5 then g else a) else aFn a k m g else aIa (.mk k c m g s v t)
def Cd.ovrL:List Cd->Gr->Int
 | [],_=>0
 | x::r,a=>if Cd.ovr x a=0 then Cd.ovrL r a else Cd.ovr x a
end
abbrev Cd.inn(c:Cd)(a:Gr):Gr:=if c.kind=5 then c.g else a
def aAO(a:Gr)(c:Cd):Int:=if vG a≠0 then vG a else if c.ovr a≠0 then c.ovr a else aM2 c
theorem ThR.nil{t k sz:Nat}{es:List (List D)}:ThR t k sz es [] []:=⟨rfl,fun i h=>by simp at h⟩
theorem ThR.cons{t k sz:Nat}{es:List (List D)}{x y:AV}{r r':List AV}(h:tV t k sz es x y)(hr:ThR t k sz es r r'):ThR t k sz es (x::r) (y::r'):=by
 refine⟨by simp[hr.1],fun i h1 h2=>?_⟩
 match i with
 | 0=>exact h
 | i+1=>exact hr.2 i (by simpa using h1) (by simpa using h2)
theorem aBi.one{t k sz:Nat}{es:List (List D)}{r r':List AV}(h:ThR t k sz es r r'):aBi t k sz es [r] [r']:=by
 refine⟨rfl,fun i h1 h2=>?_⟩
 match i with
 | 0=>exact h
 | i+1=>simp at h1
theorem aBi.same{t k sz:Nat}{es:List (List D)}{r:List (List AV)}:aBi t k sz es r r:=⟨rfl,fun i h1 h2=>⟨rfl,fun j g1 g2=>.same⟩⟩
structure Inn (m:Mo) (a b:Gr):Prop where
 ln:m.nodes.length=a.nodes.length
 le:m.edges.length=a.edges.length
 n:∀x∈m.nodes,0<=x/\x<b.nodes.length
 e:∀x∈m.edges,0<=x/\x<b.edges.length
theorem Inn.of{a b:Gr}{m:Mo}(h:aG a b m=0):Inn m a b:=have V:=kL h;⟨V.ln,V.le,V.n,V.e⟩
structure aO3 (b p:Gr) (o:Ov):Prop where
 l:aG b o.g o.l=0
 r:aG p o.g o.r=0
 il:fV b o.g o.l=true
 ir:fV p o.g o.r=true
theorem gU{b p:Gr}{o:Ov}(ho:o∈(oR b p).1):aO3 b p o:=by
 by_cases hb:vG b=0
 .by_cases hp:vG p=0
  .by_cases hs:40<b.nodes.length+p.nodes.length∨80<b.edges.length+p.edges.length
   .simp[oR,hb,hp,hs] at ho
   .rw[vM b p hb hp hs] at ho;split at ho
    .simp at ho
    .simp only[oX,List.mem_map] at ho;obtain⟨⟨x,es⟩,h1,rfl⟩:=ho;have hp1:=(aEy b p _).1 h1;have g1:=aCW hb hp (by omega) hp1;have g2:=aF3 hb hp (by omega) hp1;exact⟨g1.2.1,g1.2.2,g2.1,g2.2.1⟩
  .simp[oR,hb,hp] at ho
 .simp[oR,hb] at ho
abbrev St2:=Int × Int
def sM(k:Int)(kids:List Cd):Cd:=.mk k kids ⟨[],[]⟩ ⟨[],[]⟩ [] 0 []
theorem iF{l:List Int}:l.Nodup↔∀i j,i<j->j<l.length->l.getD i 0≠l.getD j 0:=by
 unfold List.Nodup;rw[List.pairwise_iff_getElem];constructor
 .intro h i j hij hj;have:=h i j (by omega) hj hij
  simpa[hj,show i<l.length by omega] using this
 .intro h i j hi hj hij;have:=h i j hij hj
  simpa[hi,hj] using this
theorem aCP{l l':List Int}(h:l.length=l'.length)(h2:∀j,j<l.length->l.getD j 0=l'.getD j 0):l=l' :=
 List.ext_getElem h fun i h1 h3=>by have:=h2 i h1;simpa[h1,h3] using this
structure Emb (a b:Gr) (m:Mo):Prop where
 v:aG a b m=0
 n:m.nodes.Nodup
 e:m.edges.Nodup
theorem Emb.vm{a b:Gr}{m:Mo}(h:Emb a b m):VM a b m:=kL h.v
theorem Emb.inj{a b:Gr}{m:Mo}(h:Emb a b m):fV a b m=true:=(aC2 a b m).2 ⟨h.v,h.n,h.e⟩
theorem Emb.of{a b:Gr}{m:Mo}(h:fV a b m=true):Emb a b m:=have h:=(aC2 a b m).1 h;⟨h.1,h.2.1,h.2.2⟩
theorem Emb.inn{a b:Gr}{m:Mo}(h:Emb a b m):Inn m a b:=have V:=h.vm;⟨V.ln,V.le,V.n,V.e⟩
theorem aA3(l h:List Int):(byK l h l.length).length=l.length:=by simp
theorem mI{l h:List Int}{i:Nat}(hi:i<l.length):(byK l h l.length).getD i 0=h.getD (l.getD i 0).toNat 0:=by simp[byK,hi]
theorem aAQ{x:Int}{n:Nat}(h:0<=x/\x<n):x.toNat<n/\((x.toNat:Nat):Int)=x:=by omega
theorem zQ{l h:List Int}{n:Nat}(hl:l.Nodup)(hh:h.Nodup)(hr:∀x∈l,0<=x/\x<h.length):(byK l h l.length).Nodup:=by
 rw[iF];intro i j hij hj;rw[aA3] at hj;rw[mI (by omega),mI hj];intro e;have h1:=hr _ (aR (d:=0) (show i<l.length by omega));have h2:=hr _ (aR (d:=0) hj);have:=nJ hh (by omega) (by omega) e
 have:=nJ hl (show i<l.length by omega) hj (by omega)
 omega
theorem Emb.comp{a b c:Gr}{m n:Mo}(h:Emb a b m)(k:Emb b c n):Emb a c (oW m n):=by
 have v:=h.vm;have w:=k.vm;have rn:∀x∈m.nodes,0<=x/\x<n.nodes.length:=fun x hx=>by rw[w.ln];exact v.n x hx
 have re:∀x∈m.edges,0<=x/\x<n.edges.length:=fun x hx=>by rw[w.le];exact v.e x hx
 have gn:∀i,i<a.nodes.length->(oW m n).nodes.getD i 0=n.nodes.getD (m.nodes.getD i 0).toNat 0:=fun i hi=>mI (by rw[v.ln];exact hi)
 have ge:∀i,i<a.edges.length->(oW m n).edges.getD i 0=n.edges.getD (m.edges.getD i 0).toNat 0:=fun i hi=>mI (by rw[v.le];exact hi)
 refine⟨oA ⟨v.va,w.vb,by rw[<-v.ln];exact aA3 _ _,by rw[<-v.le];exact aA3 _ _,fun x hx=>?_,fun x hx=>?_,fun i hi=>?_,fun i hi=>?_⟩,zQ (n:=0) h.n k.n rn,zQ (n:=0) h.e k.e re⟩
 .obtain⟨i,hi,rfl⟩:=eH hx;have hi':i<a.nodes.length:=by rw[<-v.ln];simpa[oW] using hi
  rw[gn i hi'];exact w.n _ (aR (aAQ (rn _ (aR (by rw[v.ln];exact hi')))).1)
 .obtain⟨i,hi,rfl⟩:=eH hx;have hi':i<a.edges.length:=by rw[<-v.le];simpa[oW] using hi
  rw[ge i hi'];exact w.e _ (aR (aAQ (re _ (aR (by rw[v.le];exact hi')))).1)
 .rw[gn i hi];have h1:=aAQ (v.n _ (aR (d:=0) (show i<m.nodes.length by rw[v.ln];exact hi)));rw[w.nt _ h1.1,v.nt i hi]
 .rw[ge i hi];have h1:=aAQ (v.e _ (aR (d:=0) (show i<m.edges.length by rw[v.le];exact hi)));rw[w.et _ h1.1,v.et i hi];have hx:=aE v.va (a.edges.getD i default) (aR hi);simp only;rw[gn _ (by omega),gn _ (by omega)]
section
variable {α:Type} {f:α->St2->List Cd × St2} (hs:∀x s,(f x s).2.2=0->s.2=0)
include hs
end
theorem aBK{b p:Gr}{o:Ov}(ho:o∈(oR b p).1):Emb b o.g o.l/\Emb p o.g o.r:=⟨Emb.of (gU ho).il,Emb.of (gU ho).ir⟩
theorem wR(n:Nat):(eW n).Nodup:=by
 rw[iF];intro i j hij hj;rw[tO] at hj;rw[cS (by omega),cS hj];omega
theorem aB2{x:Int}{n:Nat}(h:x∈eW n):0<=x/\x<n:=by
 obtain⟨i,hi,rfl⟩:=List.mem_map.1 h;have:=List.mem_range.1 hi
 omega
structure Pre (a b:Gr):Prop where
 va:vG a=0
 vb:vG b=0
 n:∃t,b.nodes=a.nodes++t
 e:∃t,b.edges=a.edges++t
theorem Pre.emb{a b:Gr}(h:Pre a b):Emb a b (idM a):=by
 obtain⟨t,ht⟩:=h.n;obtain⟨u,hu⟩:=h.e;have ea:=aE h.va;refine⟨oA ⟨h.va,h.vb,by simp[idM],by simp[idM],fun x hx=>?_,fun x hx=>?_,fun i hi=>?_,fun i hi=>?_⟩,wR _,wR _⟩
 .have:=aB2 (show x∈eW a.nodes.length from hx)
  rw[ht];simp only[List.length_append];omega
 .have:=aB2 (show x∈eW a.edges.length from hx)
  rw[hu];simp only[List.length_append];omega
 .simp only[idM];rw[cS hi,Int.toNat_natCast,ht,mH hi]
 .simp only[idM];have hx:=ea (a.edges.getD i default) (aR hi);rw[cS hi,Int.toNat_natCast,hu,mH hi,cS (by omega),cS (by omega)];rw[Int.toNat_of_nonneg hx.1,Int.toNat_of_nonneg hx.2.2.1]
theorem Pre.refl{a:Gr}(h:vG a=0):Pre a a:=⟨h,h,⟨[],by simp⟩,⟨[],by simp⟩⟩
def mtI(F G:List Int)(n:Nat):List Int:=(List.range n).map fun (j:Nat)=>if aU G j<0 then -1 else F.getD (aU G j).toNat 0
def aP7(b c:Gr)(f g:Mo):Ov:=bQ b c (mtI f.nodes g.nodes c.nodes.length) (mtI f.edges g.edges c.edges.length)
def jJ(l:List Int)(n:Int)(i:Nat):Int:=if l.getD i 0<0∨n<=l.getD i 0 then 6 else if 0<i/\l.getD i 0<=l.getD (i-1) 0 then 12 else 0
def jT(l:List Int)(n:Int):Int:=aA (jJ l n) l.length
def gH(g:Gr)(p:Mo)(i:Nat):Int:=if (g.edges.getD (p.edges.getD i 0).toNat default).fr∈p.nodes/\(g.edges.getD (p.edges.getD i 0).toNat default).to∈p.nodes then 0 else 14
def eU(g:Gr)(p:Mo):Int :=
 if jT p.nodes g.nodes.length≠0 then jT p.nodes g.nodes.length else if jT p.edges g.edges.length≠0 then jT p.edges g.edges.length else aA (gH g p) p.edges.length
def cR(g:Gr)(p:Mo):Int:=if vG g≠0 then vG g else eU g p
theorem aBD{l:List Int}{n:Int}(h:jT l n=0):∀j i,i<j->j<l.length->l.getD i 0<l.getD j 0
 | 0,i,hi,_=>absurd hi (Nat.not_lt_zero _)
 | j+1,i,hi,hj=>by
  have h1:=dY _ h (j+1) hj;unfold jJ at h1;split at h1
  .cases h1
  .split at h1
   .cases h1
   .rename_i h3;have h4:l.getD j 0<l.getD (j+1) 0:=by
     have:j+1-1=j:=rfl
     rw[this] at h3;omega
    by_cases e:i=j
    .subst e;exact h4
    .have:=aBD h j i (by omega) (by omega)
     omega
theorem uQ{l:List Int}{n:Int}(h:jT l n=0):∀x∈l,0<=x/\x<n:=fun x hx=>by
 obtain⟨i,hi,rfl⟩:=eH hx;have h1:=dY _ h i hi;unfold jJ at h1;split at h1
 .cases h1
 .omega
theorem aJp{l:List Int}{n:Int}(h1:∀x∈l,0<=x/\x<n)(h2:∀j i,i<j->j<l.length->l.getD i 0<l.getD j 0):jT l n=0:=cU _ fun i hi=>by
 have r:=h1 _ (aR (d:=0) hi);unfold jJ;rw[if_neg (by omega),if_neg];rintro⟨h3,h4⟩;have:=h2 i (i-1) (by omega) hi
 omega
structure VP (g:Gr) (p:Mo):Prop where
 va:vG g=0
 n:∀x∈p.nodes,0<=x/\x<g.nodes.length
 e:∀x∈p.edges,0<=x/\x<g.edges.length
 sn:∀j i,i<j->j<p.nodes.length->p.nodes.getD i 0<p.nodes.getD j 0
 se:∀j i,i<j->j<p.edges.length->p.edges.getD i 0<p.edges.getD j 0
 c:∀x∈p.edges,(g.edges.getD x.toNat default).fr∈p.nodes/\(g.edges.getD x.toNat default).to∈p.nodes
theorem VP.of{g:Gr}{p:Mo}(h:cR g p=0):VP g p:=by
 unfold cR at h;split at h
 .contradiction
 .rename_i h1;unfold eU at h;split at h
  .contradiction
  .rename_i h2;split at h
   .contradiction
   .rename_i h3;have h2':=Decidable.not_not.1 h2
    have h3':=Decidable.not_not.1 h3
    refine⟨Decidable.not_not.1 h1,uQ h2',uQ h3',aBD h2',aBD h3',fun x hx=>?_⟩;obtain⟨i,hi,rfl⟩:=eH hx;have h4:=dY _ h i hi;unfold gH at h4;split at h4
    .assumption
    .cases h4
theorem VP.v{g:Gr}{p:Mo}(h:VP g p):cR g p=0:=by
 unfold cR eU;rw[if_neg (by simp[h.va]),if_neg (by simp[aJp h.n h.sn]),if_neg (by simp[aJp h.e h.se])];refine cU _ fun i hi=>?_
 unfold gH;rw[if_pos (h.c _ (aR (d:=0) hi))]
theorem dK{l:List Int}(h:∀j i,i<j->j<l.length->l.getD i 0<l.getD j 0):l.Nodup:=by
 rw[iF];intro i j hij hj e;have:=h j i hij hj
 omega
theorem aHN{l:List Int}{n:Nat}(h:l.Nodup)(hr:∀x∈l,0<=x/\x<n):l.length<=n:=by
 have:=qS l (eW n) h fun x hx=>by
  have:=hr x hx
  simp only[eW,List.mem_map,List.mem_range];exact⟨x.toNat,by omega,by omega⟩
 simpa[eW] using this
theorem VP.len{g:Gr}{p:Mo}(h:VP g p):p.nodes.length<=g.nodes.length/\p.edges.length<=g.edges.length:=⟨aHN (dK h.sn) h.n,aHN (dK h.se) h.e⟩
def qL(g:Gr)(p:Mo)(k:Int):E:=⟨(g.edges.getD k.toNat default).ty,aU p.nodes (g.edges.getD k.toNat default).fr,aU p.nodes (g.edges.getD k.toNat default).to⟩
def exG(g:Gr)(p:Mo):Gr:=⟨p.nodes.map fun k=>g.nodes.getD k.toNat 0,p.edges.map (qL g p)⟩
theorem eZ{l:List Int}{x:Int}(h:x∈l):0<=aU l x/\aU l x<l.length/\l.getD (aU l x).toNat 0=x:=by
 rcases tM l x with ⟨_,hn⟩|⟨k,h2,h3,h4⟩
 .exact absurd h hn
 .rw[h2];exact⟨by omega,by omega,h4⟩
theorem zK{l:List Int}(hl:l.Nodup){i:Nat}(h:i<l.length):aU l (l.getD i 0)=i:=by
 obtain⟨h1,h2,h3⟩:=eZ (aR (d:=0) h);have:=nJ hl (show (aU l (l.getD i 0)).toNat<l.length by omega) h h3
 omega
theorem VP.emb{g:Gr}{p:Mo}(h:VP g p):Emb (exG g p) g p:=by
 have hl:=h.len;obtain⟨hs,ht,he⟩:=bG h.va;have hv:vG (exG g p)=0:=by
  refine oF (by simp only[exG,List.length_map];omega) (fun n hn=>?_) fun e hx=>?_
  .simp only[exG,List.mem_map] at hn;obtain⟨k,hk,rfl⟩:=hn;have:=h.n k hk
   exact ht _ (aR (by omega))
  .simp only[exG,List.mem_map] at hx;obtain⟨k,hk,rfl⟩:=hx;have h1:=h.e k hk;have h2:=h.c k hk;have h3:=(fC _ _).1 (he _ (aR (d:=default) (show k.toNat<g.edges.length by omega)));have i1:=eZ h2.1;have i2:=eZ h2.2;rw[fC];simp only[qL,exG,List.length_map];exact⟨h3.1,⟨i1.1,i1.2.1⟩,⟨i2.1,i2.2.1⟩⟩
 refine⟨oA ⟨hv,h.va,by simp[exG],by simp[exG],h.n,h.e,fun i hi=>?_,fun i hi=>?_⟩,dK h.sn,dK h.se⟩
 .have hi':i<p.nodes.length:=by simpa[exG] using hi
  simp[exG,hi']
 .have hi':i<p.edges.length:=by simpa[exG] using hi
  have e1:(exG g p).edges.getD i default=qL g p (p.edges.getD i 0):=by simp[exG,hi']
  have h2:=h.c _ (aR (d:=0) hi');rw[e1];simp only[qL];rw[(eZ h2.1).2.2,(eZ h2.2).2.2]
def aL4(q h:Mo):Mo:=⟨h.nodes.map (aU q.nodes),h.edges.map (aU q.edges)⟩
def lY(l:List Int)(n:Nat):List Int:=((List.range n).filter fun (k:Nat)=>decide ((k:Int)∈l)).map fun (k:Nat)=>(k:Int)
theorem iQ{l:List Int}{n:Nat}{x:Int}:x∈lY l n↔x∈l/\0<=x/\x<n:=by
 simp only[lY,List.mem_map,List.mem_filter,List.mem_range,decide_eq_true_eq];constructor
 .rintro⟨k,⟨h1,h2⟩,rfl⟩;exact⟨h2,by omega,by omega⟩
 .rintro⟨h1,h2,h3⟩;exact⟨x.toNat,⟨by omega,by rwa [show ((x.toNat:Nat):Int)=x by omega]⟩,by omega⟩
theorem aBG(l:List Int)(n:Nat):(lY l n).Pairwise (· < ·):=by
 unfold lY;rw[List.pairwise_map];refine List.Pairwise.filter _ (List.Pairwise.imp (R:=(· < ·)) (fun h=>by omega) List.pairwise_lt_range)
theorem jG{l:List Int}:l.Pairwise (· < ·)->∀j i,i<j->j<l.length->l.getD i 0<l.getD j 0:=fun h j i hij hj=>by
 have:=List.pairwise_iff_getElem.1 h i j (by omega) hj hij
 simpa[List.getD_eq_getElem?_getD,hj,show i<l.length by omega] using this
theorem aHv:∀{l m:List Int},l.Pairwise (· < ·)->m.Pairwise (· < ·)->(∀x,x∈l↔x∈m)->l=m
 | [],[],_,_,_=>rfl
 | [],y::m,_,_,h=>by have:=(h y).2 (by simp);simp at this
 | x::l,[],_,_,h=>by have:=(h x).1 (by simp);simp at this
 | x::l,y::m,hl,hm,h=>by
  rw[List.pairwise_cons] at hl hm;have h1:=(h x).1 (by simp);have h2:=(h y).2 (by simp);have e:x=y:=by
   rcases List.mem_cons.1 h1 with h1|h1
   .exact h1
   .rcases List.mem_cons.1 h2 with h2|h2
    .exact h2.symm
    .have:=hl.1 y h2
     have:=hm.1 x h1
     omega
  subst e;congr 1
  refine aHv hl.2 hm.2 fun z=>?_
  have:=h z
  simp only[List.mem_cons] at this;constructor
  .intro hz;rcases this.1 (.inr hz) with e|e
   .subst e;have:=hl.1 z hz;omega
   .exact e
  .intro hz;rcases this.2 (.inr hz) with e|e
   .subst e;have:=hm.1 z hz;omega
   .exact e
def yE(y:Gr)(q:Mo):Mo:=⟨lY q.nodes y.nodes.length,lY q.edges y.edges.length⟩
theorem aA9{c y:Gr}{q:Mo}(hq:Emb c y q):VP y (yE y q):=by
 have v:=hq.vm;refine⟨v.vb,fun x hx=>(iQ.1 hx).2,fun x hx=>(iQ.1 hx).2,jG (aBG _ _),jG (aBG _ _),fun x hx=>?_⟩;obtain⟨h1,h2,h3⟩:=iQ.1 hx;obtain⟨i,hi,rfl⟩:=eH h1;have hi':i<c.edges.length:=by rw[<-v.le];exact hi
 have he:=aE v.va (c.edges.getD i default) (aR hi');have m1:q.nodes.getD (c.edges.getD i default).fr.toNat 0∈q.nodes:=aR (by rw[v.ln];omega)
 have m2:q.nodes.getD (c.edges.getD i default).to.toNat 0∈q.nodes:=aR (by rw[v.ln];omega)
 rw[v.et i hi'];exact⟨iQ.2 ⟨m1,v.n _ m1⟩,iQ.2 ⟨m2,v.n _ m2⟩⟩
def bY(images keep:List Int):List Int:=((List.range images.length).filter fun (i:Nat)=>decide ((i:Int)∉keep)).map fun (i:Nat)=>images.getD i 0
def fZ(n:Nat)(images keep:List Int):List Int:=((List.range n).filter fun (k:Nat)=>decide ((k:Int)∉bY images keep)).map fun (k:Nat)=>(k:Int)
def jF(g:Gr)(keep m:Mo):Bool:=(List.range g.edges.length).any fun (i:Nat)=>decide ((i:Int)∉m.edges/\((g.edges.getD i default).fr∈bY m.nodes keep.nodes∨(g.edges.getD i default).to∈bY m.nodes keep.nodes))
def aGH(g:Gr)(keep m:Mo):Mo:=⟨fZ g.nodes.length m.nodes keep.nodes,fZ g.edges.length m.edges keep.edges⟩
theorem oD{images keep:List Int}{x:Int}:x∈bY images keep↔∃i:Nat,i<images.length/\(i:Int)∉keep/\images.getD i 0=x:=by
 simp only[bY,List.mem_map,List.mem_filter,List.mem_range,decide_eq_true_eq];constructor
 .rintro⟨i,⟨h1,h2⟩,h3⟩;exact⟨i,h1,h2,h3⟩
 .rintro⟨i,h1,h2,h3⟩;exact⟨i,⟨h1,h2⟩,h3⟩
theorem eA{n:Nat}{images keep:List Int}{x:Int}:x∈fZ n images keep↔(0<=x/\x<n)/\x∉bY images keep:=by
 simp only[fZ,List.mem_map,List.mem_filter,List.mem_range,decide_eq_true_eq];constructor
 .rintro⟨k,⟨h1,h2⟩,rfl⟩;exact⟨⟨by omega,by omega⟩,h2⟩
 .rintro⟨⟨h1,h2⟩,h3⟩;exact⟨x.toNat,⟨by omega,by rwa [show ((x.toNat:Nat):Int)=x by omega]⟩,by omega⟩
theorem qF(n:Nat)(images keep:List Int):(fZ n images keep).Pairwise (· < ·):=by
 unfold fZ;rw[List.pairwise_map];refine List.Pairwise.filter _ (List.Pairwise.imp (R:=(· < ·)) (fun h=>by omega) List.pairwise_lt_range)
theorem oU{images keep:List Int}(hn:images.Nodup){i:Nat}(hi:i<images.length)(hk:(i:Int)∈keep):images.getD i 0∉bY images keep:=fun h=>by
 obtain⟨j,hj,hjk,e⟩:=oD.1 h;have:=nJ hn hj hi e
 subst this;exact hjk hk
theorem aKs{l g:Gr}{keep m:Mo}(hm:Emb l g m)(hk:VP l keep)(hd:jF g keep m=false):VP g (aGH g keep m):=by
 have v:=hm.vm;refine⟨v.vb,fun x hx=>(eA.1 hx).1,fun x hx=>(eA.1 hx).1,jG (qF _ _ _),jG (qF _ _ _),fun x hx=>?_⟩;obtain⟨⟨h1,h2⟩,h3⟩:=eA.1 hx;have hxl:x.toNat<g.edges.length:=by omega
 have he:=aE v.vb (g.edges.getD x.toNat default) (aR hxl);have key:(g.edges.getD x.toNat default).fr∉bY m.nodes keep.nodes/\(g.edges.getD x.toNat default).to∉bY m.nodes keep.nodes:=by
  by_cases hxm:x∈m.edges
  .obtain⟨i,hi,rfl⟩:=eH hxm;have hi':i<l.edges.length:=by rw[<-v.le];exact hi
   have hik:(i:Int)∈keep.edges:=Decidable.byContradiction fun hc=>h3 (oD.2 ⟨i,hi,hc,rfl⟩)
   have hc:=hk.c _ hik;have hle:=aE v.va (l.edges.getD i default) (aR hi');rw[Int.toNat_natCast] at hc;rw[v.et i hi'];refine⟨oU hm.n (by rw[v.ln];omega) ?_,oU hm.n (by rw[v.ln];omega) ?_⟩
   .rw[show (((l.edges.getD i default).fr.toNat:Nat):Int)=(l.edges.getD i default).fr by omega];exact hc.1
   .rw[show (((l.edges.getD i default).to.toNat:Nat):Int)=(l.edges.getD i default).to by omega];exact hc.2
  .unfold jF at hd;rw[List.any_eq_false] at hd;have:=hd x.toNat (List.mem_range.2 hxl)
   simp only[decide_eq_true_eq,not_and,not_or] at this;exact this (by rwa [show ((x.toNat:Nat):Int)=x by omega])
 exact⟨eA.2 ⟨⟨he.1,he.2.1⟩,key.1⟩,eA.2 ⟨⟨he.2.2.1,he.2.2.2⟩,key.2⟩⟩
variable {P:Program}
theorem aCv.val{o:Oper}{ρ:Operand->AV}{box box':Bxs}{tok tok':Nat->Bool}{nt nt':Nat}{v:AV}(h:aCv P o ρ box tok nt v box' tok' nt'):aFK o.op=true:=by
 unfold aCv at h;split at h
 .rename_i c ho;split at h
  .rename_i f hf;rw[ho];obtain⟨cal,args,tys⟩:=c;simp only at hf;subst hf;rfl
  .exact h.elim
 .exact h.elim
def aIW(S:AS):List (Operand × Operand)->Prop
 | []=>True
 | (p,q)::r=>NK (S.ev p) (S.ev q)/\aIW S r
theorem aIW.at{S:AS}{p q:Operand}:∀{L:List (Operand × Operand)},aIW S L->(p,q)∈L->NK (S.ev p) (S.ev q)
 | (a,b)::r,h,hm=>by
  rcases List.mem_cons.1 hm with e|hm
  .cases e;exact h.1
  .exact aIW.at h.2 hm
def aDc(P:Program)(o:Oper)(fid:FuncId)(args:List AV)(S:AS)(K:AS->Prop):Prop :=
 (∃v tok' nt',cW P fid args S.box S.tok S.nt v tok' nt'/\K ⟨bV S.tmps o.dst v,S.box,tok',nt'⟩) ∨
 ∃x k i off rows v tok' nt',aA1 o.op=some x/\S.ev x=.ptr k i off/\S.box k≠none/\aLL P fid args k S.box S.tok S.nt v rows tok' nt'/\K ⟨bV S.tmps o.dst v,upd S.box k (some rows),tok',nt'⟩
def aC0(P:Program)(cx:Cx)(o:Oper)(K:AS->Prop)(S:AS):Prop:=match cO o S.ev with
 | some (fid,args)=>aDc P o fid args S K
 | none=>yH P cx true o K S
def kC(P:Program)(cx:Cx)(ops:Array Oper):List Oper->(AS->Prop)->AS->Prop
 | [],K,S=>K S
 | o::r,K,S=>match o.guard with
  | none=>aC0 P cx o (kC P cx ops r K) S
  | some (j,want)=>match dL ops S j with
   | some (some b)=>Gd b want (aC0 P cx o (kC P cx ops r K)) (qA o.dst (kC P cx ops r K)) S
   | some none=>qA o.dst (kC P cx ops r K) S
   | none=>False
def aNU(P:Program)(cx:Cx)(ops:Array Oper)(K:AS->Prop)(S:AS):Prop:=match aC6 P cx.base ops.toList S.box with
 | some b=>kC P cx ops ops.toList K ⟨S.tmps,b,S.tok,S.nt⟩
 | none=>False
theorem aDc.of_r{o:Oper}{fid:FuncId}{args:List AV}{S:AS}{K:AS->Prop}{v:AV}{tok':Nat->Bool}{nt':Nat}(h:cW P fid args S.box S.tok S.nt v tok' nt')(hk:K ⟨bV S.tmps o.dst v,S.box,tok',nt'⟩):aDc P o fid args S K:=.inl ⟨v,tok',nt',h,hk⟩
theorem aDc.of_d{o:Oper}{fid:FuncId}{args:List AV}{S:AS}{K:AS->Prop}{v:AV}{tok':Nat->Bool}{nt':Nat}(h:dI P fid args S.tok S.nt v tok' nt')(hk:K ⟨bV S.tmps o.dst v,S.box,tok',nt'⟩):aDc P o fid args S K:=.of_r (h.r _) hk
attribute [simp] aNU aC0 cO aIW
@[simp] theorem aNt{cx:Cx}{ops:Array Oper}{K:AS->Prop}{t:Nat->AV}{b:Bxs}{k:Nat->Bool}{n:Nat}:kC P cx ops [] K ⟨t,b,k,n⟩=K ⟨t,b,k,n⟩:=by simp only[kC]
@[simp] theorem aM8{cx:Cx}{ops:Array Oper}{o:Oper}{r:List Oper}{K:AS->Prop}{t:Nat->AV}{b:Bxs}{k:Nat->Bool}{n:Nat}:kC P cx ops (o::r) K ⟨t,b,k,n⟩=match o.guard with
  | none=>aC0 P cx o (kC P cx ops r K) ⟨t,b,k,n⟩
  | some (j,want)=>match dL ops ⟨t,b,k,n⟩ j with
   | some (some g)=>Gd g want (aC0 P cx o (kC P cx ops r K)) (qA o.dst (kC P cx ops r K)) ⟨t,b,k,n⟩
   | some none=>qA o.dst (kC P cx ops r K) ⟨t,b,k,n⟩
   | none=>False:=by
 simp only[kC]
abbrev cQ:AV:=.osl 0 [] .full
theorem aEA{b p:Gr}{q:List Ov × Int}(hb:b.Fit)(hbv:vG b=0)(hp:p.Fit)(h:oR b p=q):(∀o∈q.1,aO3 b p o)/\∀o∈q.1,o.Fit:=by
 subst h;refine⟨fun o ho=>gU ho,fun o ho=>?_⟩;have hk:=gU ho;have hvp:vG p=0:=(kL hk.r).va
 have h1:=(bG hbv).1;have h2:=(bG hvp).1;exact(oV b p ⟨by omega,by omega⟩ ⟨by omega,by omega⟩).2 o ho
theorem aBB{b p:Gr}{q:List Ov × Int}(hbv:vG b=0)(h:oR b p=q):q.1.length<=1000000:=by
 subst h;by_cases hp:vG p=0
 .have h1:=(bG hbv).1;have h2:=(bG hp).1;exact(oV b p ⟨by omega,by omega⟩ ⟨by omega,by omega⟩).1
 .simp[oR,hbv,hp]
theorem fit_nil:Gr.Fit ⟨[],[]⟩:=⟨by simp,by simp⟩
def lst{β:Type}(ok:Nat->Nat->Bool)(m:Nat)(fin:List Int->List β):Nat->List Int->List β
 | 0,L=>fin L
 | r+1,L=>(List.range m).flatMap fun (k:Nat)=>if (!decide ((k:Int)∈L)&&ok L.length k)=true then lst ok m fin r (L++[(k:Int)]) else []
def atB(by' of:List Int)(i k:Nat):Bool:=decide (aU by' i<0)||decide (of.getD (aU by' i).toNat 0=k)
def aRN(p g:Gr)(x m:Mo)(N:List Int)(i k:Nat):Bool:=decide (g.edges.getD k default=kT p N i)&&atB x.edges m.edges i k
def aRX(p g:Gr)(x m:Mo)(i k:Nat):Bool:=decide (g.nodes.getD k 0=p.nodes.getD i 0)&&atB x.nodes m.nodes i k
def exE(p g:Gr)(x m:Mo)(N:List Int)(r:Nat)(L:List Int):List Mo:=lst (aRN p g x m N) g.edges.length (fun E=>[⟨N,E⟩]) r L
def exN(p g:Gr)(x m:Mo)(r:Nat)(L:List Int):List Mo:=lst (aRX p g x m) g.nodes.length (fun N=>exE p g x m N p.edges.length []) r L
def exts(p g:Gr)(x m:Mo):List Mo:=exN p g x m p.nodes.length []
abbrev Mo.cells(m:Mo):List D:=[ints m.nodes,ints m.edges]
inductive Cd.Bare:Cd->Prop
 | mk {c:Cd} (hs:c.sl=[]) (ht:c.te=[]) (h:∀x∈c.kids,Cd.Bare x):Cd.Bare c
theorem Cd.Bare.sl{c:Cd}(h:c.Bare):c.sl=[]:=by cases h;assumption
theorem Cd.Bare.te{c:Cd}(h:c.Bare):c.te=[]:=by cases h;assumption
@[simp] theorem aQp(base:Nat)(out:Bxs)(loc:List (Nat × List (List AV))):lb base out loc base=lk loc 0:=aQ base 0 out loc
@[simp] theorem aMf(base:Nat)(out:Bxs)(loc:List (Nat × List (List AV)))(rows:List (List AV)):upd (lb base out loc) base (some rows)=lb base out ((0,rows)::loc):=aIT base 0 out loc rows
@[simp] theorem aLz{q:Nat->Prop}{fz:Option (Nat × Nat × List (List D))}{base i off:Nat}{out:Bxs}{loc:List (Nat × List (List AV))}:To (fun k=>lb base out loc k≠none) q fz (.ptr base i off) (.ptr base i off)↔lk loc 0≠none:=aGQ (s:=0)
abbrev bytes(l:List Int):D:=.sl 1 (l.map fun n=>[u8 n])
def U8s(l:List Int):Prop:=∀c∈l,0<=c/\c<256
def aOO(st:List Int × List E)(c:Int):List Int × List E :=
 if c % 2=0∨st.1.length=0 then (st.1++[c / 2 % 3],st.2) else (st.1,st.2++[⟨c / 2 % 2,c / 4 % st.1.length,c / 16 % st.1.length⟩])
def aPb(g:Gr)(cs:List Int)(most i:Nat):List Int × List E:=((cs.take most).take i).foldl aOO (g.nodes,g.edges)
def aPf(g:Gr)(cs:List Int)(most:Nat):Gr:=let r:=aPb g cs most cs.length;⟨r.1,r.2⟩
theorem zC{n m:Int}(h0:0<=n)(h1:n<=m):bA n m=true:=by simp[bA,h0,h1]
theorem Pre.trans{a b c:Gr}(h:Pre a b)(k:Pre b c):Pre a c:=by
 obtain⟨t,ht⟩:=h.n;obtain⟨u,hu⟩:=h.e;obtain⟨t',ht'⟩:=k.n;obtain⟨u',hu'⟩:=k.e;exact⟨h.va,k.vb,⟨t++t',by rw[ht',ht,List.append_assoc]⟩,⟨u++u',by rw[hu',hu,List.append_assoc]⟩⟩
structure Sp where
 l:Gr
 r:Gr
 k:Mo
 i:Mo
structure aBe (s:Sp):Prop where
 k:VP s.l s.k
 i:Emb (exG s.l s.k) s.r s.i
def Sp.z(s:Sp)(m:Mo)(x:Gr):Mo:=aGH x (yE s.r s.i) m
def Sp.dng(s:Sp)(m:Mo)(x:Gr):Bool:=jF x (yE s.r s.i) m
def Sp.rest(s:Sp)(m:Mo)(x:Gr):Gr:=exG x (s.z m x)
def Sp.go(s:Sp)(m:Mo)(x:Gr):Mo:=aL4 (s.z m x) (oW s.i m)
def Sp.big(s:Sp)(m:Mo)(x:Gr):Prop:=40<s.l.nodes.length+(s.rest m x).nodes.length∨80<s.l.edges.length+(s.rest m x).edges.length
instance (s:Sp) (m:Mo) (x:Gr):Decidable (s.big m x):=inferInstanceAs (Decidable (_∨_))
def Sp.po(s:Sp)(m:Mo)(x:Gr):Ov:=aP7 s.l (s.rest m x) s.k (s.go m x)
def Sp.inn(s:Sp)(m:Mo)(x:Gr):Sp:=⟨(s.po m x).g,x,yE (s.po m x).g (s.po m x).r,oW (aL4 (s.po m x).r (yE (s.po m x).g (s.po m x).r)) (s.z m x)⟩
theorem VP.sub{g:Gr}{p:Mo}(h:VP g p):Emb (exG g p) g p:=h.emb
theorem Sp.z_vp{s:Sp}(h:aBe s){m:Mo}{x:Gr}(hm:Emb s.r x m)(hd:s.dng m x=false):VP x (s.z m x):=aKs hm (aA9 h.i) hd
abbrev noC:Cd:=sM 2 [sM 1 []]
def aKf(k:Int)(m:Mo)(g:Gr)(s:Sp)(L H:Sp->List Cd × Int):Cd × Int :=
 if k≠5 then (if (L s).2≠0 then (sM 0 [],(L s).2) else (sM k (L s).1,0))
 else if s.dng m g=true then (noC,0) else if s.big m g then (sM 0 [],3)
 else if (H (s.inn m g)).2≠0 then (sM 0 [],(H (s.inn m g)).2) else (.mk 5 (H (s.inn m g)).1 (s.po m g).l (s.po m g).g [] 0 [],0)
mutual
def Cd.lft:Cd->Sp->Cd × Int
 | .mk k c m g _ _ _,s=>aKf k m g s (fun s=>Cd.lftL c s) (fun s=>Cd.lftL c s)
def Cd.lftL:List Cd->Sp->List Cd × Int
 | [],_=>([],0)
 | x::r,s=>if (Cd.lft x s).2≠0 then ([],(Cd.lft x s).2) else if (Cd.lftL r s).2≠0 then ([],(Cd.lftL r s).2) else ((Cd.lft x s).1::(Cd.lftL r s).1,0)
end
def aOh(xs:List Int)(v:Int)(nb:Nat)(box:Bxs)(tok:Tks)(nt:Nat)(i:Nat):AS:=⟨tl [(0,.d (ints xs)),(1,I v),(5,I i)],lb nb box [],tok,nt⟩
theorem aKP(xs:List Int)(v:Int)(hx:xs.length<=1000000):DC 220 [.d (ints xs),I v] (B (decide (v∈xs))):=by
 intro tok nt box nb;refine sI func220 ntmps220 fun Hb Ht=>?_
 refine sR ?_;simp;refine sR ?_;simp;refine sN ?_;refine sL (aOh xs v nb box tok nt) (fun i=>i<=xs.length/\v∉xs.take i) (fun i=>xs.length-i) 0 ⟨Nat.zero_le _,by simp⟩ (wM (nr0 _) rfl (by simp[ToL]) trivial) ?_;rintro i S ⟨hi,htk⟩ hS;simp only[aOh] at hS;subst hS;have hw:=sW (i:=i) (by omega);refine sR ?_;simp;refine sC ?_;simp;refine⟨fun hlt=>?_,fun hge=>?_⟩
 .refine sR ?_;simp[hlt];refine sC ?_;simp;refine⟨fun he=>?_,fun hne=>?_⟩
  .refine sR ?_;simp;have hmem:v∈xs:=by rw[<-he];exact List.getElem_mem _
   refine sT (sH Hb Ht ?_);simp[hmem]
  .refine sR ?_;simp[hw];refine sE ?_;refine⟨i+1,⟨hlt,?_⟩,by omega,wM (nr0 _) rfl (by simp[ToL]) trivial⟩;rw[List.take_succ_eq_append_getElem hlt];simp only[List.mem_append,List.mem_singleton,not_or];exact⟨htk,fun e=>hne e.symm⟩
 .refine sX ?_;simp only[AU,↓reduceIte];refine sR ?_;simp;have hn:v∉xs:=by rwa [List.take_of_length_le hge] at htk
  refine sT (sH Hb Ht ?_);simp[hn]
def aLs(xs:List Int)(v:Int)(nb:Nat)(box:Bxs)(tok:Tks)(nt:Nat)(i:Nat):AS:=⟨tl [(0,.d (ints xs)),(1,I v),(5,I i)],lb nb box [],tok,nt⟩
theorem uJ(xs:List Int)(v:Int)(hx:xs.length<=1000000):DC 268 [.d (ints xs),I v] (B (decide (v∈xs))):=by
 intro tok nt box nb;refine sI func268 ntmps268 fun Hb Ht=>?_
 refine sR ?_;simp;refine sR ?_;simp;refine sN ?_;refine sL (aLs xs v nb box tok nt) (fun i=>i<=xs.length/\v∉xs.take i) (fun i=>xs.length-i) 0 ⟨Nat.zero_le _,by simp⟩ (wM (nr0 _) rfl (by simp[ToL]) trivial) ?_;rintro i S ⟨hi,htk⟩ hS;simp only[aLs] at hS;subst hS;have hw:=sW (i:=i) (by omega);refine sR ?_;simp;refine sC ?_;simp;refine⟨fun hlt=>?_,fun hge=>?_⟩
 .refine sR ?_;simp[hlt];refine sC ?_;simp;refine⟨fun he=>?_,fun hne=>?_⟩
  .refine sR ?_;simp;have hmem:v∈xs:=by rw[<-he];exact List.getElem_mem _
   refine sT (sH Hb Ht ?_);simp[hmem]
  .refine sR ?_;simp[hw];refine sE ?_;refine⟨i+1,⟨hlt,?_⟩,by omega,wM (nr0 _) rfl (by simp[ToL]) trivial⟩;rw[List.take_succ_eq_append_getElem hlt];simp only[List.mem_append,List.mem_singleton,not_or];exact⟨htk,fun e=>hne e.symm⟩
 .refine sX ?_;simp only[AU,↓reduceIte];refine sR ?_;simp;have hn:v∉xs:=by rwa [List.take_of_length_le hge] at htk
  refine sT (sH Hb Ht ?_);simp[hn]
def aNJ(xs:List Int)(v:Int)(nb:Nat)(box:Bxs)(tok:Tks)(nt:Nat)(i:Nat):AS:=⟨tl [(0,.d (ints xs)),(1,I v),(5,I i)],lb nb box [],tok,nt⟩
theorem zG(xs:List Int)(v:Int)(hx:xs.length<=1000000):DC 155 [.d (ints xs),I v] (I (aU xs v)):=by
 intro tok nt box nb;refine sI func155 ntmps155 fun Hb Ht=>?_
 refine sR ?_;simp;refine sR ?_;simp;refine sN ?_;refine sL (aNJ xs v nb box tok nt) (fun i=>i<=xs.length/\v∉xs.take i) (fun i=>xs.length-i) 0 ⟨Nat.zero_le _,by simp⟩ (wM (nr0 _) rfl (by simp[ToL]) trivial) ?_;rintro i S ⟨hi,htk⟩ hS;simp only[aNJ] at hS;subst hS;have hw:=sW (i:=i) (by omega);refine sR ?_;simp;refine sC ?_;simp;refine⟨fun hlt=>?_,fun hge=>?_⟩
 .have hsp:xs=xs.take i++xs[i]::xs.drop (i+1):=by simp
  refine sR ?_;simp[hlt];refine sC ?_;simp;refine⟨fun he=>?_,fun hne=>?_⟩
  .refine sR ?_;simp;have hmem:v∈xs:=by rw[<-he];exact List.getElem_mem _
   have hid:xs.idxOf v=i:=by
    unfold List.idxOf;rw[List.findIdx_eq hlt];refine⟨by simp[he],fun j hj=>?_⟩;have:xs[j]≠v:=fun e=>htk (by rw[<-e,List.mem_take_iff_getElem];exact⟨j,by omega,rfl⟩)
    simpa using this
   refine sT (sH Hb Ht ?_);simp[aU,hmem,hid]
  .refine sR ?_;simp[hw];refine sE ?_;refine⟨i+1,⟨hlt,?_⟩,by omega,wM (nr0 _) rfl (by simp[ToL]) trivial⟩;rw[List.take_succ_eq_append_getElem hlt];simp only[List.mem_append,List.mem_singleton,not_or];exact⟨htk,fun e=>hne e.symm⟩
 .refine sX ?_;simp only[AU,↓reduceIte];refine sR ?_;simp;have hn:v∉xs:=by rwa [List.take_of_length_le hge] at htk
  refine sT (sH Hb Ht ?_);simp[aU,hn]
def aNB(l:List Int)(n:Int)(nb:Nat)(box:Bxs)(tok:Tks)(nt:Nat)(i:Nat):AS:=⟨tl [(0,.d (ints l)),(1,I n),(5,I i)],lb nb box [],tok,nt⟩
theorem aFr(l:List Int)(n:Int)(hl:l.length<=1000000):DC 219 [.d (ints l),I n] (I (jT l n)):=by
 intro tok nt box nb;refine sI func219 ntmps219 fun Hb Ht=>?_
 repeat first|simp|refine sR ?_
 refine sN ?_;refine sL (aNB l n nb box tok nt) (fun i=>i<=l.length/\aA (jJ l n) i=0) (fun i=>l.length-i) 0 ⟨Nat.zero_le _,rfl⟩ (wM (nr0 _) rfl (by simp[ToL]) trivial) ?_;rintro i S ⟨hi,hok⟩ hS;simp only[aNB] at hS;subst hS;have hw:=sW (i:=i) (by omega);have hR:i<l.length->jJ l n i≠0->jT l n=jJ l n i:=fun hlt h0=>aL hok h0 l.length hlt
 repeat first|simp|refine sR ?_|refine sC ?_
 refine⟨fun hlt=>?_,fun hge=>?_⟩
 .have hg:l.getD i 0=l[i]:=by simp[hlt]
  have hR:=hR hlt;have hA:jJ l n i=if l[i]<0∨n<=l[i] then 6 else if 0<i/\l[i]<=l.getD (i-1) 0 then 12 else 0:=by rw[jJ,hg]
  repeat first|simp[hlt]|refine sR ?_
  by_cases hneg:l[i]<0
  .repeat first|simp[hneg,hlt]|refine sR ?_
   refine sC ?_;repeat first|simp|refine sR ?_
   rw[hA,if_pos (.inl hneg)] at hR;have hR:=hR (by decide);refine sT (sH Hb Ht ?_);simp[hR]
  .repeat first|simp[hneg,hlt]|refine sR ?_
   by_cases hbig:n<=l[i]
   .simp only[hbig];refine sC ?_;repeat first|simp|refine sR ?_
    rw[hA,if_pos (.inr hbig)] at hR;have hR:=hR (by decide);refine sT (sH Hb Ht ?_);simp[hR]
   .simp only[hbig];rw[if_neg (by omega)] at hA;refine sC ?_;simp;by_cases h0:0<i
    .have hw':IntKind.i64.wrap (↑i-1)=((i-1:Nat):Int):=by rw[aM (by omega) (by omega)];omega
     have hlt':i-1<l.length:=by omega
     have hg':l.getD (i-1) 0=l[i-1]:=by simp[hlt']
     rw[hg'] at hA;repeat first|simp[hlt,h0,hw',hlt']|refine sR ?_
     by_cases hle:l[i]<=l[i-1]
     .rw[if_pos ⟨h0,hle⟩] at hA;rw[hA] at hR;have hR:=hR (by decide);simp only[hle];refine sC ?_;repeat first|simp|refine sR ?_
      refine sT (sH Hb Ht ?_);simp[hR]
     .rw[if_neg (by omega)] at hA;simp only[hle];refine sC ?_;simp;repeat first|simp[hw]|refine sR ?_
      refine sE ?_;exact⟨i+1,⟨hlt,by simp only[aA,hok,hA,↓reduceIte]⟩,by omega,wM (nr0 _) rfl (by simp[ToL]) trivial⟩
    .rw[if_neg (by omega)] at hA;repeat first|simp[hlt,h0]|refine sR ?_
     refine sC ?_;simp;repeat first|simp[hw]|refine sR ?_
     refine sE ?_;exact⟨i+1,⟨hlt,by simp only[aA,hok,hA,↓reduceIte]⟩,by omega,wM (nr0 _) rfl (by simp[ToL]) trivial⟩
 .refine sX ?_;simp only[AU,↓reduceIte];repeat first|simp|refine sR ?_
  have:i=l.length:=by omega
  subst this;refine sT (sH Hb Ht ?_);simp[jT,hok]
def aOz(g:Gr)(p:Mo)(nb:Nat)(box:Bxs)(tok:Tks)(nt:Nat)(i:Nat):AS :=
 ⟨tl [(7,I i),(3,.ptr (nb+3) 0 0),(2,.ptr (nb+2) 0 0)],lb nb box [(3,[[.d (ints p.nodes),.d (ints p.edges)]]),(2,[[.d (ints g.nodes),.d (AM.edges g.edges)]])],tok,nt⟩
theorem aGR(g:Gr)(p:Mo)(hg:g.Fit)(hv:vG g=0)(hp:p.Fit):DC 163 [g.av,p.av] (I (eU g p)):=by
 intro tok nt box nb;have h1:=aFr p.nodes g.nodes.length hp.n;have h2:=aFr p.edges g.edges.length hp.e;refine sI func163 ntmps163 fun Hb Ht=>?_
 repeat first|simp|refine sR ?_
 refine sD (h1 _ _) ?_;repeat first|simp|refine sR ?_
 by_cases e1:jT p.nodes g.nodes.length=0
 .simp only[e1];refine sC ?_;repeat first|simp|refine sR ?_
  refine sD (h2 _ _) ?_;repeat first|simp|refine sR ?_
  by_cases e2:jT p.edges g.edges.length=0
  .simp only[e2];refine sC ?_;repeat first|simp|refine sR ?_
   refine sN ?_;have re:=uQ e2;refine sL (aOz g p nb box tok nt) (fun i=>i<=p.edges.length/\aA (gH g p) i=0) (fun i=>p.edges.length-i) 0 ⟨Nat.zero_le _,rfl⟩ wkA ?_;rintro i S ⟨hi,hok⟩ hS;simp only[aOz] at hS;subst hS;have hpe:=hp.e;have hw:=sW (i:=i) (by omega);have hR:i<p.edges.length->gH g p i≠0->eU g p=gH g p i:=fun hlt h0=>by
    have:=aL hok h0 p.edges.length hlt
    simp[eU,e1,e2,this]
   repeat first|simp|refine sR ?_|refine sC ?_
   refine⟨fun hlt=>?_,fun hge=>?_⟩
   .have hR:=hR hlt;obtain⟨r1,r2⟩:=re _ (List.getElem_mem hlt);have r3:p.edges[i].toNat<g.edges.length:=by omega
    have hD:gH g p i=if g.edges[p.edges[i].toNat].fr∈p.nodes/\g.edges[p.edges[i].toNat].to∈p.nodes then 0 else 14:=by
     have q1:p.edges.getD i 0=p.edges[i]:=by simp[hlt]
     have q2:g.edges.getD p.edges[i].toNat default=g.edges[p.edges[i].toNat]:=by simp[r3]
     rw[gH,q1,q2]
    have hh:=fun v=>aKP p.nodes v hp.n
    refine sN ?_;refine AL.region2 cA (nr0 _) (by kernel_rfl) (oO.of (by simp)) ?_;simp[hlt,r1,r2,r3];generalize g.edges[p.edges[i].toNat]=x at *;repeat first|simp|refine sR ?_
    refine sD (hh _ _ _) ?_;simp;by_cases h1:x.fr∈p.nodes
    .simp only[h1];repeat first|simp|refine sR ?_
     refine sD (hh _ _ _) ?_;simp;by_cases h2:x.to∈p.nodes
     .rw[if_pos ⟨h1,h2⟩] at hD;simp only[h2];repeat first|simp[hw]|refine sR ?_|refine sC ?_
      refine sE ?_;exact⟨i+1,⟨hlt,by simp only[aA,hok,hD,↓reduceIte]⟩,by omega,wkA⟩
     .rw[if_neg (fun h=>h2 h.2)] at hD;rw[hD] at hR;have hR:=hR (by decide);simp only[h2];repeat first|simp|refine sR ?_
      refine sC ?_;repeat first|simp|refine sR ?_
      refine sT (sH Hb Ht ?_);simp[hR]
    .rw[if_neg (fun h=>h1 h.1)] at hD;rw[hD] at hR;have hR:=hR (by decide);simp only[h1];repeat first|simp|refine sR ?_
     refine sC ?_;repeat first|simp|refine sR ?_
     refine sT (sH Hb Ht ?_);simp[hR]
   .refine sX ?_;simp only[AU,↓reduceIte];repeat first|simp|refine sR ?_
    have:i=p.edges.length:=by omega
    subst this;refine sT (sH Hb Ht ?_);simp[eU,e1,e2,hok]
  .have b2:(jT p.edges g.edges.length != 0)=true:=by simp[e2]
   simp only[b2];refine sC ?_;repeat first|simp|refine sR ?_
   refine sT (sH Hb Ht ?_);simp[eU,e1,e2]
 .have b1:(jT p.nodes g.nodes.length != 0)=true:=by simp[e1]
  simp only[b1];refine sC ?_;repeat first|simp|refine sR ?_
  refine sT (sH Hb Ht ?_);simp[eU,e1]
theorem nZ(g:Gr)(p:Mo)(hg:g.Fit)(hp:p.Fit):DC 104 [g.av,p.av] (I (cR g p)):=by
 intro tok nt box nb;have h1:=dR g hg;have h2:=fun h=>aGR g p hg h hp
 refine sI func104 ntmps104 fun Hb Ht=>?_
 repeat first|simp|refine sR ?_
 refine sD (h1 _ _) ?_;repeat first|simp|refine sR ?_
 by_cases e1:vG g=0
 .simp only[e1];refine sC ?_;repeat first|simp|refine sR ?_
  refine sD (h2 e1 _ _) ?_;repeat first|simp|refine sR ?_
  refine sT (sH Hb Ht ?_);simp[cR,e1]
 .have b1:(vG g != 0)=true:=by simp[e1]
  simp only[b1];refine sC ?_;repeat first|simp|refine sR ?_
  refine sT (sH Hb Ht ?_);simp[cR,e1]
def iT(g:Gr)(p:Mo)(i:Nat):List Int:=(p.nodes.take i).map fun k=>g.nodes.getD k.toNat 0
def kR(g:Gr)(p:Mo)(i:Nat):List E:=(p.edges.take i).map (qL g p)
def aFh(g:Gr)(p:Mo)(nb:Nat)(box:Bxs)(x:Acc):AS :=
 ⟨tl [(9,I x.i),(8,.ptr (nb+8) 0 0),(5,.ptr (nb+5) 0 0),(4,.ptr (nb+4) 0 0),(3,.ptr (nb+3) 0 0),(2,.ptr (nb+2) 0 0)],
  lb nb box [(8,[[.osl 1 (rI (iT g p x.i)) x.own,.osl 0 [] .full]]),(3,[[.d (ints p.nodes),.d (ints p.edges)]]),(2,[[.d (ints g.nodes),.d (AM.edges g.edges)]]),(5,[[cQ,cQ]]),(4,[[cQ,cQ]])],x.tok,x.nt⟩
def aLo(g:Gr)(p:Mo)(own1:Own)(nb:Nat)(box:Bxs)(x:Acc):AS :=
 ⟨tl [(10,I x.i),(8,.ptr (nb+8) 0 0),(5,.ptr (nb+5) 0 0),(4,.ptr (nb+4) 0 0),(3,.ptr (nb+3) 0 0),(2,.ptr (nb+2) 0 0)],
  lb nb box [(8,[[.d (ints (iT g p p.nodes.length)),.osl 3 (rE (kR g p x.i)) x.own]]),(3,[[.d (ints p.nodes),.d (ints p.edges)]]),(2,[[.d (ints g.nodes),.d (AM.edges g.edges)]]),(5,[[cQ,cQ]]),(4,[[cQ,cQ]])],x.tok,x.nt⟩
theorem lJ(g:Gr)(p:Mo):iT g p 0=[]:=by simp[iT]
theorem lB(g:Gr)(p:Mo):kR g p 0=[]:=by simp[kR]
theorem kV(g:Gr)(p:Mo){i:Nat}(h:i<p.nodes.length):iT g p (i+1)=iT g p i++[g.nodes.getD p.nodes[i].toNat 0]:=by simp only[iT,List.take_add_one,List.getElem?_eq_getElem h,Option.toList,List.map_append,List.map_cons,List.map_nil]
theorem lD(g:Gr)(p:Mo){i:Nat}(h:i<p.edges.length):kR g p (i+1)=kR g p i++[qL g p p.edges[i]]:=by simp only[kR,List.take_add_one,List.getElem?_eq_getElem h,Option.toList,List.map_append,List.map_cons,List.map_nil]
theorem oG(g:Gr)(p:Mo)(i:Nat):(iT g p i).length<=i:=by simp[iT];omega
theorem nV(g:Gr)(p:Mo)(i:Nat):(kR g p i).length<=i:=by simp[kR];omega
theorem aAR(g:Gr)(p:Mo):exG g p=⟨iT g p p.nodes.length,kR g p p.edges.length⟩:=by simp[exG,iT,kR]
theorem aCr(g:Gr)(p:Mo)(hg:g.Fit)(hp:p.Fit)(h:VP g p):DC 98 [g.av,p.av] (.tup [(exG g p).av,p.av,I 0]):=by
 intro tok nt box nb;have h1:=nZ g p hg hp;rw[h.v] at h1;refine sI func98 ntmps98 fun Hb Ht=>?_
 repeat first|simp|refine sR ?_
 refine sD (h1 _ _) ?_;repeat first|simp|refine sR ?_
 refine sC ?_;repeat first|simp|refine sR ?_
 refine sN ?_;have hpn:=hp.n;have hpe:=hp.e;refine sL (aFh g p nb box) (fun x=>x.i<=p.nodes.length/\TK tok nt x.tok x.nt [x.own]) (fun x=>p.nodes.length-x.i) ⟨0,.full,tok,nt⟩ ⟨Nat.zero_le _,(TK.start Ht).full⟩ (wM (nr0 _) rfl (by simp[ToL,lk]) (by simp[aC,lk,lJ])) ?_;rintro⟨i,own,tok',nt'⟩ S ⟨hi,htk⟩ hS;simp only[aFh] at hS hi htk;subst hS;have hw:=sW (i:=i) (by omega);repeat first|simp|refine sR ?_|refine sC ?_
 refine⟨fun hlt=>?_,fun hge=>?_⟩
 .obtain⟨r1,r2⟩:=h.n _ (List.getElem_mem hlt);have r3:p.nodes[i].toNat<g.nodes.length:=by omega
  refine sR ?_;simp[hlt,r1,r2,r3];refine⟨⟨by have:=oG g p i;omega,htk.live⟩,?_⟩;repeat first|simp[hw]|refine sR ?_
  refine sE ?_;exact⟨⟨i+1,_,_,_⟩,⟨hlt,htk.app⟩,by simp only;omega,wM htk.app.le rfl (by simp[ToL,lk]) (by simp[aC,lk,kV g p hlt,r3])⟩
 .refine sX ?_;simp only[AU,↓reduceIte];have:i=p.nodes.length:=by omega
  subst this;repeat first|simp|refine sR ?_
  refine sN ?_;refine sL (aLo g p own nb box) (fun x=>x.i<=p.edges.length/\TK tok nt x.tok x.nt [x.own]) (fun x=>p.edges.length-x.i) ⟨0,.full,tok',nt'⟩ ⟨Nat.zero_le _,htk.tail.full⟩ (wM htk.le rfl (by simp[ToL,lk]) (by simp[aC,lk,lB])) ?_;rintro⟨i,own2,tok2,nt2⟩ S ⟨hi,htk2⟩ hS;simp only[aLo] at hS hi htk2;subst hS;have hw:=sW (i:=i) (by omega);have hh:=fun v=>zG p.nodes v hp.n
  repeat first|simp|refine sR ?_|refine sC ?_
  refine⟨fun hlt=>?_,fun hge=>?_⟩
  .obtain⟨r1,r2⟩:=h.e _ (List.getElem_mem hlt);have r3:p.edges[i].toNat<g.edges.length:=by omega
   have hE:qL g p p.edges[i]=⟨g.edges[p.edges[i].toNat].ty,aU p.nodes g.edges[p.edges[i].toNat].fr,aU p.nodes g.edges[p.edges[i].toNat].to⟩:=by
    have q2:g.edges.getD p.edges[i].toNat default=g.edges[p.edges[i].toNat]:=by simp[r3]
    rw[qL,q2]
   have hsucc:=lD g p hlt;rw[hE] at hsucc;refine sN ?_;refine AL.region2 cA (nr0 _) (by kernel_rfl) (oO.of (by simp)) ?_;simp[hlt,r1,r2,r3];generalize g.edges[p.edges[i].toNat]=x at *;refine sR ?_;simp;refine sD (hh _ _ _) ?_;simp;refine sD (hh _ _ _) ?_;simp;refine⟨⟨by have:=nV g p i;omega,htk2.live⟩,?_⟩;repeat first|simp[hw]|refine sR ?_
   refine sE ?_;exact⟨⟨i+1,_,_,_⟩,⟨hlt,htk2.app⟩,by simp only;omega,wM htk2.app.le rfl (by simp[ToL,lk]) (by simp[aC,lk,hsucc])⟩
  .refine sX ?_;simp only[AU,↓reduceIte];have:i=p.edges.length:=by omega
   subst this;repeat first|simp|refine sR ?_
   refine⟨by omega,by omega,?_⟩;have htk3:=htk2.full.app.full.app;refine sT (sG Hb Ht htk3.old htk3.le ?_);simp[aAR]
theorem aK2(p:Mo)(n:Int)(h1:p.nodes.length<=281474976710656)(h2:p.edges.length<=281474976710656):DC 160 [p.av,I n] (B (uA p n)):=by
 intro tok nt box nb;have hw:IntKind.i64.wrap (↑p.nodes.length+↑p.edges.length)=(p.nodes.length:Int)+p.edges.length:=aM (by omega) (by omega)
 refine sI func160 ntmps160 fun Hb Ht=>?_
 repeat first|simp[hw]|refine sR ?_
 refine sT (sH Hb Ht ?_);simp[uA]
end Go.AM
