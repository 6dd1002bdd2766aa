/-
 Parts of the proof, as merged from many texts: a machine over data, what the functions compute, plain laws.
-/
import Derived.Test.YtainalmfffjnjaaGreatDoorPTP12
import Derived.Lib.IndexAny
set_option linter.unusedSimpArgs false
set_option linter.unusedVariables false
namespace Go.AM
open Go Go.Proofs
open Go.Proofs.Tryz
theorem w64a:IntKind.i64.wrap 1=1:=by decide
theorem w64c:IntKind.u8.wrap 1=1:=by decide
theorem w64b:IntKind.u64.wrap 1=1:=by decide
set_option maxRecDepth 100000 in
theorem len64_c:DC 276 [.d (.raw (.int .u64 1))] (I 1):=by
 intro tok nt box nb;refine sI func276 ntmps276 fun Hb Ht=>?_
 try (simp[w64a,w64b,w64c])
 repeat ((first|refine sR ?_|refine sC ?_|refine sX ?_);simp[w64a,w64b,w64c])
 refine⟨by decide,?_⟩;try (simp[w64a,w64b,w64c])
 repeat ((first|refine sR ?_|refine sC ?_|refine sX ?_);simp[w64a,w64b,w64c])
 refine sT (sH Hb Ht ?_);simp[w64a,w64b,w64c]
theorem bitsLen_c:DC 232 [.d (.raw (.int .u64 1))] (I 1):=by
 intro tok nt box nb;refine sI func232 ntmps232 fun Hb Ht=>?_
 try (simp)
 repeat ((first|refine sR ?_|refine sC ?_|refine sX ?_);simp)
 refine sD (len64_c _ _) ?_;simp;try (simp)
 repeat ((first|refine sR ?_|refine sC ?_|refine sX ?_);simp)
 refine sT (sH Hb Ht ?_);simp
def stIns(x:Int)(nb:Nat)(box:Bxs)(tok:Tks)(nt:Nat)(u:Unit):AS:=⟨tl [(6,I 1),(0,.d (ints [x])),(1,I 0),(2,I 1)],lb nb box [],tok,nt⟩
theorem insOne_c(x:Int):DC 266 [.d (ints [x]),I 0,I 1] (.tup []):=by
 intro tok nt box nb;refine sI func266 ntmps266 fun Hb Ht=>?_
 try (simp[w64a])
 repeat ((first|refine sR ?_|refine sC ?_|refine sX ?_);simp[w64a])
 refine sN ?_;refine sL (stIns x nb box tok nt) (fun _=>True) (fun _=>0) () trivial (wM (nr _) rfl (by simp[ToL,lk]) trivial) ?_;rintro u S _ hS;simp only[stIns] at hS;subst hS;try (simp[w64a])
 repeat ((first|refine sR ?_|refine sC ?_|refine sX ?_);simp[w64a])
 refine sE ?_;try simp only[AU]
 refine⟨by simp,sF Hb Ht (fun _ h=>h) (nr _) ?_⟩;simp
def stPdq(x:Int)(nb:Nat)(box:Bxs)(tok:Tks)(nt:Nat)(u:Unit):AS:=⟨tl [(0,.d (ints [x])),(1,I 0),(2,I 1),(3,I 1)],lb nb box [],tok,nt⟩
theorem pdqOne_c(x:Int):DC 231 [.d (ints [x]),I 0,I 1,I 1] (.tup []):=by
 intro tok nt box nb;refine sI func231 ntmps231 fun Hb Ht=>?_
 try (simp)
 repeat ((first|refine sR ?_|refine sC ?_|refine sX ?_);simp)
 refine sN ?_;refine sL (stPdq x nb box tok nt) (fun _=>True) (fun _=>0) () trivial (wM (nr _) rfl (by simp[ToL,lk]) trivial) ?_;rintro u S _ hS;simp only[stPdq] at hS;subst hS;try (simp[w64a])
 repeat ((first|refine sR ?_|refine sC ?_|refine sX ?_);simp[w64a])
 refine sD (insOne_c x _ _) ?_;simp;try (simp)
 repeat ((first|refine sR ?_|refine sC ?_|refine sX ?_);simp)
 refine sT (sH Hb Ht ?_);simp
theorem sortOne_c(x:Int):DC 156 [.d (ints [x])] (.tup []):=by
 intro tok nt box nb;refine sI func156 ntmps156 fun Hb Ht=>?_
 try (simp[w64b])
 repeat ((first|refine sR ?_|refine sC ?_|refine sX ?_);simp[w64b])
 refine sD (bitsLen_c _ _) ?_;simp;refine sD (pdqOne_c x _ _) ?_;simp;refine sE ?_;try simp only[AU]
 refine⟨by simp,sF Hb Ht (fun _ h=>h) (nr _) ?_⟩;simp
def stEqI(xs ys:List Int)(nb:Nat)(box:Bxs)(tok:Tks)(nt:Nat)(i:Nat):AS :=
 ⟨tl [(0,.d (ints xs)),(1,.d (ints ys)),(12,I xs.length),(13,I i)],lb nb box [],tok,nt⟩
set_option maxRecDepth 100000 in
theorem equalI_c(xs ys:List Int)(hx:xs.length<=1000000)(hy:ys.length<=1000000):DC 80 [.d (ints xs),.d (ints ys)] (B (decide (xs=ys))):=by
 intro tok nt box nb;refine sI func80 ntmps80 fun Hb Ht=>?_
 by_cases hl:xs.length=ys.length
 .have hl':(xs.length:Int)=ys.length:=by omega
  try (simp[hl'])
  repeat ((first|refine sR ?_|refine sC ?_|refine sX ?_);simp[hl'])
  refine sN ?_;refine sL (stEqI xs ys nb box tok nt) (fun i=>i<=xs.length/\xs.take i=ys.take i) (fun i=>xs.length-i) 0 ⟨Nat.zero_le _,by simp⟩ (wM (nr _) rfl (by simp[ToL,lk,hl]) trivial) ?_;rintro i S' ⟨hi,htk⟩ hS;simp only[stEqI] at hS;subst hS;have hw:=sW (i:=i) (by omega);by_cases hlt:i<xs.length
  .have hlt2:i<ys.length:=by omega
   by_cases he:xs[i]=ys[i]
   .have b2:(xs[i] != ys[i])=false:=by simp[he]
    try (simp[hlt,hlt2,b2,he,hw])
    repeat ((first|refine sR ?_|refine sC ?_|refine sX ?_);simp[hlt,hlt2,b2,he,hw])
    refine sE ?_;refine⟨i+1,⟨hlt,?_⟩,by omega,wM (nr _) rfl (by simp[ToL,lk]) trivial⟩;rw[List.take_succ_eq_append_getElem hlt,List.take_succ_eq_append_getElem hlt2,htk,he]
   .have b2:(xs[i] != ys[i])=true:=by simp[he]
    have hne:¬xs=ys:=fun e=>he (by subst e;rfl)
    try (simp[hlt,hlt2,b2,he])
    repeat ((first|refine sR ?_|refine sC ?_|refine sX ?_);simp[hlt,hlt2,b2,he])
    refine sT (sH Hb Ht ?_);simp[hne]
  .have hxy:xs=ys:=by rw[List.take_of_length_le (by omega),List.take_of_length_le (by omega)] at htk;exact htk
   try (simp[hlt])
   repeat ((first|refine sR ?_|refine sC ?_|refine sX ?_);simp[hlt])
   refine sT (sH Hb Ht ?_);simp[hxy]
 .have hl':¬(xs.length:Int)=ys.length:=by omega
  have hne:¬xs=ys:=fun e=>hl (by rw[e])
  have b2:((xs.length:Int) != ys.length)=true:=by simp[hl']
  try (simp[hl',b2,hl])
  repeat ((first|refine sR ?_|refine sC ?_|refine sX ?_);simp[hl',b2,hl])
  refine sT (sH Hb Ht ?_);simp[hne]
def stEqB(xs ys:List Bool)(nb:Nat)(box:Bxs)(tok:Tks)(nt:Nat)(i:Nat):AS :=
 ⟨tl [(0,.d (bools xs)),(1,.d (bools ys)),(12,I xs.length),(13,I i)],lb nb box [],tok,nt⟩
set_option maxRecDepth 100000 in
theorem equalB_c(xs ys:List Bool)(hx:xs.length<=1000000)(hy:ys.length<=1000000):DC 38 [.d (bools xs),.d (bools ys)] (B (decide (xs=ys))):=by
 intro tok nt box nb;refine sI func38 ntmps38 fun Hb Ht=>?_
 by_cases hl:xs.length=ys.length
 .have hl':(xs.length:Int)=ys.length:=by omega
  try (simp[hl'])
  repeat ((first|refine sR ?_|refine sC ?_|refine sX ?_);simp[hl'])
  refine sN ?_;refine sL (stEqB xs ys nb box tok nt) (fun i=>i<=xs.length/\xs.take i=ys.take i) (fun i=>xs.length-i) 0 ⟨Nat.zero_le _,by simp⟩ (wM (nr _) rfl (by simp[ToL,lk,hl]) trivial) ?_;rintro i S' ⟨hi,htk⟩ hS;simp only[stEqB] at hS;subst hS;have hw:=sW (i:=i) (by omega);by_cases hlt:i<xs.length
  .have hlt2:i<ys.length:=by omega
   have h1:xs.take (i+1)=xs.take i++[xs[i]]:=List.take_succ_eq_append_getElem hlt
   have h2:ys.take (i+1)=ys.take i++[ys[i]]:=List.take_succ_eq_append_getElem hlt2
   have h3:xs=ys->xs[i]=ys[i]:=fun e=>by subst e;rfl
   cases hx1:xs[i]<;>cases hy1:ys[i]<;>rw[hx1] at h1 h3<;>rw[hy1] at h2 h3
   case false.true =>
    have hne:¬xs=ys:=fun e=>by cases h3 e
    try (simp[hlt,hlt2,hx1,hy1])
    repeat ((first|refine sR ?_|refine sC ?_|refine sX ?_);simp[hlt,hlt2,hx1,hy1])
    refine sT (sH Hb Ht ?_);simp[hne]
   case true.false =>
    have hne:¬xs=ys:=fun e=>by cases h3 e
    try (simp[hlt,hlt2,hx1,hy1])
    repeat ((first|refine sR ?_|refine sC ?_|refine sX ?_);simp[hlt,hlt2,hx1,hy1])
    refine sT (sH Hb Ht ?_);simp[hne]
   all_goals
    try (simp[hlt,hlt2,hw,hx1,hy1])
    repeat ((first|refine sR ?_|refine sC ?_|refine sX ?_);simp[hlt,hlt2,hw,hx1,hy1])
    refine sE ?_;exact⟨i+1,⟨hlt,by rw[h1,h2,htk]⟩,by omega,wM (nr _) rfl (by simp[ToL,lk]) trivial⟩
  .have hxy:xs=ys:=by rw[List.take_of_length_le (by omega),List.take_of_length_le (by omega)] at htk;exact htk
   try (simp[hlt])
   repeat ((first|refine sR ?_|refine sC ?_|refine sX ?_);simp[hlt])
   refine sT (sH Hb Ht ?_);simp[hxy]
 .have hl':¬(xs.length:Int)=ys.length:=by omega
  have hne:¬xs=ys:=fun e=>hl (by rw[e])
  have b2:((xs.length:Int) != ys.length)=true:=by simp[hl']
  try (simp[hl',b2,hl])
  repeat ((first|refine sR ?_|refine sC ?_|refine sX ?_);simp[hl',b2,hl])
  refine sT (sH Hb Ht ?_);simp[hne]
structure Ar50 where
 ru:Int
 fr:Int
 to:Int
 m:Mo
 vs:List Int
abbrev Ar50.cells(a:Ar50):List D:=[.raw (.int .i64 a.ru),.raw (.int .i64 a.fr),.raw (.int .i64 a.to),ints a.m.nodes,ints a.m.edges,ints a.vs]
abbrev Ar50.pr(a:Ar50):Int × Int:=(a.fr,a.to)
abbrev arsD(A:List Ar50):D:=.sl 6 (A.map Ar50.cells)
abbrev Hs.cells(h:Hs):List D:=[ints h.g.nodes,AM.edges h.g.edges,lls h.vals]
abbrev hssD(H:List Hs):D:=.sl 3 (H.map Hs.cells)
abbrev spV(H:List Hs)(A:List Ar50):AV:=.agg [.d (hssD H),.d (arsD A)]
theorem TK.later{mtok:Nat->Bool}{nt0:Nat}{tok tok2:Nat->Bool}{nt nt2:Nat}{os os2:List Own}(h:TK mtok nt0 tok nt os)(k:TK (fun t=>tok t&&decide (t<nt)) nt tok2 nt2 os2):TK mtok nt0 tok2 nt2 os:=by
 have h1:=h.le;have h2:=k.le;refine⟨fun t ht=>k.old t ?_,h.lt,by omega,fun o ho t e=>?_,h.ne⟩
 .have:=h.lt t ht
  simp[h.old t ht];omega
 .obtain⟨g1,g2,g3⟩:=h.own o ho t e;exact⟨k.old t (by simp[g1,g3]),g2,by omega⟩
theorem TK.begin(tok:Tks)(nt:Nat):TK (fun t=>tok t&&decide (t<nt)) nt tok nt [.full]:=by
 refine⟨fun t ht=>?_,fun t ht=>?_,nr _,fun o ho t e=>?_,by simp⟩
 .simp at ht;exact ht.1
 .simp at ht;exact ht.2
 .simp at ho;subst ho;cases e
theorem TK.fulls{mtok:Nat->Bool}{nt0:Nat}{tok:Nat->Bool}{nt:Nat}{os:List Own}(h:TK mtok nt0 tok nt os):∀n,TK mtok nt0 tok nt (List.replicate n .full++os)
 | 0=>h
 | n+1=>by
  rw[List.replicate_succ,List.cons_append];exact(h.fulls n).full
def CutE{α:Type}(cx:Cx)(nt0:Nat)(T:α->AS)(inv:α->Prop)(S':AS):Prop:=∃a S1,inv a/\Weaks cx nt0 S' S1/\Trans cx nt0 S1 (T a)
theorem CutE.mk{α:Type}{cx:Cx}{nt0:Nat}{T:α->AS}{inv:α->Prop}{S':AS}(a:α)(S1:AS)(h1:inv a)(h2:Weaks cx nt0 S' S1)(h3:Trans cx nt0 S1 (T a)):CutE cx nt0 T inv S':=⟨a,S1,h1,h2,h3⟩
theorem AL.cutT{P:Program}{cx:Cx}{nt0:Nat}{K:Exit->AS->Prop}{l r:List CI}{S:AS}{y:Code}{α:Type}(T:α->AS)(inv:α->Prop)(h1:AL P cx nt0 (fun e S'=>match e with
   | .normal=>CutE cx nt0 T inv S'
   | e=>AU P cx nt0 K (.c y::r) e S') l S)(h2:∀a,inv a->AL P cx nt0 K (.c y::r) (T a)):AL P cx nt0 K (l++.c y::r) S:=by
 refine(AL.cut_aux ?_ ?_ l).1 S h1
 .rintro S ⟨a,S1,ha,hw,ht⟩;exact AL.weak hw (AL.trans ht (h2 a ha))
 .intro e S hne h;cases e with
  | normal=>exact absurd rfl hne
  | _=>exact h
theorem rowsTo_nils{p q:Nat->Prop}{fz:Option (Nat × Nat × List (List D))}(m n:Nat):RowsTo p q fz (List.replicate n [.osl 0 [] .full]) (opRows m n 0):=by
 rw[opRows_zero];refine rowsTo_same fun r hr x hx=>?_
 rw[(List.mem_replicate.1 hr).2] at hx;simp at hx;subst hx;exact .osl fun _ e=>by cases e
theorem opR_snd(m n:Nat):(opR m n).map (·.2)=List.replicate n []:=by
 apply List.ext_getElem<;>simp[opR]
theorem Trans.rfl'{cx:Cx}{nt0:Nat}{S:AS}:Trans cx nt0 S S:=fun G0 w0 G a w he hn hS hL=>⟨G,hS,hL⟩
structure GvH (t:Ty) (H:List Hs) (A:List Ar50) (f:Fo) (L:List Co):Prop where
 ft:t.Fit
 sm:f.Sm
 cos:Cos L
 va:VaF f L
 v0:validF f L=0
 ty:tyE t=0
 cn:∀c∈L,cnE t c=0
 kd:∀c∈L,c.kind=1
 hn:0<H.length
 hn2:H.length<=300
 an:A.length<=3000
 hg:∀h∈H,h.g.Fit/\h.vals.length<=1000000/\(hostR t (atsK t) h).2=0
 ar:∀a∈A,inR H.length a.fr/\inR H.length a.to
 vi:∀h∈H,∀c∈L,(vioS t c h.g fun _=>false).2=0
abbrev zMd:List AV:=[nilS,nilS,.d (.raw (.map none))]
def stGv1(t:Ty)(H:List Hs)(A:List Ar50)(f:Fo)(L:List Co)(nb:Nat)(box:Bxs)(tok:Tks)(nt:Nat)(i:Nat):AS :=
 ⟨tl [(50,.d (cosD L)),(51,I L.length),(52,I i),(3,.d (cosD L)),(4,.ptr (nb+4) 0 0),(5,.ptr (nb+5) 0 0),(6,.ptr (nb+6) 0 0),(8,.ptr (nb+8) 0 0)],
  lb nb box [(4,[[.d (nts t.nodes),.d (ets t.edges)]]),(5,[[.d (hssD H),.d (arsD A)]]),(6,[f.row]),(8,[zMd])],tok,nt⟩
def stGv2(t:Ty)(H:List Hs)(A:List Ar50)(f:Fo)(L:List Co)(nb:Nat)(box:Bxs)(tok:Tks)(nt:Nat)(i:Nat):AS :=
 ⟨tl [(80,.d (hssD H)),(81,I H.length),(82,I i),(16,I H.length),(3,.d (cosD L)),(4,.ptr (nb+4) 0 0),(5,.ptr (nb+5) 0 0),(6,.ptr (nb+6) 0 0),(8,.ptr (nb+8) 0 0)],
  lb nb box [(4,[[.d (nts t.nodes),.d (ets t.edges)]]),(5,[[.d (hssD H),.d (arsD A)]]),(6,[f.row]),(8,[zMd])],tok,nt⟩
structure GvA where
 i:Nat
 R:List (Nat × List Int)
 tok:Nat->Bool
 nt:Nat
abbrev gvM(nb n tm:Nat)(q:MpQ):List (List AV):=[[.msl (nb+98) 0 n 1,.msl (nb+100) 0 n 1,.mp tm (encQ q)]]
abbrev gvP(n:Nat):List (List Int × Own):=List.replicate n ([],.full)
def stGv3(t:Ty)(H:List Hs)(A:List Ar50)(f:Fo)(L:List Co)(n tm nb:Nat)(box:Bxs)(x:GvA):AS :=
 ⟨tl [(104,.d (arsD A)),(105,I A.length),(106,I x.i),(16,I n),(3,.d (cosD L)),(21,.ptr (nb+21) 0 0),(4,.ptr (nb+4) 0 0),(5,.ptr (nb+5) 0 0),(6,.ptr (nb+6) 0 0),(8,.ptr (nb+8) 0 0)],
  lb nb box [(98,rowsS x.R),(100,rowsW (gvP n)),(4,[[.d (nts t.nodes),.d (ets t.edges)]]),(5,[[.d (hssD H),.d (arsD A)]]),(6,[f.row]),(8,[zMd]),(21,gvM nb n tm [])],x.tok,x.nt⟩
theorem rowsS_mpU(t n:Nat)(es:List (ByteArray × List (List D) × Own))(R:List (Nat × List Int)):(rowsS R).map (fun r=>r.map (AV.mpU t n es))=rowsS R:=by
 simp[rowsS,AV.mpU]
theorem rowsW_mpU(t n:Nat)(es:List (ByteArray × List (List D) × Own))(P:List (List Int × Own)):(rowsW P).map (fun r=>r.map (AV.mpU t n es))=rowsW P:=by
 simp[rowsW,AV.mpU]
theorem rowsD_mpF(t:Nat)(es:List (List D)):(rowsD es).map (fun r=>r.map (AV.mpF t))=rowsD es:=by
 simp only[rowsD,List.map_map];refine List.map_congr_left fun e _=>?_
 simp only[Function.comp,List.map_map];refine List.map_congr_left fun x _=>?_
 rfl
structure GvB where
 i:Nat
 q:MpQ
 t:Nat
 tok:Nat->Bool
 nt:Nat
structure GvI (R:List (Nat × List Int)) (mtok:Tks) (nt0:Nat) (es:List (ByteArray × List Bool)) (M:Nat) (x:GvB):Prop where
 pl:plQ x.q=es
 le:∀e∈x.q,e.2.1.length<=M
 tk:TK mtok nt0 x.tok x.nt (.tok x.t::(ownQ x.q++ownR R))
def stGv4(t:Ty)(H:List Hs)(L:List Co)(F:List ByteArray)(n:Nat)(R:List (Nat × List Int))(nb:Nat)(box:Bxs)(x:GvB):AS :=
 ⟨tl [(160,.d (hssD H)),(161,I H.length),(162,I x.i),(24,.d (strs F)),(3,.d (cosD L)),(21,.ptr (nb+21) 0 0),(4,.ptr (nb+4) 0 0),(8,.ptr (nb+8) 0 0)],
  lb nb box [(98,rowsS R),(100,rowsW (gvP n)),(4,[[.d (nts t.nodes),.d (ets t.edges)]]),(8,[zMd]),(21,gvM nb n x.t x.q)],x.tok,x.nt⟩
def stGv5(t:Ty)(H:List Hs)(L:List Co)(F:List ByteArray)(n:Nat)(R:List (Nat × List Int))(h:Hs)(i:Nat)(nb:Nat)(box:Bxs)(x:GvB):AS :=
 ⟨tl [(166,.d (cosD L)),(167,I L.length),(168,I x.i),(26,.ptr (nb+26) 0 0),(160,.d (hssD H)),(161,I H.length),(162,I i),(24,.d (strs F)),(3,.d (cosD L)),(21,.ptr (nb+21) 0 0),(4,.ptr (nb+4) 0 0),(8,.ptr (nb+8) 0 0)],
  lb nb box [(98,rowsS R),(100,rowsW (gvP n)),(26,[[.d (ints h.g.nodes),.d (AM.edges h.g.edges),.d (lls h.vals)]]),(4,[[.d (nts t.nodes),.d (ets t.edges)]]),(8,[zMd]),(21,gvM nb n x.t x.q)],x.tok,x.nt⟩
structure GvC where
 i:Nat
 P:List (List Int × Own)
 tok:Nat->Bool
 nt:Nat
structure GvJ (R:List (Nat × List Int)) (q:MpQ) (tm:Nat) (mtok:Tks) (nt0:Nat) (x:GvC):Prop where
 pv:x.P.map (·.1)=pvP (nxR (R.map (·.2))) x.i
 le:∀e∈x.P,e.1.length<=x.i*300
 tk:TK mtok nt0 x.tok x.nt (ownR (R.drop x.i)++(ownW x.P++(.tok tm::ownQ q)))
def midL(A:List (List AV))(x:List AV)(B:List (List AV)):List (List AV):=A++x::B
theorem midL_len(A:List (List AV))(x:List AV)(B:List (List AV)):(midL A x B).length=A.length+1+B.length:=by simp[midL];omega
theorem midL_get{A:List (List AV)}{x:List AV}{B:List (List AV)}{i:Nat}(hA:A.length=i)(h:i<(midL A x B).length):(midL A x B)[i]=x:=by
 subst hA;simp[midL]
theorem midL_set{A:List (List AV)}{x z:List AV}{B:List (List AV)}{i:Nat}(hA:A.length=i):(midL A x B).set i z=midL A z B:=by
 subst hA;simp[midL]
def rowsA(R:List (Nat × List Int))(i:Nat):List (List AV):=rowsD (((nxR (R.map (·.2))).take i).map fun r=>[ints r])
def rowsX(R:List (Nat × List Int))(i:Nat):List (List AV):=rowsA R i++rowsS (R.drop i)
theorem rowsX_zero(R:List (Nat × List Int)):rowsX R 0=rowsS R:=by simp[rowsX,rowsA,rowsD]
theorem rowsX_mid{R:List (Nat × List Int)}{i:Nat}(h:i<R.length):rowsX R i=midL (rowsA R i) [.stk R[i].1 1 (rI R[i].2)] (rowsS (R.drop (i+1)))/\(rowsA R i).length=i/\rowsX R (i+1)=midL (rowsA R i) [.d (ints (nx1 i R[i].2))] (rowsS (R.drop (i+1))):=by
 have hl:i<(nxR (R.map (·.2))).length:=by simpa using h
 refine⟨?_,?_,?_⟩
 .unfold rowsX midL;rw[List.drop_eq_getElem_cons h];simp only[rowsS,List.map_cons]
 .simp[rowsA];omega
 .have hg:(nxR (R.map (·.2)))[i]=nx1 i R[i].2:=by rw[nxR_at (by simpa using h)];simp
  unfold rowsX midL rowsA;rw[List.take_succ_eq_append_getElem hl,hg];simp[rowsD]
def stGv6(n tm:Nat)(q:MpQ)(R:List (Nat × List Int))(nb:Nat)(box:Bxs)(x:GvC):AS :=
 ⟨tl [(207,I n),(208,I x.i),(21,.ptr (nb+21) 0 0),(8,.ptr (nb+8) 0 0)],lb nb box [(98,rowsX R x.i),(100,rowsW x.P),(8,[zMd]),(21,gvM nb n tm q)],x.tok,x.nt⟩
theorem rowsTo_app{p q:Nat->Prop}{fz:Option (Nat × Nat × List (List D))}:∀{a a' b b':List (List AV)},RowsTo p q fz a a'->RowsTo p q fz b b'->RowsTo p q fz (a++b) (a'++b')
 | [],[],_,_,_,h=>h
 | x::a,y::a',_,_,h,k=>by
  rw[rowsTo_cons] at h;rw[List.cons_append,List.cons_append,rowsTo_cons];exact⟨h.1,rowsTo_app h.2 k⟩
 | [],_::_,_,_,h,_=>by have:=h.1;simp at this
 | _::_,[],_,_,h,_=>by have:=h.1;simp at this
theorem midX_to{p:Nat->Prop}{fz:Option (Nat × Nat × List (List D))}{R:List (Nat × List Int)}{i j:Nat}{x y:AV}(h:To p (fun _=>True) fz x y):RowsTo p (fun _=>True) fz (midL (rowsA R i) [x] (rowsS (R.drop j))) (midL (rowsA R i) [y] (rowsS (R.drop j))):=by
 unfold midL;refine rowsTo_app (rowsTo_D _) (rowsTo_cons.2 ⟨rowTo_cons.2 ⟨h,rowTo_nil⟩,rowsS_to _⟩)
theorem rowsIX_to{p:Nat->Prop}{q:Nat->Prop}{fz:Option (Nat × Nat × List (List D))}(xs:List Int)(m:Nat):RowsTo p q fz (rowsI xs++List.replicate m (List.replicate 1 .bot)) (rowsI xs++List.replicate m (List.replicate 1 .bot)) :=
 rowsTo_app (rowsTo_I _) (rowsTo_same fun r hr x hx=>by rw[(List.mem_replicate.1 hr).2] at hx;simp at hx;subst hx;exact .bot)
theorem cvRs_cons{Rl:AV->AV->Prop}{x y:List AV}{a b:List (List AV)}(h:CvR Rl x y)(k:CvRs Rl a b):CvRs Rl (x::a) (y::b):=⟨by simp[k.1],fun i h1 h2=>by
 cases i with
 | zero=>exact h
 | succ i=>exact k.2 i (by simpa using h1) (by simpa using h2)⟩
theorem cvRs_ok{Rl:AV->AV->Prop}{a:List (List AV)}(h:∀r∈a,∀z∈r,Rl z z):CvRs Rl a a:=⟨rfl,fun i h1 _=>⟨rfl,fun j g1 _=>h _ (List.getElem_mem h1) _ (List.getElem_mem g1)⟩⟩
theorem cvRs_mid{Rl:AV->AV->Prop}{x y:AV}(h:Rl x y){B:List (List AV)}(hB:∀r∈B,∀z∈r,Rl z z):∀A:List (List AV),(∀r∈A,∀z∈r,Rl z z)->CvRs Rl (midL A [x] B) (midL A [y] B)
 | [],_=>cvRs_cons (cvR_cons h cvR_nil) (cvRs_ok hB)
 | a::A,hA=>cvRs_cons ⟨rfl,fun j g1 _=>hA a (by simp) _ (List.getElem_mem g1)⟩ (cvRs_mid h hB A fun r hr=>hA r (by simp[hr]))
theorem nx1_nil(i:Nat):nx1 i []=[(i:Int)]:=by simp[nx1,nx0,sortI]
structure GvD where
 o:Option (List (List AV))
 tok:Nat->Bool
def stGvT(n i tm:Nat)(q:MpQ)(P:List (List Int × Own))(A B:List (List AV))(r:List Int)(nt6 nb:Nat)(box:Bxs)(d:GvD):AS:=match d.o with
 | none=>⟨tl [(31,I i),(207,I n),(208,I i),(21,.ptr (nb+21) 0 0),(8,.ptr (nb+8) 0 0)],lb nb box [(98,midL A [.osl 1 (rI [(i:Int)]) .full] B),(100,rowsW P),(8,[zMd]),(21,gvM nb n tm q)],d.tok,nt6⟩
 | some Rr=>⟨tl [(31,I i),(207,I n),(208,I i),(21,.ptr (nb+21) 0 0),(8,.ptr (nb+8) 0 0)],lb nb box [(222,rowsI r++Rr),(98,midL A [.msl (nb+222) 0 r.length 1] B),(100,rowsW P),(8,[zMd]),(21,gvM nb n tm q)],d.tok,nt6⟩
structure GvDI (R:List (Nat × List Int)) (q:MpQ) (P:List (List Int × Own)) (r:List Int) (i tm:Nat) (mtok:Tks) (nt0 nt6:Nat) (d:GvD):Prop where
 no:d.o=none->r=[]
 so:d.o≠none->r≠[]
 to:∀Rr,d.o=some Rr->∀xs p q fz,RowsTo p q fz (rowsI xs++Rr) (rowsI xs++Rr)
 tk:TK mtok nt0 d.tok nt6 (ownR (R.drop (i+1))++(ownW P++(.tok tm::ownQ q)))
def stGvT2(n i tm:Nat)(q:MpQ)(P:List (List Int × Own))(A B:List (List AV))(r:List Int)(nt6 nb:Nat)(box:Bxs)(tok2:Nat->Bool):AS :=
 ⟨tl [(31,I i),(207,I n),(208,I i),(21,.ptr (nb+21) 0 0),(8,.ptr (nb+8) 0 0),(228,.bot)],lb nb box [(98,midL A [.d (ints r)] B),(100,rowsW P),(8,[zMd]),(21,gvM nb n tm q)],tok2,nt6⟩
structure GvK (P0:List (List Int)) (i:Nat) (r:List Int) (os:List Own) (mtok:Tks) (nt0:Nat) (y:GvC):Prop where
 pv:y.P.map (·.1)=pvJ i r P0 y.i
 le:∀e∈y.P,e.1.length<=i*300+y.i
 tk:TK mtok nt0 y.tok y.nt (ownW y.P++os)
def stGv7(n i tm:Nat)(q:MpQ)(A B:List (List AV))(r:List Int)(nb:Nat)(box:Bxs)(y:GvC):AS :=
 ⟨tl [(234,.d (ints r)),(235,I r.length),(236,I y.i),(31,I i),(207,I n),(208,I i),(21,.ptr (nb+21) 0 0),(8,.ptr (nb+8) 0 0)],lb nb box [(98,midL A [.d (ints r)] B),(100,rowsW y.P),(8,[zMd]),(21,gvM nb n tm q)],y.tok,y.nt⟩
def GvTk(R:List (Nat × List Int))(q:MpQ)(P:List (List Int × Own))(i tm:Nat)(mtok:Tks)(nt0 nt6:Nat)(tok2:Nat->Bool):Prop:=TK mtok nt0 tok2 nt6 (ownR (R.drop (i+1))++(ownW P++(.tok tm::ownQ q)))
set_option maxRecDepth 100000 in
set_option maxHeartbeats 2000000 in
theorem given50_c(t:Ty)(H:List Hs)(A:List Ar50)(f:Fo)(L:List Co)(h:GvH t H A f L):DC 90 [t.av,spV H A,f.av,.d (cosD L)] (.tup [(mdlR t H (A.map Ar50.pr) f L).av,I 0]):=by
 intro tok nt box nb;have hsz:f.size<=1000000:=by have:=h.va.size;omega
 have hval:=validT_c f L hsz h.sm h.cos;rw[h.v0] at hval;have hty:=valid_c4 t h.ft h.ft.hM;rw[h.ty] at hty;have hcn:∀c∈L,∀tok nt,DCall prog 17 [t.av,c.av] tok nt (I 0) tok nt:=fun c hc tok nt=>by
  have:=validK_c t h.ft c (h.cos.fit c hc) tok nt
  rw[h.cn c hc] at this;exact this
 have hho:∀x∈H,∀tok nt,DCall prog 154 [t.av,x.av] tok nt (.tup [I (hostR t (atsK t) x).1,I 0]) tok nt:=fun x hx tok nt=>by
  obtain⟨g1,g2,g3⟩:=h.hg x hx;have:=hostV_c t h.ft x g1 g2 tok nt
  rw[g3] at this;exact this
 have hvi:∀x∈H,∀c∈L,∀tok nt,DCall prog 47 [t.av,c.av,x.g.av] tok nt (.tup [.d (.sl 2 (mosR (vioS t c x.g fun _=>false).1)),I 0]) tok nt:=fun x hx c hc tok nt=>by
  have:=violationsK_c t h.ft c (h.cos.fit c hc) x.g (h.hg x hx).1 (fun _=>false) (fun e=>absurd (h.kd c hc) e) tok nt
  rw[h.vi x hx c hc] at this;exact this
 have hLn:=h.cos.n;have hn0:=h.hn;have hn2:=h.hn2;have han:=h.an;have har:=h.ar;obtain⟨Res,hRes⟩:∃Res,mdlR t H (A.map Ar50.pr) f L=Res:=⟨_,rfl⟩
 rw[hRes];refine sI func90 ntmps90 fun Hb Ht=>?_
 repeat first|simp|refine sR ?_
 refine sD (hval _ _) ?_;simp;try (simp)
 repeat ((first|refine sR ?_|refine sC ?_|refine sX ?_);simp)
 refine sD (hty _ _) ?_;simp;try (simp)
 repeat ((first|refine sR ?_|refine sC ?_|refine sX ?_);simp)
 refine sN ?_;refine sL (stGv1 t H A f L nb box tok nt) (fun i=>i<=L.length) (fun i=>L.length-i) 0 (Nat.zero_le _) wkA ?_;rintro i S hi hS;simp only[stGv1] at hS;subst hS;have hw:=sW (i:=i) (by omega);repeat first|simp|refine sR ?_|refine sC ?_
 refine⟨fun hlt=>?_,fun hge=>?_⟩
 .have hc:=hcn _ (List.getElem_mem hlt);repeat first|simp[hlt]|refine sR ?_
  generalize L[i]=x at *;refine sD (hc _ _) ?_;simp;try (simp[hw])
  repeat ((first|refine sR ?_|refine sC ?_|refine sX ?_);simp[hw])
  refine sE ?_;exact⟨i+1,hlt,by omega,wkA⟩
 .refine sX ?_;simp only[AU,↓reduceIte];clear hw;have b0:¬(H.length:Int)=0:=by omega
  have b1:((H.length:Int)==0)=false:=by simpa using b0
  have b2:decide ((300:Int)<(H.length:Int))=false:=by simp;omega
  have b3:decide ((3000:Int)<(A.length:Int))=false:=by simp;omega
  try (simp[b1,b2,b3])
  repeat ((first|refine sR ?_|refine sC ?_|refine sX ?_);simp[b1,b2,b3])
  refine sN ?_;refine sL (stGv2 t H A f L nb box tok nt) (fun i=>i<=H.length) (fun i=>H.length-i) 0 (Nat.zero_le _) wkA ?_;rintro i S hi hS;simp only[stGv2] at hS;subst hS;have hw:=sW (i:=i) (by omega);repeat first|simp|refine sR ?_|refine sC ?_
  refine⟨fun hlt=>?_,fun hge=>?_⟩
  .have hc:=hho _ (List.getElem_mem hlt);repeat first|simp[hlt]|refine sR ?_
   generalize H[i]=x at *;refine sD (hc _ _) ?_;simp;try (simp[hw])
   repeat ((first|refine sR ?_|refine sC ?_|refine sX ?_);simp[hw])
   refine sE ?_;exact⟨i+1,hlt,by omega,wkA⟩
  .refine sX ?_;simp only[AU,↓reduceIte];clear hw;repeat first|simp|refine sR ?_
   try refine⟨by omega,?_⟩
   try simp
   refine AL.weak (wM (l':=[(16,I H.length),(3,.d (cosD L)),(21,.ptr (nb+21) 0 0),(4,.ptr (nb+4) 0 0),(5,.ptr (nb+5) 0 0),(6,.ptr (nb+6) 0 0),(8,.ptr (nb+8) 0 0)])
    (loc':=[(98,opRows (nt+1) H.length 0),(100,rowsW (gvP H.length)),(4,[[.d (nts t.nodes),.d (ets t.edges)]]),(5,[[.d (hssD H),.d (arsD A)]]),(6,[f.row]),(8,[zMd]),(21,gvM nb H.length nt [])]) (Nat.le_succ _) rfl (by simp[ToL,lk]) (by simp[BoxL,lk];exact⟨rowsTo_nils _ _,rowsW_nil _⟩)) ?_
   refine AL.trans (Trans.opnRows 98 H.length H.length) ?_;rw[opRows_all];have htk0:TK tok nt (upd tok nt true) (nt+1) [.tok nt]:=((TK.start Ht).full.app:TK _ _ _ _ _)
   have htk1:=htk0.opTok H.length;have hR0:(opR (nt+1) H.length).map (·.2)=arP H.length (A.map Ar50.pr) 0:=by rw[opR_snd,arP_zero]
   have hnt1:nt<=nt+1+H.length:=by omega
   generalize opR (nt+1) H.length=R0 at *;generalize opTok (upd tok nt true) (nt+1) H.length=tok1 at *;generalize nt+1+H.length=nt1 at *;repeat first|simp|refine sR ?_
   refine sN ?_;refine sL (stGv3 t H A f L H.length nt nb box) (fun x=>x.i<=A.length/\x.R.map (·.2)=arP H.length (A.map Ar50.pr) x.i/\TK tok nt x.tok x.nt (ownR x.R++[.tok nt])) (fun x=>A.length-x.i) ⟨0,R0,tok1,nt1⟩ ⟨Nat.zero_le _,hR0,htk1⟩ (wM hnt1 rfl (by simp[ToL,lk]) (by simp[BoxL,lk];exact⟨rowsS_to _,rowsW_to _⟩)) ?_;rintro⟨i,R,tok3,nt3⟩ S ⟨hi,hR,htk⟩ hS;simp only[stGv3] at hS hi hR htk;subst hS;have hw:=sW (i:=i) (by omega);have harm:∀a∈A.map Ar50.pr,inR H.length a.1/\inR H.length a.2:=fun a ha=>by obtain⟨x,hx,rfl⟩:=List.mem_map.1 ha;exact har x hx
   have hok:=arP_ok harm i (by simpa using hi);have hRl:R.length=H.length:=by have:=congrArg List.length hR;rw[hok.len] at this;simpa using this
   repeat first|simp|refine sR ?_|refine sC ?_
   refine⟨fun hlt=>?_,fun hge=>?_⟩
   .obtain⟨⟨f1,f2⟩,f3,f4⟩:=har _ (List.getElem_mem hlt);have hsucc:=arP_succ (n:=H.length) (A:=A.map Ar50.pr) (i:=i) (by simpa using hlt);have hpr:(A.map Ar50.pr)[i]'(by simpa using hlt)=A[i].pr:=by simp
    rw[hpr] at hsucc;repeat first|simp[hlt]|refine sR ?_
    generalize A[i]=x at *;have g1:¬x.fr<0:=by omega
    have g2:¬(H.length:Int)<=x.fr:=by omega
    have g3:¬x.to<0:=by omega
    have g4:¬(H.length:Int)<=x.to:=by omega
    have fk:x.fr.toNat<R.length:=by omega
    have fk2:x.fr.toNat<H.length:=by omega
    have hRk:(arP H.length (A.map Ar50.pr) i).getD x.fr.toNat []=R[x.fr.toNat].2:=by rw[<-hR];simp[fk]
    have hRn:R[x.fr.toNat].2.length<=300:=by
     have:=hok.le ((arP H.length (A.map Ar50.pr) i).getD x.fr.toNat []) (by
      have hl:x.fr.toNat<(arP H.length (A.map Ar50.pr) i).length:=by rw[hok.len];exact fk2
      rw[List.getD_eq_getElem?_getD,List.getElem?_eq_getElem hl,Option.getD_some];exact List.getElem_mem _)
     rw[hRk] at this;omega
    have hrg:∀h,(rowsS R)[x.fr.toNat]'h=[AV.stk R[x.fr.toNat].1 1 (rI R[x.fr.toNat].2)]:=fun h=>by simp[rowsS]
    obtain⟨hlv,hap⟩:=htk.rowApp fk (R[x.fr.toNat].2++[x.to]);unfold arS at hsucc;simp only[Ar50.pr] at hsucc;rw[hRk] at hsucc;try (simp[g1,g2,g3,g4,fk,fk2,f1,f2,hrg])
    repeat ((first|refine sR ?_|refine sC ?_|refine sX ?_);simp[g1,g2,g3,g4,fk,fk2,f1,f2,hrg])
    have hct:=fun tok=>contains_c R[x.fr.toNat].2 x.to (by omega) tok nt3
    refine Stop.of_r (RCall.lends rfl hct ⟨.stk hlv,.same (by simp),trivial⟩) ?_;cases ed:decide (x.to∈R[x.fr.toNat].2)
    .rw[ed] at hsucc;simp only[Bool.false_eq_true,↓reduceIte] at hsucc;try (simp[g1,g2,g3,g4,fk,fk2,f1,f2,hrg])
     repeat ((first|refine sR ?_|refine sC ?_|refine sX ?_);simp[g1,g2,g3,g4,fk,fk2,f1,f2,hrg])
     refine⟨⟨by omega,hlv⟩,?_⟩;have hset:=rowsS_set R x.fr.toNat nt3 (R[x.fr.toNat].2++[x.to]);rw[<-rI_snoc] at hset;try (simp[hset,hw])
     repeat ((first|refine sR ?_|refine sC ?_|refine sX ?_);simp[hset,hw])
     refine sE ?_;exact⟨⟨i+1,R.set x.fr.toNat (nt3,R[x.fr.toNat].2++[x.to]),_,nt3+1⟩,⟨hlt,by simp only;rw[hsucc,<-hR,List.map_set],hap⟩,by simp only;omega,wM hap.le rfl (by simp[ToL,lk]) (by simp[BoxL,lk];exact⟨rowsS_to _,rowsW_to _⟩)⟩
    .rw[ed] at hsucc;simp only[↓reduceIte] at hsucc;try (simp[hw])
     repeat ((first|refine sR ?_|refine sC ?_|refine sX ?_);simp[hw])
     refine sE ?_;exact⟨⟨i+1,R,tok3,nt3⟩,⟨hlt,by simp only;rw[hsucc];exact hR,htk⟩,by simp only;omega,wM htk.le rfl (by simp[ToL,lk]) (by simp[BoxL,lk];exact⟨rowsS_to _,rowsW_to _⟩)⟩
   .refine sX ?_;simp only[AU,↓reduceIte];have:i=A.length:=by omega
    subst this;clear hw;have hrg:R.map (·.2)=arP H.length (A.map Ar50.pr) (A.map Ar50.pr).length:=by rw[hR,List.length_map]
    have hat:=atomsT_c (fun t=>tok3 t&&decide (t<nt3)) nt3 _ f (Nat.lt_succ_self _) hsz [] .full 0 tok3 nt3 (TK.begin tok3 nt3) (.inr ⟨rfl,rfl⟩) (by simp;omega);rw[List.nil_append] at hat;obtain⟨F,hF⟩:∃F,f.ats=F:=⟨_,rfl⟩
    have hFl:F.length<=1000000:=by rw[<-hF];have:=f.ats_len _ (Nat.lt_succ_self _);omega
    rw[hF] at hat;repeat first|simp|refine sR ?_
    refine Stop.of_a (hat _ _) ?_;rintro v m' ⟨sz,own,tok4,nt4,rfl,rfl,htk4,hle4,hsz4⟩;have hto:∀p q fz,To p q fz (.osl sz (rSt F) own) (.d (strs F)):=fun p q fz=>by
     rcases hsz4 with h|⟨h,_⟩
     .subst h;exact .data
     .subst h;exact .odsub .emp
    have htk5:TK tok nt tok4 nt4 (.tok nt::(ownQ []++ownR R)):=(htk.later htk4).perm List.perm_append_comm
    clear htk htk4 hat hle4 hsz4;repeat first|simp|refine sR ?_
    refine sN ?_;refine sL (stGv4 t H L F H.length R nb box) (fun x=>x.i<=H.length/\GvI R tok nt ((H.take x.i).foldl (atmH (memS F) (bitS t) L) []) (x.i*20) x) (fun x=>H.length-x.i) ⟨0,[],nt,tok4,nt4⟩ ⟨Nat.zero_le _,⟨by simp,by simp,htk5⟩⟩ (wM htk5.le rfl (by simp[ToL,lk];exact hto _ _ _) (by simp[BoxL,lk];exact⟨rowsS_to _,rowsW_to _⟩)) ?_;clear htk5 hto;rintro⟨i,q,tm,tok5,nt5⟩ S ⟨hi,hI⟩ hS;simp only[stGv4] at hS hi hI;subst hS;have hw:=sW (i:=i) (by omega);repeat first|simp|refine sR ?_|refine sC ?_
    refine⟨fun hlt=>?_,fun hge=>?_⟩
    .have hvh:=hvi _ (List.getElem_mem hlt);have hsucc:(H.take (i+1)).foldl (atmH (memS F) (bitS t) L) []=L.foldl (atmS (memS F) (bitS t H[i])) ((H.take i).foldl (atmH (memS F) (bitS t) L) []):=by
      rw[List.take_succ_eq_append_getElem hlt,List.foldl_append];rfl
     have hI0:GvI R tok nt ((L.take 0).foldl (atmS (memS F) (bitS t H[i])) ((H.take i).foldl (atmH (memS F) (bitS t) L) [])) (i*20+0) ⟨0,q,tm,tok5,nt5⟩:=⟨hI.pl,hI.le,hI.tk⟩
     have hle0:=hI.tk.le;clear hI;generalize (H.take i).foldl (atmH (memS F) (bitS t) L) []=es0 at *;repeat first|simp[hlt]|refine sR ?_
     generalize H[i]=hh at *;repeat first|simp|refine sR ?_
     refine sN ?_;refine sL (stGv5 t H L F H.length R hh i nb box) (fun x=>x.i<=L.length/\GvI R tok nt ((L.take x.i).foldl (atmS (memS F) (bitS t hh)) es0) (i*20+x.i) x) (fun x=>L.length-x.i) ⟨0,q,tm,tok5,nt5⟩ ⟨Nat.zero_le _,hI0⟩ (wM hle0 rfl (by simp[ToL,lk]) (by simp[BoxL,lk];exact⟨rowsS_to _,rowsW_to _⟩)) ?_;clear hI0 hle0;rintro⟨j,q,tm,tok5,nt5⟩ S ⟨hj,hI⟩ hS;simp only[stGv5] at hS hj hI;subst hS;have hw2:=sW (i:=j) (by omega);repeat first|simp|refine sR ?_|refine sC ?_
     refine⟨fun hlt2=>?_,fun hge2=>?_⟩
     .have hvc:=hvh _ (List.getElem_mem hlt2);have hstep:(L.take (j+1)).foldl (atmS (memS F) (bitS t hh)) es0=atmS (memS F) (bitS t hh) ((L.take j).foldl (atmS (memS F) (bitS t hh)) es0) L[j]:=by
       rw[List.take_succ_eq_append_getElem hlt2,List.foldl_append];rfl
      generalize hes2:(L.take (j+1)).foldl (atmS (memS F) (bitS t hh)) es0=es2 at *;generalize (L.take j).foldl (atmS (memS F) (bitS t hh)) es0=es1 at *;repeat first|simp[hlt2]|refine sR ?_
      generalize L[j]=c at *;refine sD (containsS_c F c.name hFl _ _) ?_;simp;unfold atmS at hstep;have hle1:=hI.tk.le;cases eu:memS F c.name
      .rw[eu] at hstep;simp only[Bool.false_eq_true,↓reduceIte] at hstep;try (simp[hw2])
       repeat ((first|refine sR ?_|refine sC ?_|refine sX ?_);simp[hw2])
       refine sE ?_;exact⟨⟨j+1,q,tm,tok5,nt5⟩,⟨hlt2,by simp only;rw[hes2,hstep];exact⟨hI.pl,fun e he=>by have:=hI.le e he;omega,hI.tk⟩⟩,by simp only;omega,wM hle1 rfl (by simp[ToL,lk]) (by simp[BoxL,lk];exact⟨rowsS_to _,rowsW_to _⟩)⟩
      .rw[eu] at hstep;simp only[↓reduceIte] at hstep;try (simp)
       repeat ((first|refine sR ?_|refine sC ?_|refine sX ?_);simp)
       refine sD (hvc _ _) ?_;simp;unfold bitS at hstep;generalize (vioS t c hh.g fun _=>false).1=V at *;obtain⟨b,hb⟩:∃b,((V.length:Int)==0)=b:=⟨_,rfl⟩
       have hb2:decide (V.length=0)=b:=by rw[<-hb,Bool.eq_iff_iff];simp
       rw[hb2] at hstep;obtain⟨sz,xs,own,hget,hsz2,hlv,hxs,hput⟩:=mp_step c.name (hI.tk.perm List.perm_middle.symm);obtain⟨hpq,hpt⟩:=hput b;have hxl:xs.length<=i*20+j:=by
        rcases hxs with h|⟨e,he,h⟩
        .rw[h];exact Nat.zero_le _
        .rw[<-h];exact hI.le e he
       have hpt2:TK tok nt (upd (upd (upd (own.kill tok5) nt5 true) tm false) (nt5+1) true) (nt5+1+1) (.tok (nt5+1)::(ownQ (putQ q c.name b nt5)++ownR R)):=(hpt.perm List.perm_middle).app
       have hpl:plQ (putQ q c.name b nt5)=es2:=by rw[putQ_pl,hI.pl,hstep]
       have hple:=putQ_len (s:=c.name) (b:=b) (t:=nt5) hI.le;have hmt:mapT prog 178=true:=by kernel_rfl
       have htt:tok5 tm=true:=hI.tk.live
       refine sR ?_;simp;refine sC ?_;simp;refine sN ?_;refine AL.splitLG (by rfl) (by rfl) follows_Tryz (nr _) (by kernel_rfl) ?_;simp[hget,hmt,hb];refine⟨htt,⟨hsz2,by omega,hlv⟩,?_⟩;refine LastK.put tm (encQ q) c.name (rBo xs++[[D.raw (.bool b)]]) (.tok nt5) rfl rfl hmt (hpt.own (.tok tm) (by simp) tm rfl).1 (by simp) (by simp) (by simp) ?_;rw[hpq];simp[rowsS_mpU,rowsW_mpU];try (simp[hw2])
       repeat ((first|refine sR ?_|refine sC ?_|refine sX ?_);simp[hw2])
       refine sE ?_;exact⟨⟨j+1,putQ q c.name b nt5,nt5+1,_,nt5+1+1⟩,⟨hlt2,by simp only;rw[hes2];exact⟨hpl,fun e he=>by have:=hple e he;omega,hpt2⟩⟩,by simp only;omega,wM hpt2.le rfl (by simp[ToL,lk]) (by simp[BoxL,lk];exact⟨rowsS_to _,rowsW_to _⟩)⟩
     .refine sX ?_;simp only[AU,↓reduceIte];have:j=L.length:=by omega
      subst this;rw[List.take_length,<-hsucc] at hI;have hle1:=hI.tk.le;have hnL:=h.va.nL;try (simp[hw])
      repeat ((first|refine sR ?_|refine sC ?_|refine sX ?_);simp[hw])
      refine sE ?_;exact⟨⟨i+1,q,tm,tok5,nt5⟩,⟨hlt,⟨hI.pl,fun e he=>by have:=hI.le e he;simp only at this ⊢;omega,hI.tk⟩⟩,by simp only;omega,wM hle1 rfl (by simp[ToL,lk]) (by simp[BoxL,lk];exact⟨rowsS_to _,rowsW_to _⟩)⟩
    .refine sX ?_;simp only[AU,↓reduceIte];have:i=H.length:=by omega
     subst this;rw[List.take_length] at hI;clear hw;have hNok:=arP_ok harm (A.map Ar50.pr).length (nr _);rw[<-hrg] at hNok;obtain⟨hXok,hXne⟩:=nxR_ok hNok;have hpl:=hI.pl;simp only at hpl;have hres:Res=⟨nxR (R.map (·.2)),pvP (nxR (R.map (·.2))) H.length,plQ q⟩:=by
      rw[<-hRes,hpl,hrg];unfold mdlR usedF;rw[hF];rfl
     have htk6:TK tok nt tok5 nt5 (ownR (R.drop 0)++(ownW (gvP H.length)++(.tok tm::ownQ q))):=by
      have h0:TK tok nt tok5 nt5 ((.tok tm::ownQ q)++ownR R):=hI.tk
      have h1:=(h0.perm List.perm_append_comm).fulls H.length;have h2:=h1.perm (List.perm_append_comm_assoc _ _ _);have e:ownW (gvP H.length)=List.replicate H.length .full:=by simp
      rw[e,List.drop_zero];exact h2
     have hP0:(gvP H.length).map (·.1)=pvP (nxR (R.map (·.2))) 0:=by simp[pvP,hRl]
     have hL0:∀e∈gvP H.length,e.1.length<=0*300:=by
      intro e he;rw[(List.mem_replicate.1 he).2];simp
     clear hI hpl hRes hval hty hcn hho hvi hF hFl hR hrg;repeat first|simp|refine sR ?_
     refine sN ?_;refine sL (stGv6 H.length tm q R nb box) (fun x=>x.i<=H.length/\GvJ R q tm tok nt x) (fun x=>H.length-x.i) ⟨0,gvP H.length,tok5,nt5⟩ ⟨Nat.zero_le _,⟨hP0,hL0,htk6⟩⟩ (wM htk6.le rfl (by simp[ToL,lk]) (by simp[BoxL,lk,rowsX_zero];exact⟨rowsS_to _,rowsW_to _⟩)) ?_;clear htk6 hP0 hL0;rintro⟨i,P,tok6,nt6⟩ S ⟨hi,hJ⟩ hS;simp only[stGv6] at hS hi;subst hS;have hw:=sW (i:=i) (by omega);obtain⟨hJp,hJl,hJt⟩:=hJ;simp only at hJp hJl hJt;have hle6:=hJt.le;repeat first|simp|refine sR ?_|refine sC ?_
     refine⟨fun hlt=>?_,fun hge=>?_⟩
     .have hiR:i<R.length:=by omega
      obtain⟨hX,hAl,hX1⟩:=rowsX_mid hiR;have hml:=fun y=>midL_len (rowsA R i) y (rowsS (R.drop (i+1)))
      have hBl:(rowsS (R.drop (i+1))).length=H.length-(i+1):=by simp[hRl]
      have hml:∀y,(midL (rowsA R i) y (rowsS (R.drop (i+1)))).length=H.length:=fun y=>by rw[midL_len,hAl,hBl];omega
      have hmg:∀y h,(midL (rowsA R i) y (rowsS (R.drop (i+1))))[i]'h=y:=fun y h=>midL_get hAl h
      have hms:∀y z,(midL (rowsA R i) y (rowsS (R.drop (i+1)))).set i z=midL (rowsA R i) z (rowsS (R.drop (i+1))):=fun y z=>midL_set hAl
      have hdr:R.drop i=R[i]::R.drop (i+1):=List.drop_eq_getElem_cons hiR
      rw[hdr] at hJt;have hri:R[i].2∈R.map (·.2):=List.mem_map.2 ⟨_,List.getElem_mem hiR,rfl⟩
      have hrn:=hNok.nod _ hri;have hrr:=hNok.rng _ hri;have hrl:=hNok.le _ hri;rw[hX];have hrv:nx1 i R[i].2=(nxR (R.map (·.2))).getD i []:=by simp[nxR,hiR]
      generalize R[i]=r at *;obtain⟨tr,r⟩:=r;simp only at hX1 hrv hrn hrr hrl hJt;have htr:tok6 tr=true:=(hJt.own (.tok tr) (by simp) tr rfl).1
      repeat first|simp[hlt,hml,hmg]|refine sR ?_
      refine AL.midT (stGvT H.length i tm q P (rowsA R i) (rowsS (R.drop (i+1))) r nt6 nb box) (GvDI R q P r i tm tok nt nt6) ?_ ?_
      .by_cases hr:r=[]
       .subst hr;have ht2:=hJt.tail;refine sC ?_;simp;repeat first|simp[hlt,hml,hmg,hms]|refine sR ?_
        refine sE ?_;exact⟨⟨none,tok6⟩,⟨fun _=>rfl,fun h=>absurd rfl h,fun _ h=>by simp at h,ht2⟩,wM hle6 rfl (by simp[ToL,lk]) (by simp[BoxL,lk];exact⟨midX_to (.same (.osl fun _ e=>by cases e)),rowsW_to _⟩)⟩
       .have hne:rI r≠[]:=by simpa using hr
        have b:((r.length:Int)==0)=false:=by simpa using hr
        refine AL.weak (wM (l':=[(217,.d (.raw (.bool false))),(215,.stk tr 1 (rI r)),(31,I i),(207,I H.length),(208,I i),(21,.ptr (nb+21) 0 0),(8,.ptr (nb+8) 0 0)])
         (loc':=[(98,midL (rowsA R i) [.stk tr 1 (rI r)] (rowsS (R.drop (i+1)))),(100,rowsW P),(8,[zMd]),(21,gvM nb H.length tm q)]) hle6 rfl (by simp[ToL,lk,b]) (by simp[BoxL,lk];exact⟨midX_to (.same (.stk trivial)),rowsW_to _⟩)) ?_
        refine AL.thawS (l':=[(217,.d (.raw (.bool false))),(215,.msl (nb+222) 0 r.length 1),(31,I i),(207,I H.length),(208,I i),(21,.ptr (nb+21) 0 0),(8,.ptr (nb+8) 0 0)])
         (loc':=[(98,midL (rowsA R i) [.msl (nb+222) 0 r.length 1] (rowsS (R.drop (i+1)))),(100,rowsW P),(8,[zMd]),(21,gvM nb H.length tm q)]) tr 222 1 (rI r) 215 rfl (show (222:Nat)<255 by decide) rfl htr hne rfl (by simp[CvL])
         ⟨rfl,cvRs_mid (by simp) (fun _ _ _ _=>.same) _ (fun _ _ _ _=>.same),cvB_refl (fun _=>.same) _⟩ ?_
        intro mm;rw[<-rowsI_eq];refine sC ?_;simp;refine sE ?_;exact⟨⟨some (List.replicate mm (List.replicate 1 .bot)),upd tok6 tr false⟩,⟨fun h=>by simp at h,fun _=>hr,fun Rr h=>by cases h;exact fun xs p q fz=>rowsIX_to xs mm,hJt.spend⟩,
         wM hle6 rfl (by simp[ToL,lk]) (by simp[BoxL,lk];exact⟨rowsIX_to _ _,midX_to (.same (.msl (by simp[lb_at,lk]))),rowsW_to _⟩)⟩
      .rintro⟨o,tok7⟩ ⟨hd1,hd2,hd3,hdt⟩;simp only at hd1 hd2 hd3 hdt;refine AL.seq ?_;refine AL.cutT (l:=[_]) (stGvT2 H.length i tm q P (rowsA R i) (rowsS (R.drop (i+1))) (nx1 i r) nt6 nb box) (GvTk R q P i tm tok nt nt6) ?_ ?_
       .cases o with
        | none =>
         obtain rfl:=hd1 rfl;simp only[stGvT];repeat first|simp[hlt,hml,hmg]|refine sR ?_
         refine Stop.data ?_;refine sD (sortOne_c _ _ _) ?_;simp;refine sE ?_;exact CutE.mk tok7 (stGvT2 H.length i tm q P (rowsA R i) (rowsS (R.drop (i+1))) (nx1 i []) nt6 nb box tok7) hdt (wM hle6 rfl (by simp[ToL,lk]) (by simp[BoxL,lk];exact⟨midX_to (by rw[nx1_nil];exact .data),rowsW_to _⟩)) Trans.rfl'
        | some Rr =>
         have hr:=hd2 (by simp);have hRr:=hd3 Rr rfl;have hsb:=fun bx hk=>sortBox_c r (by omega) bx (nb+222) (nb+255) Rr hk tok7 nt6
         have e0:nx0 i r=r:=by unfold nx0;rw[if_neg hr]
         have hsl:r.length=(rI (sortI r)).length:=by simp[sortI]
         simp only[stGvT];repeat first|simp[hlt,hml,hmg]|refine sR ?_
         refine Stop.of_a (hsb _ (by simp[lb_at,lk])) ?_;rintro v m' ⟨rfl,rfl⟩;simp;refine sE ?_;refine CutE.mk tok7 ⟨tl [(31,I i),(207,I H.length),(208,I i),(21,.ptr (nb+21) 0 0),(8,.ptr (nb+8) 0 0),(228,.msl (nb+222) 0 (rI (sortI r)).length 1)],
          lb nb box ((222,rowsD (rI (sortI r))++Rr)::[(98,midL (rowsA R i) [.msl (nb+222) 0 (rI (sortI r)).length 1] (rowsS (R.drop (i+1)))),(100,rowsW P),(8,[zMd]),(21,gvM nb H.length tm q)]),tok7,nt6⟩ hdt ?_ ?_
         .rw[<-hsl,<-rowsI_eq];exact wM hle6 rfl (by simp[ToL,lk]) (by simp[BoxL,lk];exact⟨hRr _ _ _ _,midX_to (.same (.msl (by simp[lb_at,lk]))),rowsW_to _⟩)
         .refine Trans.sealD (l':=[(31,I i),(207,I H.length),(208,I i),(21,.ptr (nb+21) 0 0),(8,.ptr (nb+8) 0 0),(228,.bot)]) (loc':=[(98,midL (rowsA R i) [.d (ints (nx1 i r))] (rowsS (R.drop (i+1)))),(100,rowsW P),(8,[zMd]),(21,gvM nb H.length tm q)])
           222 1 (rI (sortI r)) Rr 228 rfl (fun e he=>by obtain⟨b,_,rfl⟩:=List.mem_map.1 he;rfl) rfl rfl ?_ ?_
          .exact⟨rfl,.same .d,rfl,.same .d,rfl,.same .d,rfl,.same (.ptr (show nb+21≠nb+222 by omega)),rfl,.same (.ptr (show nb+8≠nb+222 by omega)),rfl,.bot,trivial⟩
          .refine⟨rfl,cvRs_mid (by unfold nx1;rw[e0];exact .msl) ?_ _ ?_,rfl,cvRs_ok ?_,rfl,cvRs_ok ?_,rfl,cvRs_ok ?_,trivial⟩
           .intro a ha z hz;obtain⟨y,_,rfl⟩:=List.mem_map.1 ha;simp at hz;subst hz;exact .same (.stk trivial)
           .intro a ha z hz;obtain⟨y,_,rfl⟩:=List.mem_map.1 ha;obtain⟨y',_,rfl⟩:=List.mem_map.1 hz;exact .same .d
           .intro a ha z hz;obtain⟨y,_,rfl⟩:=List.mem_map.1 ha;simp at hz;subst hz;exact .same (.osl fun _ _=>trivial)
           .intro a ha z hz;simp at ha;subst ha;simp at hz;rcases hz with rfl|rfl<;>exact .same (by constructor<;>simp)
           .intro a ha z hz;simp at ha;subst ha;simp at hz;rcases hz with rfl|rfl|rfl
            .exact .same (.msl (show nb+98≠nb+222 by omega))
            .exact .same (.msl (show nb+100≠nb+222 by omega))
            .exact .same (.mp trivial fun _ _ _ _=>trivial)
       .intro tok2 ht2;have ht2:TK tok nt tok2 nt6 (ownR (R.drop (i+1))++(ownW P++(.tok tm::ownQ q))):=ht2
        simp only[stGvT2];obtain⟨hs1,hs2,hs3⟩:=nx1_ok hlt hrn hrr;have hs4:=nodup_len _ _ hs1 hs2;have hNX:(nxR (R.map (·.2))).getD i []=nx1 i r:=by rw[<-hrv]
        have hpvs:=pvP_succ hNX;have ht3:TK tok nt tok2 nt6 (ownW P++(ownR (R.drop (i+1))++(.tok tm::ownQ q))):=ht2.perm (List.perm_append_comm_assoc _ _ _)
        generalize nx1 i r=r2 at *;have hJ0:GvK (pvP (nxR (R.map (·.2))) i) i r2 (ownR (R.drop (i+1))++(.tok tm::ownQ q)) tok nt ⟨0,P,tok2,nt6⟩:=⟨by rw[hJp,pvJ_zero],fun e he=>by have:=hJl e he;omega,ht3⟩
        have hPl:P.length=H.length:=by have:=congrArg List.length hJp;rw[pvP_len,nxR_len] at this;simp at this;omega
        generalize pvP (nxR (R.map (·.2))) i=P0 at *;repeat first|simp[hlt,hml,hmg]|refine sR ?_
        refine sN ?_;refine sL (stGv7 H.length i tm q (rowsA R i) (rowsS (R.drop (i+1))) r2 nb box) (fun y=>y.i<=r2.length/\y.P.length=H.length/\GvK P0 i r2 (ownR (R.drop (i+1))++(.tok tm::ownQ q)) tok nt y) (fun y=>r2.length-y.i) ⟨0,P,tok2,nt6⟩ ⟨Nat.zero_le _,hPl,hJ0⟩ (wM hle6 rfl (by simp[ToL,lk]) (by simp[BoxL,lk];exact⟨midX_to (.same .d),rowsW_to _⟩)) ?_;clear hJ0 hJl hJt ht2 ht3 hdt hJp hPl;rintro⟨j,Q,tok8,nt8⟩ S ⟨hj,hQl,hK⟩ hS;simp only[stGv7] at hS hj hQl;subst hS;have hw2:=sW (i:=j) (by omega);obtain⟨hKp,hKl,hKt⟩:=hK;simp only at hKp hKl hKt;have hle8:=hKt.le;repeat first|simp|refine sR ?_|refine sC ?_
        refine⟨fun hlt2=>?_,fun hge2=>?_⟩
        .obtain⟨k1,k2⟩:=hs2 _ (List.getElem_mem hlt2);have hstep:=pvJ_succ (i:=i) (P:=P0) hlt2;repeat first|simp[hlt2]|refine sR ?_
         generalize r2[j]=k at *;have k3:k.toNat<Q.length:=by omega
         have k4:k.toNat<H.length:=by omega
         have hqg:∀h,(rowsW Q)[k.toNat]'h=[AV.osl 1 (rI Q[k.toNat].1) Q[k.toNat].2]:=fun h=>by simp[rowsW]
         have hql:=hKl _ (List.getElem_mem k3);obtain⟨hlv,hap⟩:=hKt.rowWApp k3 (Q[k.toNat].1++[(i:Int)]);have hqs:=rowsW_set Q k.toNat (Q[k.toNat].1++[(i:Int)]) (.tok nt8);rw[<-rI_snoc] at hqs;have hpq:(Q.set k.toNat (Q[k.toNat].1++[(i:Int)],.tok nt8)).map (·.1)=pvJ i r2 P0 (j+1):=by
          rw[hstep,<-hKp,List.map_set];unfold pvS;congr 2
          simp[k3]
         try (simp[k1,k2,k3,k4,hqg])
         repeat ((first|refine sR ?_|refine sC ?_|refine sX ?_);simp[k1,k2,k3,k4,hqg])
         refine⟨⟨by omega,hlv⟩,?_⟩;try (simp[hqs,hw2])
         repeat ((first|refine sR ?_|refine sC ?_|refine sX ?_);simp[hqs,hw2])
         refine sE ?_;have hKl2:∀e∈Q.set k.toNat (Q[k.toNat].1++[(i:Int)],.tok nt8),e.1.length<=i*300+(j+1):=fun e he=>by
          rcases List.mem_or_eq_of_mem_set he with he|rfl
          .have:=hKl e he;omega
          .simp;omega
         exact⟨⟨j+1,Q.set k.toNat (Q[k.toNat].1++[(i:Int)],.tok nt8),upd (Own.kill tok8 Q[k.toNat].2) nt8 true,nt8+1⟩,⟨hlt2,by simp[hQl],⟨hpq,hKl2,by have hmd:ownR (R.drop (i+1))=List.drop (i+1) (List.map (fun r=>Own.tok r.1) R):=List.map_drop;rw[hmd] at hap;exact hap⟩⟩,by simp only;omega,wM hap.le rfl (by simp[ToL,lk]) (by simp[BoxL,lk];exact⟨midX_to (.same .d),rowsW_to _⟩)⟩
        .refine sX ?_;simp only[AU,↓reduceIte];have:j=r2.length:=by omega
         subst this;rw[<-hpvs] at hKp;have ht9:TK tok nt tok8 nt8 (ownR (R.drop (i+1))++(ownW Q++(.tok tm::ownQ q))):=hKt.perm (List.perm_append_comm_assoc _ _ _)
         try (simp[hw])
         repeat ((first|refine sR ?_|refine sC ?_|refine sX ?_);simp[hw])
         refine sE ?_;exact⟨⟨i+1,Q,tok8,nt8⟩,⟨hlt,⟨hKp,fun e he=>by have:=hKl e he;simp only;omega,ht9⟩⟩,by simp only;omega,wM ht9.le rfl (by simp[ToL,lk]) (by simp[BoxL,lk];rw[hX1];exact⟨midX_to (.same .d),rowsW_to _⟩)⟩
     .refine sX ?_;simp only[AU,↓reduceIte];have:i=H.length:=by omega
      subst this;have hdn:R.drop H.length=[]:=List.drop_eq_nil_of_le (by omega)
      have hfin:rowsX R H.length=rowsD ((nxR (R.map (·.2))).map fun r=>[ints r]):=by
       unfold rowsX rowsA;rw[List.take_of_length_le (by simp;omega),hdn];simp[rowsS]
      have hPd:(P.map fun r=>[ints r.1])=(pvP (nxR (R.map (·.2))) H.length).map fun r=>[ints r]:=by rw[<-hJp];simp
      rw[hfin];rw[hdn] at hJt;have hz:TK tok nt tok6 nt6 (.tok tm::(ownW P++ownQ q)):=by
       have h0:TK tok nt tok6 nt6 (ownW P++(.tok tm::ownQ q)):=hJt
       exact h0.perm List.perm_middle
      have hz2:=hz.spend;have hl1:(nxR (R.map (·.2))).length=H.length:=by simp[hRl]
      have hl2:(pvP (nxR (R.map (·.2))) H.length).length=H.length:=by simp[hRl]
      have hmp:mpE (encQ q)=Res.atoms.map fun a=>(a.1,rBo a.2):=by rw[hres];simp[mpE]
      have hn1:nxR (R.map (·.2))=Res.next:=by rw[hres]
      have hp1:pvP (nxR (R.map (·.2))) H.length=Res.prev:=by rw[hres]
      rw[hp1] at hPd hl2;rw[hn1] at hl1 ⊢;clear hres hn1 hp1;refine AL.weak (wM (l':=[(21,.ptr (nb+21) 0 0),(8,.ptr (nb+8) 0 0)]) (loc':=[(98,rowsD (Res.next.map fun r=>[ints r])),(100,rowsD (Res.prev.map fun r=>[ints r])),(8,[zMd]),(21,gvM nb H.length tm q)]) hle6 rfl (by simp[ToL,lk]) (by simp[BoxL,lk];rw[<-hPd];exact rowsW_d _)) ?_;refine AL.mapD tm hz.live ?_;simp[rowsD_mpF,hmp];refine AL.weak (Weaks.frz (l':=[(21,.ptr (nb+21) 0 0),(8,.ptr (nb+8) 0 0)]) (loc':=[(100,rowsD (Res.prev.map fun r=>[ints r])),(8,[zMd]),(21,[[.d (lls Res.next),.msl (nb+100) 0 H.length 1,.mpd (Res.atoms.map fun a=>(a.1,rBo a.2))]])]) 98 1 (Res.next.map fun r=>[ints r]) hle6 rfl (by simp[lk]) (by simp[lk]) (fun e he=>by obtain⟨b,_,rfl⟩:=List.mem_map.1 he;rfl) (by simp[ToL,lk,lb_at]) (by simp[BoxL,lk,lb_at,hl1])) ?_;refine AL.weak (Weaks.frz (l':=[(21,.ptr (nb+21) 0 0),(8,.ptr (nb+8) 0 0)]) (loc':=[(8,[zMd]),(21,[[.d (lls Res.next),.d (lls Res.prev),.mpd (Res.atoms.map fun a=>(a.1,rBo a.2))]])]) 100 1 (Res.prev.map fun r=>[ints r]) hle6 rfl (by simp[lk]) (by simp[lk]) (fun e he=>by obtain⟨b,_,rfl⟩:=List.mem_map.1 he;rfl) (by simp[ToL,lk,lb_at]) (by simp[BoxL,lk,lb_at,hl2])) ?_;try (simp)
      repeat ((first|refine sR ?_|refine sC ?_|refine sX ?_);simp)
      refine sT (sG Hb Ht hz2.old hle6 ?_);simp
def tyT:Ty:=⟨[⟨⟨#[78]⟩, -1,false,[]⟩],[⟨⟨#[101]⟩,0,0,0, -1,0, -1⟩]⟩
def coA:Co:=⟨⟨#[97]⟩,1,⟨[0],[]⟩,[]⟩
def coB:Co:=⟨⟨#[98]⟩,1,⟨[0,0],[]⟩,[]⟩
def coC:Co:=⟨⟨#[99]⟩,1,⟨[0],[⟨0,0,0⟩]⟩,[]⟩
def coD:Co:=⟨⟨#[100]⟩,1,⟨[0,0],[⟨0,0,1⟩]⟩,[]⟩
def cosT:List Co:=[coA,coB,coC,coD]
theorem tyT_fit:tyT.Fit:=⟨by decide,by decide,by decide,by decide,by simp[tyT]⟩
set_option maxRecDepth 100000 in
theorem types50_c:DC 36 [] tyT.av:=by
 intro tok nt box nb;refine sI func36 ntmps36 fun Hb Ht=>?_
 repeat first|simp|refine sR ?_
 try refine⟨rfl,?_⟩
 repeat first|simp|refine sR ?_
 try refine⟨rfl,?_⟩
 repeat first|simp|refine sR ?_
 refine sT (sH Hb Ht ?_);simp[tyT,nts,ets,atts,strs];exact to_dss (by simp[dss_cons,dss_nil,dsub_all,atts,strs])
theorem atom50_c(s:ByteArray):DC 79 [Sb s] (Fo.mk 1 s []).av:=by
 intro tok nt box nb;refine sI func79 ntmps79 fun Hb Ht=>?_
 repeat first|simp|refine sR ?_
 refine sT (sH Hb Ht ?_);simp[Fo.kind,Fo.name,Fo.kids];exact .odsub .emp
theorem of50_c(k:Int)(l:List Fo):DC 33 [I k,.d (fos l)] (Fo.mk k ⟨#[]⟩ l).av:=by
 intro tok nt box nb;refine sI func33 ntmps33 fun Hb Ht=>?_
 repeat first|simp|refine sR ?_
 refine sT (sH Hb Ht ?_);simp[Fo.kind,Fo.name,Fo.kids]
def gcT(i:Nat):List D:=match i with
 | 0=>[ints [0],AM.edges []]
 | 1=>[ints [0,0],AM.edges []]
 | 2=>[ints [0],AM.edges [⟨0,0,0⟩]]
 | _=>[ints [0,0],AM.edges [⟨0,0,1⟩]]
def csP(i:Nat):List (List D):=rCo (cosT.take i)
theorem csP1:csP 1=csP 0++[[.raw (.string ⟨#[97]⟩),.raw (.int .i64 1),ints [0],AM.edges [],xts []]]:=rfl
theorem csP2:csP 2=csP 1++[[.raw (.string ⟨#[98]⟩),.raw (.int .i64 1),ints [0,0],AM.edges [],xts []]]:=rfl
theorem csP3:csP 3=csP 2++[[.raw (.string ⟨#[99]⟩),.raw (.int .i64 1),ints [0],AM.edges [⟨0,0,0⟩],xts []]]:=rfl
theorem csP4:csP 4=csP 3++[[.raw (.string ⟨#[100]⟩),.raw (.int .i64 1),ints [0,0],AM.edges [⟨0,0,1⟩],xts []]]:=rfl
theorem csP_len:∀i,(csP i).length<=4:=fun i=>by simp only[csP,List.length_map,List.length_take];have:cosT.length=4:=rfl;omega
theorem ex97:(⟨#[97,98,99,100]⟩:ByteArray).extract 0 1=⟨#[97]⟩:=by decide
theorem ex98:(⟨#[97,98,99,100]⟩:ByteArray).extract 1 2=⟨#[98]⟩:=by decide
theorem ex99:(⟨#[97,98,99,100]⟩:ByteArray).extract 2 3=⟨#[99]⟩:=by decide
theorem ex100:(⟨#[97,98,99,100]⟩:ByteArray).extract 3 4=⟨#[100]⟩:=by decide
theorem w1:IntKind.i64.wrap 1=1:=by decide
theorem w2:IntKind.i64.wrap 2=2:=by decide
theorem w3:IntKind.i64.wrap 3=3:=by decide
theorem w4:IntKind.i64.wrap 4=4:=by decide
def stCo5(nb:Nat)(box:Bxs)(x:Acc):AS :=
 ⟨tl [(1,.d (.sl 2 [gcT 0,gcT 1,gcT 2,gcT 3])),(2,.osl 5 (csP x.i) x.own),(3,I x.i)],lb nb box [],x.tok,x.nt⟩
set_option maxRecDepth 100000 in
theorem constraints50_c:DC 37 [] (.d (cosD cosT)):=by
 intro tok nt box nb;refine sI func37 ntmps37 fun Hb Ht=>?_
 repeat first|simp|refine sR ?_
 try refine⟨rfl,?_⟩
 repeat first|simp|refine sR ?_
 try refine⟨rfl,?_⟩
 repeat first|simp|refine sR ?_
 refine sN ?_;refine sL (stCo5 nb box) (fun x=>x.i<=4/\TK tok nt x.tok x.nt [x.own]) (fun x=>4-x.i) ⟨0,.full,tok,nt⟩ ⟨Nat.zero_le _,(TK.start Ht).full⟩ (wM (nr _) rfl (by simp[ToL,lk];exact⟨to_dss (by simp[gcT,dss_cons,dss_nil,ints,AM.edges,DSub.emp,DSub.refl,E.cells]),.nil (by decide) rfl⟩) trivial) ?_;rintro⟨i,own,tok',nt'⟩ S ⟨hi,htk⟩ hS;simp only[stCo5] at hS hi htk;subst hS;have hcl:=csP_len;by_cases hlt:i<4
 .have hi4:i=0∨i=1∨i=2∨i=3:=by omega
  rcases hi4 with rfl|rfl|rfl|rfl
  case' inl=>have e:=csP1
  case' inr.inl=>have e:=csP2
  case' inr.inr.inl=>have e:=csP3
  case' inr.inr.inr=>have e:=csP4
  all_goals
   try (simp[gcT,w1,w2,w3,w4,ex97,ex98,ex99,ex100])
   repeat ((first|refine sR ?_|refine sC ?_|refine sX ?_);simp[gcT,w1,w2,w3,w4,ex97,ex98,ex99,ex100])
   refine⟨by decide,?_⟩;try (simp[gcT,w1,w2,w3,w4,ex97,ex98,ex99,ex100])
   repeat ((first|refine sR ?_|refine sC ?_|refine sX ?_);simp[gcT,w1,w2,w3,w4,ex97,ex98,ex99,ex100])
   refine⟨⟨by have:=csP_len 0;have:=csP_len 1;have:=csP_len 2;have:=csP_len 3;omega,htk.live⟩,?_⟩;try (simp[gcT,w1,w2,w3,w4,ex97,ex98,ex99,ex100])
   repeat ((first|refine sR ?_|refine sC ?_|refine sX ?_);simp[gcT,w1,w2,w3,w4,ex97,ex98,ex99,ex100])
   refine sE ?_;first
    | exact⟨⟨1,.tok nt',_,nt'+1⟩,⟨by simp,htk.app⟩,by simp,wM htk.app.le rfl (by simp[ToL,lk,gcT,e];exact to_snoc (by simp[DSub.refl];exact .emp) _) trivial⟩
    | exact⟨⟨2,.tok nt',_,nt'+1⟩,⟨by simp,htk.app⟩,by simp,wM htk.app.le rfl (by simp[ToL,lk,gcT,e];exact to_snoc (by simp[DSub.refl];exact .emp) _) trivial⟩
    | exact⟨⟨3,.tok nt',_,nt'+1⟩,⟨by simp,htk.app⟩,by simp,wM htk.app.le rfl (by simp[ToL,lk,gcT,e];exact to_snoc (by simp[DSub.refl];exact .emp) _) trivial⟩
    | exact⟨⟨4,.tok nt',_,nt'+1⟩,⟨by simp,htk.app⟩,by simp,wM htk.app.le rfl (by simp[ToL,lk,gcT,e];exact to_snoc (by simp[DSub.refl];exact .emp) _) trivial⟩
 .have:i=4:=by omega
  subst this;try (simp)
  repeat ((first|refine sR ?_|refine sC ?_|refine sX ?_);simp)
  have e:csP 4=rCo cosT:=rfl
  refine sT (sG Hb Ht htk.old htk.le ?_);simp[e]
def hst0:Hs:=⟨⟨[],[]⟩,[]⟩
def hst1:Hs:=⟨⟨[0],[]⟩,[[]]⟩
def hst2:Hs:=⟨⟨[0,0],[]⟩,[[],[]]⟩
def hs3:List Hs:=[hst0,hst1,hst2]
def ar3:List Ar50:=[⟨0,0,1,⟨[],[]⟩,[]⟩,⟨0,1,0,⟨[],[]⟩,[]⟩,⟨0,1,2,⟨[],[]⟩,[]⟩]
def foA:Fo:=.mk 1 ⟨#[97]⟩ []
def foB:Fo:=.mk 1 ⟨#[98]⟩ []
def foS:Fo:=.mk 2 ⟨#[]⟩ [foA]
def fo1:Fo:=.mk 6 ⟨#[]⟩ [foS]
def fo2:Fo:=.mk 11 ⟨#[]⟩ [foB]
def fo3:Fo:=.mk 7 ⟨#[]⟩ [foB]
def fo4:Fo:=.mk 10 ⟨#[]⟩ [foS]
theorem cosT_ok:Cos cosT:=⟨by decide,fun c hc=>by
 simp only[cosT,List.mem_cons,List.not_mem_nil,or_false] at hc;rcases hc with rfl|rfl|rfl|rfl
 .exact⟨by decide,⟨by decide,by decide⟩,by decide,by simp[coA]⟩
 .exact⟨by decide,⟨by decide,by decide⟩,by decide,by simp[coB]⟩
 .exact⟨by decide,⟨by decide,by decide⟩,by decide,by simp[coC]⟩
 .exact⟨by decide,⟨by decide,by decide⟩,by decide,by simp[coD]⟩⟩
theorem cosT_cn:∀c∈cosT,cnE tyT c=0:=by decide +kernel
theorem cosT_kd:∀c∈cosT,c.kind=1:=by decide +kernel
theorem tyT_ok:tyE tyT=0:=by decide +kernel
theorem hs3_r:∀h∈hs3,(hostR tyT (atsK tyT) h).2=0:=by decide +kernel
theorem hs3_v:∀h∈hs3,∀c∈cosT,(vioS tyT c h.g fun _=>false).2=0:=by decide +kernel
theorem gvh3(f:Fo)(hs:f.Sm)(hv:validF f cosT=0):GvH tyT hs3 ar3 f cosT where
 ft:=tyT_fit
 sm:=hs
 cos:=cosT_ok
 va:=validF_zero hv
 v0:=hv
 ty:=tyT_ok
 cn:=cosT_cn
 kd:=cosT_kd
 hn:=by decide
 hn2:=by decide
 an:=by decide
 hg:=fun h hh=>by
  refine⟨?_,?_,hs3_r h hh⟩
  .simp only[hs3,List.mem_cons,List.not_mem_nil,or_false] at hh;rcases hh with rfl|rfl|rfl<;>exact⟨by decide,by decide⟩
  .simp only[hs3,List.mem_cons,List.not_mem_nil,or_false] at hh;rcases hh with rfl|rfl|rfl<;>decide
 ar:=fun a ha=>by
  simp only[ar3,List.mem_cons,List.not_mem_nil,or_false] at ha;rcases ha with rfl|rfl|rfl<;>exact⟨⟨by decide,by decide⟩,by decide,by decide⟩
 vi:=hs3_v
theorem sortI_id{l:List Int}(h:l.Pairwise fun a b=>a<=b):sortI l=l:=by
 unfold sortI;refine List.mergeSort_of_pairwise (h.imp fun h=>by simpa using h)
def mdX(X:List (ByteArray × List Bool)):Mdl:=⟨[[1],[0,2],[2]],[[1],[0],[1,2]],X⟩
theorem mdX_eq{f:Fo}{X:List (ByteArray × List Bool)}(hX:atmR (usedF f) (bitS tyT) cosT hs3=X):mdlR tyT hs3 (ar3.map Ar50.pr) f cosT=mdX X:=by
 have h1:arP hs3.length (ar3.map Ar50.pr) (ar3.map Ar50.pr).length=[[1],[0,2],[]]:=by decide +kernel
 have e:ar3.length=(ar3.map Ar50.pr).length:=by simp
 have h2:nxR [[1],[0,2],[]]=[[1],[0,2],[2]]:=by
  have e1:nx1 0 [1]=[1]:=sortI_id (by decide)
  have e2:nx1 1 [0,2]=[0,2]:=sortI_id (by decide)
  have e3:nx1 2 []=[2]:=nx1_nil 2
  show [nx1 0 [1],nx1 1 [0,2],nx1 2 []]=_
  rw[e1,e2,e3]
 have h3:pvP [[1],[0,2],[2]] hs3.length=[[1],[0],[1,2]]:=by decide +kernel
 unfold mdlR;rw[hX,h1,h2,h3];rfl
def atX1:List (ByteArray × List Bool):=[(⟨#[97]⟩,[true,false,false])]
def atX2:List (ByteArray × List Bool):=[(⟨#[98]⟩,[true,true,false])]
theorem ax1:atmR (usedF fo1) (bitS tyT) cosT hs3=atX1:=by decide +kernel
theorem ax2:atmR (usedF fo2) (bitS tyT) cosT hs3=atX2:=by decide +kernel
theorem ax3:atmR (usedF fo3) (bitS tyT) cosT hs3=atX2:=by decide +kernel
theorem ax4:atmR (usedF fo4) (bitS tyT) cosT hs3=atX1:=by decide +kernel
theorem va1:validF fo1 cosT=0:=by decide +kernel
theorem va2:validF fo2 cosT=0:=by decide +kernel
theorem va3:validF fo3 cosT=0:=by decide +kernel
theorem va4:validF fo4 cosT=0:=by decide +kernel
theorem ho1:fo1.holds (mdX atX1)=[true,true,true]:=by decide +kernel
theorem tr2:(askR (mdX atX2) fo2).map (fun q=>(pathQ (mdX atX2) q,q.verdict))=some ([0,1,2],false):=by decide +kernel
theorem tr3:(askR (mdX atX2) fo3).map (fun q=>(pathQ (mdX atX2) q,q.verdict))=some ([0,1,0],true):=by decide +kernel
theorem rk4:rankR (mdX atX1) (kidV (mdX atX1) fo4 0)=[1,0,0]:=by decide +kernel
theorem traceA_of{m:Mdl}{f:Fo}{p:List Int}{b:Bool}(h:(askR m f).map (fun q=>(pathQ m q,q.verdict))=some (p,b))(hp:p≠[]):traceA m f=.tup [.d (ints p),B b,I 0]:=by
 unfold traceA;cases hq:askR m f with
 | none=>rw[hq] at h;cases h
 | some q =>
  rw[hq] at h;simp only[Option.map_some,Option.some.injEq,Prod.mk.injEq] at h;obtain⟨h1,h2⟩:=h;simp only;rw[h1,h2,if_neg hp]
theorem sm_atom(s:ByteArray)(hs:s.size<=1000):(Fo.mk 1 s []).Sm:=.mk (by simp only[Fo.name];omega) (by simp[Fo.kids]) (fun x hx=>by simp[Fo.kids] at hx)
theorem sm_one{k:Int}{x:Fo}(h:x.Sm):(Fo.mk k ⟨#[]⟩ [x]).Sm:=.mk (by simp only[Fo.name];decide) (by simp[Fo.kids]) (fun y hy=>by simp[Fo.kids] at hy;subst hy;exact h)
theorem sm1:fo1.Sm:=sm_one (sm_one (sm_atom _ (by decide)))
theorem sm2:fo2.Sm:=sm_one (sm_atom _ (by decide))
theorem sm3:fo3.Sm:=sm_one (sm_atom _ (by decide))
theorem sm4:fo4.Sm:=sm_one (sm_one (sm_atom _ (by decide)))
abbrev prU(l:List (Int × Int)):D:=.sl 2 (l.map fun a=>[u8 a.1,u8 a.2])
def spK(n:Int):Nat:=(n % 3).toNat
def spE1(n:Int):List E:=if 0<spK n/\n / 3 % 2=1 then [⟨0,0,0⟩] else []
def spE2(n:Int):List E:=if 1<spK n/\n / 6 % 2=1 then [⟨0,0,1⟩] else []
def spE(n:Int):List E:=spE1 n++spE2 n
def spH(n:Int):Hs:=⟨⟨List.replicate (spK n) 0,spE n⟩,List.replicate (spK n) []⟩
def spN(cs:List Int):Nat:=max 1 (min cs.length 10)
def spS(cs:List Int)(i:Nat):List Hs:=(List.range i).map fun j=>spH (cs.getD j 0)
theorem spS_succ(cs:List Int)(i:Nat):spS cs (i+1)=spS cs i++[spH (cs.getD i 0)]:=by simp[spS,List.range_succ]
@[simp] theorem spS_len(cs:List Int)(i:Nat):(spS cs i).length=i:=by simp[spS]
def spA(k:Nat)(ar:List (Int × Int))(i:Nat):List Ar50:=(ar.take i).map fun a=>⟨0,a.1 % k,a.2 % k,⟨[],[]⟩,[]⟩
theorem spA_succ(k:Nat){ar:List (Int × Int)}{i:Nat}(h:i<ar.length):spA k ar (i+1)=spA k ar i++[⟨0,ar[i].1 % k,ar[i].2 % k,⟨[],[]⟩,[]⟩]:=by
 unfold spA;rw[List.take_succ_eq_append_getElem h,List.map_append];rfl
theorem rowsN_to{p:Nat->Prop}{q:Nat->Prop}{fz:Option (Nat × Nat × List (List D))}(k:Nat):RowsTo p q fz (List.replicate k [nilS]) (rowsD (List.replicate k [ints []])):=by
 refine⟨by simp,fun i h1 h2=>⟨by simp[rowsD],fun j g1 g2=>?_⟩⟩;simp only[rowsD,List.getElem_map,List.getElem_replicate,List.map_cons,List.map_nil] at g1 g2 ⊢;have:j=0:=by simp at g1;omega
 subst this;exact .odsub .emp
theorem frzK{p q:Nat->Prop}(k s:Nat):To p q (some (s,1,List.replicate k [D.raw (.int .i64 0)])) (.msl s 0 k 1) (.d (ints (List.replicate k 0))):=by
 have e:ints (List.replicate k 0)=.sl 1 (List.replicate k [D.raw (.int .i64 0)]):=by simp[ints]
 rw[e];exact to_frz (by simp)
theorem frzL{p q:Nat->Prop}(k s:Nat):To p q (some (s,1,List.replicate k [ints []])) (.msl s 0 k 1) (.d (lls (List.replicate k []))):=by
 have e:lls (List.replicate k [])=.sl 1 (List.replicate k [ints []]):=by simp
 rw[e];exact to_frz (by simp)
structure SpX where
 i:Nat
 o:Own
 tok:Nat->Bool
 nt:Nat
structure SpY where
 oe:Own
 oh:Own
 tok:Nat->Bool
 nt:Nat
def stSp1(cs:List Int)(ar:List (Int × Int))(nb:Nat)(box:Bxs)(x:SpX):AS :=
 ⟨tl [(6,I x.i),(0,.d (bytes cs)),(1,.d (prU ar)),(4,.ptr (nb+4) 0 0),(5,.ptr (nb+5) 0 0)],lb nb box [(5,[[.osl 3 ((spS cs x.i).map Hs.cells) x.o,nilS]]),(4,[[nilS,nilS]])],x.tok,x.nt⟩
def stSpH(cs:List Int)(ar:List (Int × Int))(n:Int)(k i:Nat)(e:List E)(A:List (List D))(nb:Nat)(box:Bxs)(y:SpY):AS :=
 ⟨tl [(7,I n),(8,.ptr (nb+8) 0 0),(6,I i),(0,.d (bytes cs)),(1,.d (prU ar)),(4,.ptr (nb+4) 0 0),(5,.ptr (nb+5) 0 0)],
  lb nb box [(8,[[.msl (nb+35) 0 k 1,.osl 3 (rE e) y.oe,.msl (nb+39) 0 k 1]]),(35,rowsI (List.replicate k 0)),(39,List.replicate k [nilS]),(5,[[.osl 3 A y.oh,nilS]]),(4,[[nilS,nilS]])],y.tok,y.nt⟩
def stSp2(cs:List Int)(ar:List (Int × Int))(H:List Hs)(nb:Nat)(box:Bxs)(oh:Own)(x:SpX):AS :=
 ⟨tl [(9,I x.i),(1,.d (prU ar)),(4,.ptr (nb+4) 0 0),(5,.ptr (nb+5) 0 0)],lb nb box [(5,[[.osl 3 (H.map Hs.cells) oh,.osl 6 ((spA H.length ar x.i).map Ar50.cells) x.o]]),(4,[[nilS,nilS]])],x.tok,x.nt⟩
set_option maxRecDepth 100000 in
theorem space_c(cs:List Int)(hc:U8s cs)(ar:List (Int × Int))(ha:∀a∈ar,(0<=a.1/\a.1<256)/\0<=a.2/\a.2<256):DC 31 [.d (bytes cs),.d (prU ar)] (spV (spS cs (spN cs)) (spA (spN cs) ar (min ar.length 30))):=by
 intro tok nt box nb;refine sI func31 ntmps31 fun Hb Ht=>?_
 repeat first|simp|refine sR ?_
 refine sN ?_;refine sL (stSp1 cs ar nb box) (fun x=>x.i<=spN cs/\TK tok nt x.tok x.nt [x.o]) (fun x=>spN cs-x.i) ⟨0,.full,tok,nt⟩ ⟨Nat.zero_le _,(TK.start Ht).full⟩ (wM (nr _) rfl (by simp[ToL,lk]) (by simp[BoxL,lk,spS])) ?_;rintro⟨i,o,tok1,nt1⟩ S ⟨hi,htk⟩ hS;simp only[stSp1] at hS hi htk;subst hS;have hN:spN cs<=10:=by unfold spN;omega
 have hw:=sW (i:=i) (by omega);by_cases hlt:i<spN cs
 .have hlt2:i=0∨i<cs.length/\i<10:=by unfold spN at hlt;omega
  obtain⟨n,hn⟩:∃n,cs.getD i 0=n:=⟨_,rfl⟩
  have hn1:0<=n/\n<256:=by
   rw[<-hn];by_cases e:i<cs.length
   .rw[show cs.getD i 0=cs[i] by simp[e]];exact hc _ (List.getElem_mem e)
   .rw[show cs.getD i 0=0 by simp[e]];decide
  obtain⟨hn1,hn2⟩:=hn1;have hsucc:=spS_succ cs i;rw[hn] at hsucc;have hAl:((spS cs i).map Hs.cells).length=i:=by simp
  refine AL.seq ?_;refine AL.mid ⟨tl [(6,I i),(0,.d (bytes cs)),(1,.d (prU ar)),(4,.ptr (nb+4) 0 0),(5,.ptr (nb+5) 0 0)],lb nb box [(5,[[.osl 3 ((spS cs i).map Hs.cells) o,nilS]]),(4,[[nilS,nilS]])],tok1,nt1⟩ ?_ ?_
  .by_cases h0:i=0
   .subst h0;try (simp)
    repeat ((first|refine sR ?_|refine sC ?_|refine sX ?_);simp)
    refine sE ?_;exact wM htk.le rfl (by simp[ToL,lk]) (by simp[BoxL,lk])
   .have b0:((i:Int)==0)=false:=by simpa using h0
    have c1:i<cs.length:=by omega
    have c2:(i:Int)<10:=by omega
    have c3:i<10:=by omega
    try (simp[b0,c1,c2,c3,h0])
    repeat ((first|refine sR ?_|refine sC ?_|refine sX ?_);simp[b0,c1,c2,c3,h0])
    refine sE ?_;exact wM htk.le rfl (by simp[ToL,lk]) (by simp[BoxL,lk])
  .refine sR ?_;simp;refine AL.seq ?_;refine AL.mid ⟨tl [(7,I n),(6,I i),(0,.d (bytes cs)),(1,.d (prU ar)),(4,.ptr (nb+4) 0 0),(5,.ptr (nb+5) 0 0)],lb nb box [(5,[[.osl 3 ((spS cs i).map Hs.cells) o,nilS]]),(4,[[nilS,nilS]])],tok1,nt1⟩ ?_ ?_
   .by_cases e:i<cs.length
    .have hnc:cs[i]=n:=by rw[<-hn];simp[e]
     have hb:=bytes_at e;have hwn:IntKind.i64.wrap n=n:=wrap_in (by omega) (by omega)
     try (simp[e,hb,hnc,hwn])
     repeat ((first|refine sR ?_|refine sC ?_|refine sX ?_);simp[e,hb,hnc,hwn])
     refine sE ?_;exact wM htk.le rfl (by simp[ToL,lk]) (by simp[BoxL,lk])
    .have hn0:n=0:=by rw[<-hn];simp[e]
     subst hn0;try (simp[e])
     repeat ((first|refine sR ?_|refine sC ?_|refine sX ?_);simp[e])
     refine sE ?_;exact wM htk.le rfl (by simp[ToL,lk]) (by simp[BoxL,lk])
   .clear hn;obtain⟨k,hk⟩:∃k,spK n=k:=⟨_,rfl⟩
    have hk3:(k:Int)=n % 3:=by rw[<-hk];unfold spK;omega
    have hk2:k<=2:=by omega
    have tm3:n.tmod 3=(k:Int):=by rw[Int.tmod_eq_emod_of_nonneg hn1,hk3]
    have td3:n.tdiv 3=n / 3:=Int.tdiv_eq_ediv_of_nonneg hn1
    have td6:n.tdiv 6=n / 6:=Int.tdiv_eq_ediv_of_nonneg hn1
    have tw3:IntKind.i64.wrap (n / 3)=n / 3:=wrap_in (by omega) (by omega)
    have tw6:IntKind.i64.wrap (n / 6)=n / 6:=wrap_in (by omega) (by omega)
    have tn3:(n / 3).tmod 2=n / 3 % 2:=Int.tmod_eq_emod_of_nonneg (by omega)
    have tn6:(n / 6).tmod 2=n / 6 % 2:=Int.tmod_eq_emod_of_nonneg (by omega)
    refine sR ?_;simp[tm3];refine⟨by omega,by omega,?_⟩;refine AL.seq ?_;have hX:∀p fz,RowsTo p (fun _=>True) fz (List.replicate k [nilS]) (List.replicate k [nilS]):=fun p fz=>rowsTo_same fun r hr x hx=>by
     rw[(List.mem_replicate.1 hr).2] at hx;simp at hx;subst hx;exact .osl fun _ e=>by cases e
    refine AL.midT (stSpH cs ar n k i (spE1 n) ((spS cs i).map Hs.cells) nb box) (fun y=>TK tok nt y.tok y.nt [y.oe,y.oh]) ?_ ?_
    .by_cases c1:0<k
     .by_cases c2:n / 3 % 2=1
      .have he:spE1 n=[⟨0,0,0⟩]:=by unfold spE1;rw[hk,if_pos ⟨c1,c2⟩]
       have b2:(n / 3 % 2==1)=true:=by simp[c2]
       try (simp[tm3,td3,tw3,tn3,c1,c2,b2])
       repeat ((first|refine sR ?_|refine sC ?_|refine sX ?_);simp[tm3,td3,tw3,tn3,c1,c2,b2])
       refine sE ?_;exact⟨⟨.tok nt1,o,_,nt1+1⟩,htk.full.app,wM (Nat.le_succ_of_le htk.le) rfl (by simp[ToL,lk]) (by simp[BoxL,lk,he];exact hX _ _)⟩
      .have he:spE1 n=[]:=by unfold spE1;rw[if_neg (fun h=>c2 h.2)]
       have b2:(n / 3 % 2==1)=false:=by simp[c2]
       try (simp[tm3,td3,tw3,tn3,c1,c2,b2])
       repeat ((first|refine sR ?_|refine sC ?_|refine sX ?_);simp[tm3,td3,tw3,tn3,c1,c2,b2])
       refine sE ?_;exact⟨⟨.full,o,tok1,nt1⟩,htk.full,wM htk.le rfl (by simp[ToL,lk]) (by simp[BoxL,lk,he];exact hX _ _)⟩
     .have he:spE1 n=[]:=by unfold spE1;rw[hk,if_neg (fun h=>c1 h.1)]
      try (simp[tm3,td3,tw3,tn3,c1])
      repeat ((first|refine sR ?_|refine sC ?_|refine sX ?_);simp[tm3,td3,tw3,tn3,c1])
      refine sE ?_;exact⟨⟨.full,o,tok1,nt1⟩,htk.full,wM htk.le rfl (by simp[ToL,lk]) (by simp[BoxL,lk,he];exact hX _ _)⟩
    .clear htk;rintro⟨oe,oh,tok2,nt2⟩ htk;simp only at htk;have hel:(spE1 n).length<=1:=by unfold spE1;split<;>simp
     simp only[stSpH];refine AL.seq ?_;refine AL.midT (stSpH cs ar n k i (spE n) ((spS cs i).map Hs.cells) nb box) (fun y=>TK tok nt y.tok y.nt [y.oe,y.oh]) ?_ ?_
     .by_cases c1:1<k
      .have c1':(1:Int)<(k:Int):=by omega
       by_cases c2:n / 6 % 2=1
       .have he:spE n=spE1 n++[⟨0,0,1⟩]:=by unfold spE spE2;rw[hk,if_pos ⟨c1,c2⟩]
        have b2:(n / 6 % 2==1)=true:=by simp[c2]
        try (simp[tm3,td6,tw6,tn6,c1,c1',c2,b2])
        repeat ((first|refine sR ?_|refine sC ?_|refine sX ?_);simp[tm3,td6,tw6,tn6,c1,c1',c2,b2])
        refine⟨⟨by omega,htk.live⟩,?_⟩;try (simp)
        repeat ((first|refine sR ?_|refine sC ?_|refine sX ?_);simp)
        refine sE ?_;exact⟨⟨.tok nt2,oh,_,nt2+1⟩,htk.app,wM htk.app.le rfl (by simp[ToL,lk]) (by simp[BoxL,lk,he];exact hX _ _)⟩
       .have he:spE n=spE1 n:=by unfold spE spE2;rw[if_neg (fun h=>c2 h.2),List.append_nil]
        have b2:(n / 6 % 2==1)=false:=by simp[c2]
        try (simp[tm3,td6,tw6,tn6,c1,c1',c2,b2])
        repeat ((first|refine sR ?_|refine sC ?_|refine sX ?_);simp[tm3,td6,tw6,tn6,c1,c1',c2,b2])
        refine sE ?_;exact⟨⟨oe,oh,tok2,nt2⟩,htk,wM htk.le rfl (by simp[ToL,lk]) (by simp[BoxL,lk,he];exact hX _ _)⟩
      .have he:spE n=spE1 n:=by unfold spE spE2;rw[hk,if_neg (fun h=>c1 h.1),List.append_nil]
       have c1':¬(1:Int)<(k:Int):=by omega
       try (simp[tm3,td6,tw6,tn6,c1,c1'])
       repeat ((first|refine sR ?_|refine sC ?_|refine sX ?_);simp[tm3,td6,tw6,tn6,c1,c1'])
       refine sE ?_;exact⟨⟨oe,oh,tok2,nt2⟩,htk,wM htk.le rfl (by simp[ToL,lk]) (by simp[BoxL,lk,he];exact hX _ _)⟩
     .clear htk;rintro⟨oe,oh,tok2,nt2⟩ htk;simp only at htk;simp only[stSpH];have htk2:=htk.tail;have hH:spH n=⟨⟨List.replicate k 0,spE n⟩,List.replicate k []⟩:=by unfold spH;rw[hk]
      have hcl:(spS cs (i+1)).map Hs.cells=(spS cs i).map Hs.cells++[[ints (List.replicate k 0),AM.edges (spE n),lls (List.replicate k [])]]:=by rw[hsucc,List.map_append,hH];rfl
      refine AL.weak (wM (l':=[(8,.ptr (nb+8) 0 0),(6,I i),(0,.d (bytes cs)),(1,.d (prU ar)),(4,.ptr (nb+4) 0 0),(5,.ptr (nb+5) 0 0)])
       (loc':=[(8,[[.msl (nb+35) 0 k 1,.d (AM.edges (spE n)),.msl (nb+39) 0 k 1]]),(35,rowsI (List.replicate k 0)),(39,rowsD (List.replicate k [ints []])),(5,[[.osl 3 ((spS cs i).map Hs.cells) oh,nilS]]),(4,[[nilS,nilS]])]) htk.le rfl (by simp[ToL,lk]) (by simp[BoxL,lk];exact rowsN_to k)) ?_
      refine AL.weak (Weaks.frz (l':=[(8,.ptr (nb+8) 0 0),(6,I i),(0,.d (bytes cs)),(1,.d (prU ar)),(4,.ptr (nb+4) 0 0),(5,.ptr (nb+5) 0 0)])
       (loc':=[(8,[[.d (ints (List.replicate k 0)),.d (AM.edges (spE n)),.msl (nb+39) 0 k 1]]),(39,rowsD (List.replicate k [ints []])),(5,[[.osl 3 ((spS cs i).map Hs.cells) oh,nilS]]),(4,[[nilS,nilS]])]) 35 1 (rI (List.replicate k 0)) htk.le rfl (by simp[lk,rowsI_eq]) (by simp[lk]) (fun e he=>by obtain⟨b,_,rfl⟩:=List.mem_map.1 he;rfl) (by simp[ToL,lk,lb_at]) (by simp[BoxL,lk,lb_at];exact frzK _ _)) ?_
      refine AL.weak (Weaks.frz (l':=[(8,.ptr (nb+8) 0 0),(6,I i),(0,.d (bytes cs)),(1,.d (prU ar)),(4,.ptr (nb+4) 0 0),(5,.ptr (nb+5) 0 0)])
       (loc':=[(8,[[.d (ints (List.replicate k 0)),.d (AM.edges (spE n)),.d (lls (List.replicate k []))]]),(5,[[.osl 3 ((spS cs i).map Hs.cells) oh,nilS]]),(4,[[nilS,nilS]])]) 39 1 (List.replicate k [ints []]) htk.le rfl (by simp[lk]) (by simp[lk]) (fun e he=>by rw[(List.mem_replicate.1 he).2];rfl) (by simp[ToL,lk,lb_at]) (by simp[BoxL,lk,lb_at];exact frzL _ _)) ?_
      try (simp)
      repeat ((first|refine sR ?_|refine sC ?_|refine sX ?_);simp)
      refine⟨⟨by omega,htk2.live⟩,?_⟩;try (simp[hw])
      repeat ((first|refine sR ?_|refine sC ?_|refine sX ?_);simp[hw])
      refine sE ?_;exact⟨⟨i+1,.tok nt2,_,nt2+1⟩,⟨hlt,htk2.app⟩,by simp only;omega,wM htk2.app.le rfl (by simp[ToL,lk]) (by simp[BoxL,lk,hcl])⟩
 .have:i=spN cs:=by omega
  subst this;clear hw hi;have hm1:1<=spN cs:=by unfold spN;omega
  have hm2:¬(spN cs<cs.length/\spN cs<10):=by unfold spN;omega
  obtain⟨m,hm⟩:∃m,spN cs=m:=⟨_,rfl⟩
  have hHl:(spS cs (spN cs)).length=spN cs:=by simp
  rw[hm] at hN hm1 hm2 hHl ⊢;generalize spS cs m=H at *;have b00:¬m=0:=by omega
  have b0:((m:Int)==0)=false:=by simpa using b00
  by_cases c1:m<cs.length
  case' pos=>have c2:¬(m:Int)<10:=by omega
  case' pos=>have c3:¬m<10:=by omega
  case' neg=>have c2:¬(m:Int)<(cs.length:Int):=by omega
  case' neg=>have c3:¬m<cs.length:=c1
  all_goals
   try (simp[b0,c1,c2,c3])
   repeat ((first|refine sR ?_|refine sC ?_|refine sX ?_);simp[b0,c1,c2,c3])
   refine sN ?_;refine sL (stSp2 cs ar H nb box o) (fun x=>x.i<=min ar.length 30/\TK tok nt x.tok x.nt [x.o,o]) (fun x=>min ar.length 30-x.i) ⟨0,.full,tok1,nt1⟩ ⟨Nat.zero_le _,htk.full⟩ (wM htk.le rfl (by simp[ToL,lk]) (by simp[BoxL,lk,spA])) ?_;clear htk;rintro⟨i,o2,tok2,nt2⟩ S ⟨hi,htk⟩ hS;simp only[stSp2] at hS hi htk;subst hS;have hw:=sW (i:=i) (by omega);by_cases hlt:i<ar.length/\i<30
   .obtain⟨d1,d2⟩:=hlt;have d3:(i:Int)<30:=by omega
    have hsucc:=spA_succ H.length d1;obtain⟨⟨e1,e2⟩,e3,e4⟩:=ha _ (List.getElem_mem d1);have hpr:(ar.map fun a=>[u8 a.1,u8 a.2])[i]?=some [u8 ar[i].1,u8 ar[i].2]:=by simp[d1]
    have hb1:IntKind.i64.wrap ar[i].1=ar[i].1:=wrap_in (by omega) (by omega)
    have hb2:IntKind.i64.wrap ar[i].2=ar[i].2:=wrap_in (by omega) (by omega)
    have ht1:ar[i].1.tmod (H.length:Int)=ar[i].1 % (H.length:Int):=Int.tmod_eq_emod_of_nonneg e1
    have ht2:ar[i].2.tmod (H.length:Int)=ar[i].2 % (H.length:Int):=Int.tmod_eq_emod_of_nonneg e3
    have hHz:¬(H.length:Int)=0:=by omega
    have hsl:(spA H.length ar i).length<=30:=by simp[spA];omega
    have hHn:H=[]->False:=fun e=>by rw[e] at hHz;simp at hHz
    try (simp[d1,d2,d3,hpr,hb1,hb2,ht1,ht2])
    repeat ((first|refine sR ?_|refine sC ?_|refine sX ?_);simp[d1,d2,d3,hpr,hb1,hb2,ht1,ht2])
    refine⟨hHn,?_⟩;try (simp[d1,d2,d3,hpr,hb1,hb2,ht1,ht2])
    repeat ((first|refine sR ?_|refine sC ?_|refine sX ?_);simp[d1,d2,d3,hpr,hb1,hb2,ht1,ht2])
    try refine⟨hHn,?_⟩
    try (simp[d1,d2,d3,hpr,hb1,hb2,ht1,ht2])
    repeat ((first|refine sR ?_|refine sC ?_|refine sX ?_);simp[d1,d2,d3,hpr,hb1,hb2,ht1,ht2])
    refine⟨⟨by omega,htk.live⟩,?_⟩;try (simp[hw])
    repeat ((first|refine sR ?_|refine sC ?_|refine sX ?_);simp[hw])
    refine sE ?_;exact⟨⟨i+1,.tok nt2,_,nt2+1⟩,⟨by simp only;omega,htk.app⟩,by simp only;omega,wM htk.app.le rfl (by simp[ToL,lk]) (by simp[BoxL,lk,hsucc];exact to_snoc (by simp[DSub.refl];exact .emp) _)⟩
   .have:i=min ar.length 30:=by omega
    subst this;by_cases d1:min ar.length 30<ar.length
    case' pos=>have d2:¬((min ar.length 30:Nat):Int)<30:=by omega
    case' pos=>have d3:¬min ar.length 30<30:=by omega
    case' neg=>have d2:¬((min ar.length 30:Nat):Int)<(ar.length:Int):=by omega
    case' neg=>have d3:¬min ar.length 30<ar.length:=d1
    all_goals
     generalize min ar.length 30=z at *;try (simp[d1,d2,d3])
     repeat ((first|refine sR ?_|refine sC ?_|refine sX ?_);simp[d1,d2,d3])
     refine sT (sG Hb Ht htk.old htk.le ?_);simp[hHl]
variable {P:Program}
def lkv:List (Nat × Value)->Nat->Option Value
 | [],_=>none
 | (j,v)::r,i=>if i=j then some v else lkv r i
def swpL(l:List (Nat × Value)):Nat->List Oper->List Oper
 | _,[]=>[]
 | i,o::r=>(match lkv l i with|some v=>{ o with op:=.move (.const v) }|none=>o)::swpL l (i+1) r
theorem swpL_get(l:List (Nat × Value)):∀(ops:List Oper) (k i:Nat),(swpL l k ops)[i]?=(ops[i]?).map fun o=>match lkv l (k+i) with|some v=>{ o with op:=.move (.const v) }|none=>o
 | [],k,i=>by simp[swpL]
 | o::r,k,0=>by simp[swpL]
 | o::r,k,i+1=>by
  have:=swpL_get l r (k+1) i
  simp only[swpL,List.getElem?_cons_succ,this];rw[show k+1+i=k+(i+1) by omega]
theorem swpL_len(l:List (Nat × Value)):∀(ops:List Oper) (k:Nat),(swpL l k ops).length=ops.length
 | [],k=>rfl
 | o::r,k=>by simp[swpL,swpL_len l r]
def SwpOk(P:Program)(ops:List Oper)(l:List (Nat × Value)):Prop:=∀i v o,lkv l i=some v->ops[i]?=some o->∀(a:Act) (w:World),(execOp a.eval o).run P w=.ok (.value v) w
theorem wpOps_swap{ops:List Oper}{l:List (Nat × Value)}{Q:Exit->Act->World->Prop}(h:SwpOk P ops l):∀(is:List Nat) (a:Act) (w:World),wpOps P (swpL l 0 ops).toArray Q is a w->wpOps P ops.toArray Q is a w
 | [],a,w,hq=>hq
 | i::is,a,w,hq=>by
  have ih:=wpOps_swap (Q:=Q) h is;have hg:=swpL_get l ops 0 i;have hy:∀tm,yielded (swpL l 0 ops).toArray tm=yielded ops.toArray tm:=fun tm=>by
   funext j
   unfold yielded;have hj:=swpL_get l ops 0 j;simp only[List.getElem?_toArray];rw[hj];cases ops[j]? with
   | none=>rfl
   | some o =>
    simp only[Option.map_some];cases lkv l (0+j)<;>rfl
  unfold wpOps at hq ⊢;simp only[List.getElem?_toArray] at hq ⊢;rw[hg] at hq;cases ho:ops[i]? with
  | none=>rw[ho] at hq;exact ih a w hq
  | some o =>
   rw[ho] at hq;simp only[Option.map_some,Nat.zero_add] at hq ⊢;cases hv:lkv l i with
   | none =>
    rw[hv] at hq;simp only at hq;rw[hy] at hq;split at hq
    .rename_i hw;rw[if_pos hw];rcases hq with hq|hq
     .left;unfold Oper.wp at hq ⊢;generalize (execOp a.eval o).run P w=r at *;cases r with
      | ok n w' =>
       cases n<;>simp only[Oper.upon] at hq ⊢ <;>
        first
         | exact ih _ _ hq
         | exact Calls.mono hq (fun e w'' he=>by cases e<;>first|exact ih _ _ he|exact he)
         | exact Rows.mono hq (fun _ _ he=>ih _ _ he)
      | halt x w'=>cases x<;>simp only[Oper.upon] at hq ⊢<;>exact hq
     .exact .inr hq
    .rename_i hw;rw[if_neg hw];exact ih _ _ hq
   | some v =>
    rw[hv] at hq;simp only at hq;rw[hy] at hq;have hr:=h i v o hv ho a w;have hwt:Region.wanted { o with op:=.move (.const v) } (yielded ops.toArray a.tmps)=Region.wanted o (yielded ops.toArray a.tmps):=rfl
    rw[hwt] at hq;split at hq
    .rename_i hw;rw[if_pos hw];rcases hq with hq|⟨hq,_⟩
     .left;unfold Oper.wp at hq ⊢;rw[hr,Oper.upon_value];have hr2:(execOp a.eval { o with op:=.move (.const v) }).run P w=.ok (.value v) w:=by simp[execOp,Act.eval]
      rw[hr2,Oper.upon_value] at hq;exact ih _ _ hq
     .exfalso
      have:=hq.1
      simp[execOp,Act.eval] at this;have h0:Sem.events P (pure (Next.value v)) w #[] = #[]:=rfl
      rw[h0] at this;simp at this
    .rename_i hw;rw[if_neg hw];exact ih _ _ hq
theorem AL.swap{cx:Cx}{nt0 id:Nat}{ops:List Oper}{S:AS}{K:Exit->AS->Prop}{r:List CI}(l:List (Nat × Value))(h:SwpOk P ops l)(hnb:cx.base+cx.n<=cx.nb)(hok:regionOk cx.n (swpL l 0 ops).toArray false=true)(hr:FReg P cx (swpL l 0 ops).toArray false (AL P cx nt0 K r) S):AL P cx nt0 K (.c (.region id ops.toArray false)::r) S:=by
 simp only[AL];have hA:=fReg_sound hr;clear hr;simp only[regionOk,Bool.and_eq_true,Bool.or_eq_true,Bool.not_eq_true'] at hok;obtain⟨⟨hal,hdst⟩,hreg⟩:=hok;have hsz:(swpL l 0 ops).toArray.size=ops.toArray.size:=by simp[swpL_len]
 obtain⟨ops',ho'⟩:∃o,(swpL l 0 ops).toArray=o:=⟨_,rfl⟩
 intro G0 w0 he hn G a w hr hl;have hsw:=fun is a w (Q:Exit->Act->World->Prop)=>wpOps_swap (Q:=Q) h is a w
 rw[ho'] at hal hdst hA hsz hsw;have hd:=dstOk_spec hdst;obtain⟨b,hb,hr1,hp,hkeep⟩:=preB_sound hnb ops'.toList S.box (S:=S) hr (fun o ho d hod=>hd o d (by simpa using ho) hod) (allocOk_nodup hal) hA;have hl1:LeC cx G0 w0 G w { S with box:=b }:=⟨hl.1,fun k hk hg=>by
  rw[<-hl.2 k hk hg];refine hkeep k fun hm=>?_
  obtain⟨o,ho,he⟩:=List.mem_filterMap.1 hm;split at he
  .rename_i T s h1 h2;simp only[Option.some.injEq] at he;subst he;exact absurd hk (by simp)
  .cases he⟩
 simp only at hb;refine wp_region ?_;rw[<-hsz];refine hsw _ _ _ _ ?_;rw[show List.range ops'.size=List.range' 0 ops'.toList.length by simp[List.range_eq_range']];exact aops_sound hd hnb hal (fun S' a' w' G' h1 h2 h3=>⟨S',G',h1,h2,h3⟩) ops'.toList 0 { S with box:=b } a w G (by simp) hp hr1 hl1 hb
theorem gok(f:Fo)(hs:f.Sm)(hv:validF f cosT=0){X:List (ByteArray × List Bool)}(hX:atmR (usedF f) (bitS tyT) cosT hs3=X):MdlG (mdX X) 3 f /\
  ∀tok nt,DCall prog 90 [tyT.av,spV hs3 ar3,f.av,.d (cosD cosT)] tok nt (.tup [(mdX X).av,I 0]) tok nt:=by
 have h:=gvh3 f hs hv;have h1:=mdl_ok tyT hs3 (ar3.map Ar50.pr) f cosT h.hn h.hn2 (fun a ha=>by obtain⟨x,hx,rfl⟩:=List.mem_map.1 ha;exact h.ar x hx) h.va;have h2:=given50_c tyT hs3 ar3 f cosT h;rw[mdX_eq hX] at h1 h2;exact⟨h1,h2⟩
theorem hold1(tok:Tks)(nt:Nat):DCall prog 35 [tyT.av,spV hs3 ar3,fo1.av,.d (cosD cosT)] tok nt (.tup [.d (bools [true,true,true]),I 0]) tok nt:=by
 obtain⟨h1,h2⟩:=gok fo1 sm1 va1 ax1;have:=holds50_c (mdX atX1) 3 h1.ok fo1 (by decide) h1.hok _ _ _ _ _ tok nt (h2 tok nt)
 rw[ho1] at this;exact this
theorem trac2(tok:Tks)(nt:Nat):DCall prog 39 [tyT.av,spV hs3 ar3,fo2.av,.d (cosD cosT)] tok nt (.tup [.d (ints [0,1,2]),B false,I 0]) tok nt:=by
 obtain⟨h1,h2⟩:=gok fo2 sm2 va2 ax2;have:=trace_c (mdX atX2) 3 h1.ok h1.cv fo2 (by decide) h1.hok _ _ _ _ _ tok nt (h2 tok nt)
 rw[traceA_of tr2 (by simp)] at this;exact this
theorem trac3(tok:Tks)(nt:Nat):DCall prog 39 [tyT.av,spV hs3 ar3,fo3.av,.d (cosD cosT)] tok nt (.tup [.d (ints [0,1,0]),B true,I 0]) tok nt:=by
 obtain⟨h1,h2⟩:=gok fo3 sm3 va3 ax3;have:=trace_c (mdX atX2) 3 h1.ok h1.cv fo3 (by decide) h1.hok _ _ _ _ _ tok nt (h2 tok nt)
 rw[traceA_of tr3 (by simp)] at this;exact this
theorem rank4(tok:Tks)(nt:Nat):DCall prog 40 [tyT.av,spV hs3 ar3,fo4.av,.d (cosD cosT)] tok nt (.tup [.d (ints [1,0,0]),I 0]) tok nt:=by
 obtain⟨h1,h2⟩:=gok fo4 sm4 va4 ax4;have:=rank_c (mdX atX1) 3 h1.ok h1.ne fo4 (by decide) h1.hok rfl _ _ _ _ _ tok nt (h2 tok nt)
 rw[rk4] at this;exact this
theorem spc3(tok:Tks)(nt:Nat):DCall prog 31 [.d (bytes [0,1,2]),.d (prU [(0,1),(1,0),(1,2)])] tok nt (spV hs3 ar3) tok nt:=by
 have:=space_c [0,1,2] (by unfold U8s;decide) [(0,1),(1,0),(1,2)] (by decide) tok nt
 have e1:spS [0,1,2] (spN [0,1,2])=hs3:=by rfl
 have e2:spA (spN [0,1,2]) [(0,1),(1,0),(1,2)] (min [((0:Int),(1:Int)),(1,0),(1,2)].length 30)=ar3:=by rfl
 rw[e1,e2] at this;exact this
abbrev u8p(x y:Int):Value:=.agg #[.int .u8 x,.int .u8 y]
set_option maxRecDepth 100000 in
theorem bld2(x y:Int)(w:World):(Instr.build 169 #[(0,.int .u8 x),(1,.int .u8 y)]).run prog w=.ok (u8p x y) w:=by
 have hu:=underlying169;have he:zeroT prog 169=some [.int .u8 0,.int .u8 0]:=by kernel_rfl
 have hs:szOf prog 5=some 1:=by kernel_rfl
 unfold zeroT at he;split at he
 .rename_i z hz;obtain⟨i,hi,hzi⟩:=Option.bind_eq_some_iff.1 hz;split at he
  .simp only[Option.some.injEq] at he;have hzr:(zeroValue 169).run prog w=.ok z w:=by simp[zeroValue,typeInfo,hi,hzi]
   have hz2:z.cells = #[.int .u8 0,.int .u8 0]:=by rw[<-he]
   simp only[Instr.build,Sem.run_bind,hzr,Result.andThen_ok,run_underlying hu,run_sizeOf hs,hz2];simp[Instr.fill,Value.cells]
  .cases he
 .cases he
set_option maxRecDepth 100000 in
theorem awake50_c:DC 26 [] (B true):=by
 intro tok nt box nb;refine sI func26 ntmps26 fun Hb Ht=>?_
 refine sR ?_;simp;refine sN ?_;refine AL.swap [(1,u8p 0 1),(2,u8p 1 0),(3,u8p 1 2)] ?_ (nr _) (by kernel_rfl) ?_
 .intro i v o h1 h2 a w;unfold lkv lkv lkv lkv at h1;split at h1
  .rename_i e;subst e;cases h1;cases h2;simp[execOp,Act.eval,bld2]
  .split at h1
   .rename_i e;subst e;cases h1;cases h2;simp[execOp,Act.eval,bld2]
   .split at h1
    .rename_i e;subst e;cases h1;cases h2;simp[execOp,Act.eval,bld2]
    .cases h1
 have oc:∀n,(Value.int .u8 n).oneCell'=true:=fun _=>rfl
 simp[swpL,lkv,oc];refine⟨rfl,?_⟩;refine Stop.data ?_;refine sD (spc3 _ _) ?_;try (simp)
 repeat ((first|refine sR ?_|refine sC ?_|refine sX ?_);simp)
 refine sD (constraints50_c _ _) ?_;simp;try (simp)
 repeat ((first|refine sR ?_|refine sC ?_|refine sX ?_);simp)
 refine sD (atom50_c _ _ _) ?_;simp;refine Stop.data ?_;refine sD (of50_c 2 [foA] _ _) ?_;try (simp)
 repeat ((first|refine sR ?_|refine sC ?_|refine sX ?_);simp)
 refine sD (types50_c _ _) ?_;simp;refine Stop.data ?_;refine sD (of50_c 6 [foS] _ _) ?_;simp;refine sD (hold1 _ _) ?_;simp;try (simp)
 repeat ((first|refine sR ?_|refine sC ?_|refine sX ?_);simp)
 refine sD (types50_c _ _) ?_;simp;refine sD (atom50_c _ _ _) ?_;simp;refine Stop.data ?_;refine sD (of50_c 11 [foB] _ _) ?_;simp;refine sD (trac2 _ _) ?_;try (simp)
 repeat ((first|refine sR ?_|refine sC ?_|refine sX ?_);simp)
 refine sD (types50_c _ _) ?_;simp;refine sD (atom50_c _ _ _) ?_;simp;refine Stop.data ?_;refine sD (of50_c 7 [foB] _ _) ?_;simp;refine sD (trac3 _ _) ?_;try (simp)
 repeat ((first|refine sR ?_|refine sC ?_|refine sX ?_);simp)
 refine sD (types50_c _ _) ?_;simp;refine Stop.data ?_;refine sD (of50_c 10 [foS] _ _) ?_;simp;refine sD (rank4 _ _) ?_;try (simp)
 repeat ((first|refine sR ?_|refine sC ?_|refine sX ?_);simp)
 refine⟨rfl,?_⟩;refine Stop.data ?_;refine sD (equalB_c [true,true,true] [true,true,true] (by decide) (by decide) _ _) ?_;try (simp)
 repeat ((first|refine sR ?_|refine sC ?_|refine sX ?_);simp)
 refine⟨rfl,?_⟩;refine Stop.data ?_;refine sD (equalI_c [0,1,2] [0,1,2] (by decide) (by decide) _ _) ?_;try (simp)
 repeat ((first|refine sR ?_|refine sC ?_|refine sX ?_);simp)
 refine⟨rfl,?_⟩;refine Stop.data ?_;refine sD (equalI_c [0,1,0] [0,1,0] (by decide) (by decide) _ _) ?_;try (simp)
 repeat ((first|refine sR ?_|refine sC ?_|refine sX ?_);simp)
 refine⟨rfl,?_⟩;refine Stop.data ?_;refine sD (equalI_c [1,0,0] [1,0,0] (by decide) (by decide) _ _) ?_;try (simp)
 repeat ((first|refine sR ?_|refine sC ?_|refine sX ?_);simp)
 refine sT (sH Hb Ht ?_);simp
open Go Go.Proofs Go.Shelf
open Go.Proofs.Tryz
structure Tk where
 kind:Int
 text:ByteArray
 line:Int
abbrev Tk.cells(t:Tk):List D:=[.raw (.int .i64 t.kind),.raw (.string t.text),.raw (.int .i64 t.line)]
abbrev tks(l:List Tk):D:=.sl 3 (l.map Tk.cells)
theorem Tk.get{l:List Tk}{i:Nat}(h:i<l.length):(l.map Tk.cells)[i]?=some [.raw (.int .i64 l[i].kind),.raw (.string l[i].text),.raw (.int .i64 l[i].line)]:=by simp[h]
theorem ba_ext{a b:ByteArray}(h:a.data.toList=b.data.toList):a=b:=by
 obtain⟨⟨a⟩⟩:=a;obtain⟨⟨b⟩⟩:=b;simp at h;rw[h]
theorem ba_cut(s:ByteArray)(a b:Nat):(s.extract a b).data.toList=(s.data.toList.drop a).take (b-a):=by
 rw[ByteArray.data_extract,Array.toList_extract,List.extract_eq_take_drop]
theorem sz_list(s:ByteArray):s.data.toList.length=s.size:=size_toList s
def dropB(s:ByteArray)(n:Nat):ByteArray:=s.extract n s.size
theorem dropB_list(s:ByteArray)(n:Nat):(dropB s n).data.toList=s.data.toList.drop n:=by
 rw[dropB,ba_cut,List.take_of_length_le (by rw[List.length_drop,sz_list];exact nr _)]
theorem dropB_size(s:ByteArray)(n:Nat):(dropB s n).size=s.size-n:=by rw[<-sz_list,dropB_list,List.length_drop,sz_list]
theorem dropB_zero(s:ByteArray):dropB s 0=s:=ba_ext (by rw[dropB_list];rfl)
theorem dropB_dropB(s:ByteArray)(n m:Nat):dropB (dropB s n) m=dropB s (n+m):=ba_ext (by rw[dropB_list,dropB_list,dropB_list,List.drop_drop])
theorem byteAt_drop(s:ByteArray)(n i:Nat):byteAt (dropB s n) i=byteAt s (n+i):=by simp[byteAt,dropB_list,List.getD_eq_getElem?_getD,List.getElem?_drop]
theorem runN_drop(p:Int->Bool)(s:ByteArray)(n i:Nat):runN p (dropB s n) i=runN p s (n+i):=by simp[runN,dropB_list,List.drop_drop]
theorem cut_drop(s:ByteArray)(n a b:Nat):(dropB s n).extract a b=s.extract (n+a) (n+b):=ba_ext (by
 rw[ba_cut,ba_cut,dropB_list,List.drop_drop];congr 1
 omega)
theorem byteAt_get{s:ByteArray}{a:Nat}(h:a<s.data.toList.length):byteAt s a=((s.data.toList[a].toNat:Nat):Int):=by
 simp only[byteAt,List.getD_eq_getElem?_getD,List.getElem?_eq_getElem h,Option.getD_some]
theorem runN_step{p:Int->Bool}{s:ByteArray}{a:Nat}(h:a<s.size)(hp:p (byteAt s a)=true):runN p s a=runN p s (a+1)+1:=by
 have h2:a<s.data.toList.length:=by rw[sz_list];exact h
 unfold runN;rw[List.drop_eq_getElem_cons h2,List.takeWhile_cons,if_pos (by rw[<-byteAt_get h2];exact hp),List.length_cons]
theorem runN_pos{p:Int->Bool}{s:ByteArray}{a:Nat}(h:a<s.size)(hp:p (byteAt s a)=true):1<=runN p s a:=by rw[runN_step h hp];omega
theorem runN_stop{p:Int->Bool}{s:ByteArray}{a:Nat}(hp:p (byteAt s a)=false):runN p s a=0:=by
 unfold runN;by_cases h:a<s.data.toList.length
 .rw[List.drop_eq_getElem_cons h,List.takeWhile_cons,if_neg (by rw[<-byteAt_get h,hp];simp)];rfl
 .rw[List.drop_eq_nil_of_le (by omega)];rfl
theorem runN_end{p:Int->Bool}{s:ByteArray}{a:Nat}(h:s.size<=a):runN p s a=0:=by
 unfold runN;rw[List.drop_eq_nil_of_le (by rw[sz_list];exact h)];rfl
theorem quoR_rng{s:ByteArray}(h1:1<=s.size)(he:(quoR s).2=0):2<=(quoR s).1/\(quoR s).1<=s.size/\(quoR s).1<=62:=by
 have hle:=runN_le quoB (s.extract 1 s.size) 0;rw[ext1_size] at hle;unfold quoR at he ⊢;generalize runN quoB (s.extract 1 s.size) 0=n at *;split
 .rename_i h;rw[if_pos h] at he;simp at he
 .rename_i h;rw[if_neg h] at he;split
  .rename_i h2;rw[if_pos h2] at he;simp at he
  .rename_i h2;rw[if_neg h2] at he;split
   .rename_i h3;rw[if_pos h3] at he;simp at he
   .simp only;omega
theorem nextR_rng{s:ByteArray}(h1:1<=s.size)(he:(nextR s).2.2=0):1<=(nextR s).2.1/\(nextR s).2.1<=s.size/\((nextR s).1=3->2<=(nextR s).2.1)/\(1<=(nextR s).1/\(nextR s).1<=4):=by
 unfold nextR at he ⊢;have hp1:=fun h=>runN_pos (p:=parB) (s:=s) (a:=0) (by omega) h
 have hp2:=fun h=>runN_pos (p:=digB) (s:=s) (a:=0) (by omega) h
 have hl1:=runN_le parB s 0;have hl2:=runN_le digB s 0;by_cases e1:letB (byteAt s 0)=true
 .have:=hp1 (by simp[parB,e1])
  rw[if_pos e1] at he ⊢;split at he
  .simp at he
  .rename_i h2;rw[if_neg h2];simp only;omega
 .rw[if_neg e1] at he ⊢;by_cases e2:digB (byteAt s 0)=true
  .have:=hp2 e2
   rw[if_pos e2] at he ⊢;split at he
   .simp at he
   .rename_i h2;rw[if_neg h2];simp only;omega
  .rw[if_neg e2] at he ⊢;by_cases e3:byteAt s 0=34
   .rw[if_pos e3] at he ⊢;have:=quoR_rng h1 he
    simp only at this ⊢;omega
   .rw[if_neg e3] at he ⊢;by_cases e4:pairB s=true
    .rw[if_pos e4];unfold pairB at e4;simp at e4;simp only;omega
    .rw[if_neg e4] at he ⊢;split at he
     .rename_i h5;rw[if_pos h5];simp only;omega
     .simp at he
def textR(s:ByteArray):ByteArray:=if (nextR s).1=3 then s.extract 1 ((nextR s).2.1.toNat-1) else s.extract 0 (nextR s).2.1.toNat
theorem quoT_run(s:ByteArray):∀(k n:Nat),s.size-n=k->quoT s n=if n+runN quoB s n<s.size/\byteAt s (n+runN quoB s n)=34 then ((n+runN quoB s n:Nat):Int)+1 else 0
 | 0,n,hk=>by
  have h:s.size<=n:=by omega
  rw[quoT_end (by omega),runN_end h,if_neg (by omega)]
 | k+1,n,hk=>by
  have hlt:n<s.size:=by omega
  by_cases e1:byteAt s n=34
  .rw[quoT_q hlt e1,runN_stop (by simp[quoB,e1])];rw[if_pos ⟨hlt,e1⟩];simp
  .by_cases e2:byteAt s n<32∨126<byteAt s n
   .rw[quoT_bad hlt e1 e2,runN_stop (by simp[quoB];omega),if_neg (by simp[e1])]
   .have hq:quoB (byteAt s n)=true:=by simp[quoB,e1];omega
    have ih:=quoT_run s k (n+1) (by omega);rw[quoT_go hlt e1 e2,ih,runN_step hlt hq];have e:n+1+runN quoB s (n+1)=n+(runN quoB s (n+1)+1):=by omega
    rw[e]
def singL:List ByteArray:=[⟨#[123]⟩,⟨#[125]⟩,⟨#[40]⟩,⟨#[41]⟩,⟨#[91]⟩,⟨#[93]⟩,⟨#[44]⟩,⟨#[59]⟩,⟨#[58]⟩,⟨#[61]⟩,⟨#[43]⟩,⟨#[45]⟩,⟨#[42]⟩,⟨#[60]⟩,⟨#[62]⟩,⟨#[33]⟩,⟨#[38]⟩,⟨#[124]⟩,⟨#[46]⟩,⟨#[63]⟩]
theorem signL_eq:signL=pairL++singL:=rfl
theorem sgnT_skip{s:ByteArray}{b:List ByteArray}:∀{a:List ByteArray},(∀x∈a,¬(x.size<=s.size/\s.extract 0 x.size=x))->sgnT s (a++b)=sgnT s b
 | [],_=>rfl
 | x::r,h=>by
  rw[List.cons_append,sgnT_cons,if_neg (h x (by simp))];exact sgnT_skip fun y hy=>h y (by simp[hy])
theorem sgnT_hit{s:ByteArray}{k:Nat}{b:List ByteArray}(hk:k<=s.size):∀{a:List ByteArray},(∀x∈a,x.size=k)->s.extract 0 k∈a->sgnT s (a++b)=(4,s.extract 0 k,(k:Int),0)
 | x::r,h,hm=>by
  rw[List.cons_append,sgnT_cons];have hx:=h x (by simp);by_cases e:s.extract 0 k=x
  .rw[if_pos ⟨by omega,by rw[hx];exact e⟩,hx,e]
  .rw[if_neg fun hh=>e (by rw[hx] at hh;exact hh.2)];exact sgnT_hit hk (fun y hy=>h y (by simp[hy])) ((List.mem_cons.1 hm).resolve_left e)
theorem pairL_size:∀x∈pairL,x.size=2:=by decide
theorem singL_size:∀x∈singL,x.size=1:=by decide
def singU:List UInt8:=[123,125,40,41,91,93,44,59,58,61,43,45,42,60,62,33,38,124,46,63]
theorem singL_eq:singL=singU.map fun b=>⟨#[b]⟩:=rfl
theorem first_one{s:ByteArray}(h:1<=s.size):s.extract 0 1=⟨#[UInt8.ofNat (byteAt s 0).toNat]⟩:=ba_ext (by
 rw[ba_cut];have hl:=sz_list s;cases e:s.data.toList with
 | nil=>rw[e] at hl;simp at hl;omega
 | cons x r=>simp[byteAt,e])
theorem sing_mem{s:ByteArray}(h:1<=s.size):s.extract 0 1∈singL↔0<=Lib.indexByte singU (UInt8.ofNat (byteAt s 0).toNat):=by
 have hc:=Lib.contains_iff_indexByte singU (UInt8.ofNat (byteAt s 0).toNat);rw[first_one h,singL_eq];constructor
 .intro hm;obtain⟨b,hb,e⟩:=List.mem_map.1 hm;have e2:b=UInt8.ofNat (byteAt s 0).toNat:=by injection e with e;simpa using e
  rw[<-e2] at hc ⊢;have:singU.contains b=true:=by simpa using hb
  rw[this] at hc;simpa using hc.symm
 .intro hm;have:singU.contains (UInt8.ofNat (byteAt s 0).toNat)=true:=by rw[hc];simpa using hm
  exact List.mem_map.2 ⟨_,by simpa using this,rfl⟩
theorem sgnT_all{s:ByteArray}(h:1<=s.size):sgnT s signL=if pairB s=true then (4,s.extract 0 2,2,0) else if 0<=Lib.indexByte singU (UInt8.ofNat (byteAt s 0).toNat) then (4,s.extract 0 1,1,0) else (0,⟨#[]⟩,0,2):=by
 rw[signL_eq];by_cases e1:pairB s=true
 .rw[if_pos e1];unfold pairB at e1;simp only[Bool.and_eq_true,decide_eq_true_eq] at e1;exact sgnT_hit e1.1 pairL_size (memS_iff.1 e1.2)
 .rw[if_neg e1,sgnT_skip]
  .by_cases e2:s.extract 0 1∈singL
   .rw[if_pos ((sing_mem h).1 e2)];have:=sgnT_hit (b:=[]) h singL_size e2
    rw[List.append_nil] at this;exact this
   .rw[if_neg fun hh=>e2 ((sing_mem h).2 hh)];have:=sgnT_skip (s:=s) (b:=[]) (a:=singL) fun x hx hh=>e2 (by rw[singL_size x hx] at hh;rw[hh.2];exact hx)
    rw[List.append_nil] at this;rw[this];rfl
  .intro x hx hh;rw[pairL_size x hx] at hh;apply e1;unfold pairB;simp only[Bool.and_eq_true,decide_eq_true_eq];exact⟨hh.1,memS_iff.2 (by rw[hh.2];exact hx)⟩
theorem one_next{s:ByteArray}(h1:1<=s.size):oneR s=if (nextR s).2.2=0 then ((nextR s).1,textR s,(nextR s).2.1,0) else (0,⟨#[]⟩,0,(nextR s).2.2):=by
 unfold oneR textR;by_cases e1:letB (byteAt s 0)=true
 .have e2:=let_dig e1;have hn:nextR s=if 20<runN parB s 0 then ((0:Int),(0:Int),(3:Int)) else (1,(runN parB s 0:Int),0):=by unfold nextR;rw[if_pos e1]
  rw[if_pos (.inl e1),e2,pd_false,hn];simp only[Bool.false_eq_true,if_false];by_cases e3:20<runN parB s 0
  .rw[if_pos e3,if_pos e3];simp
  .rw[if_neg e3,if_neg e3];simp
 .by_cases e2:digB (byteAt s 0)=true
  .have hn:nextR s=if 9<runN digB s 0 then ((0:Int),(0:Int),(3:Int)) else (2,(runN digB s 0:Int),0):=by unfold nextR;rw[if_neg e1,if_pos e2]
   rw[if_pos (.inr e2),e2,pd_true,hn];simp only[if_true];by_cases e3:9<runN digB s 0
   .rw[if_pos e3,if_pos e3];simp
   .rw[if_neg e3,if_neg e3];simp
  .rw[if_neg (by simp[e1,e2])];by_cases e3:byteAt s 0=34
   .have hn:nextR s=(3,(quoR s).1,(quoR s).2):=by unfold nextR;rw[if_neg e1,if_neg e2,if_pos e3]
    have hq:=quoT_run s _ 1 rfl;have hr:runN quoB (s.extract 1 s.size) 0=runN quoB s 1:=runN_drop quoB s 1 0
    have hle:=runN_le quoB s 1;have hq2:quoR s=if 1+runN quoB s 1=s.size then (0,2) else if byteAt s (1+runN quoB s 1)≠34 then (0,2) else if 60<runN quoB s 1 then (0,3) else ((runN quoB s 1:Int)+2,0):=by
     unfold quoR;rw[hr]
    rw[if_pos e3,hn];generalize runN quoB s 1=n at *;by_cases c1:1+n=s.size
    .rw[if_pos c1] at hq2;rw[if_neg (fun h=>by have:=h.1;omega)] at hq;rw[hq,hq2];simp
    .rw[if_neg c1] at hq2;by_cases c2:byteAt s (1+n)=34
     .rw[if_pos (show 1+n<s.size/\byteAt s (1+n)=34 from⟨by omega,c2⟩)] at hq;rw[if_neg (by simp[c2])] at hq2;rw[hq,hq2];have e5:(((1+n:Nat):Int)+1).toNat-1=((n:Int)+2).toNat-1:=by omega
      have e6:(((1+n:Nat):Int)+1)=(n:Int)+2:=by omega
      rw[e6,if_neg (show ¬((n:Int)+2=0) by omega)];by_cases c3:60<n
      .rw[if_pos (show (60:Int)<(n:Int)+2-2 by omega),if_pos c3];simp
      .rw[if_neg (show ¬(60:Int)<(n:Int)+2-2 by omega),if_neg c3];simp
     .rw[if_neg (fun h=>c2 h.2)] at hq;rw[if_pos c2] at hq2;rw[hq,hq2];simp
   .rw[if_neg e3,sgnT_all h1];have hn:nextR s=if pairB s=true then (4,2,0) else if 0<=Lib.indexByte singU (UInt8.ofNat (byteAt s 0).toNat) then (4,1,0) else (0,0,2):=by unfold nextR;rw[if_neg e1,if_neg e2,if_neg e3];rfl
    rw[hn];by_cases c1:pairB s=true
    .rw[if_pos c1,if_pos c1];simp
    .rw[if_neg c1,if_neg c1];by_cases c2:0<=Lib.indexByte singU (UInt8.ofNat (byteAt s 0).toNat)
     .rw[if_pos c2,if_pos c2];simp
     .rw[if_neg c2,if_neg c2];simp
def nlB(c:Int):Bool:=c != 10
def whiB(c:Int):Bool:=decide (c=32∨c=9∨c=13)
def toksF:Nat->ByteArray->Int->List Tk->List Tk × Int × Int
 | 0,_,_,out=>(out,0,0)
 | f+1,s,line,out =>
  if s.size=0 then (out,0,0)
  else if byteAt s 0=10 then toksF f (dropB s 1) (line+1) out
  else if whiB (byteAt s 0)=true then toksF f (dropB s 1) line out
  else if byteAt s 0=35 then toksF f (dropB s (runN nlB s 0)) line out
  else if (nextR s).2.2≠0 then ([],line,(nextR s).2.2)
  else if out.length=4000 then ([],line,3)
  else toksF f (dropB s (nextR s).2.1.toNat) line (out++[⟨(nextR s).1,textR s,line⟩])
def toksR(s:ByteArray):List Tk × Int × Int:=if 20000<s.size then ([],0,3) else toksF s.size s 1 []
theorem toksF_end{f:Nat}{s:ByteArray}{line:Int}{out:List Tk}(h:s.size=0):toksF f s line out=(out,0,0):=by
 cases f with
 | zero=>rfl
 | succ f=>rw[toksF,if_pos h]
theorem toksF_nl{f:Nat}{s:ByteArray}{line:Int}{out:List Tk}(h:¬s.size=0)(h1:byteAt s 0=10):toksF (f+1) s line out=toksF f (dropB s 1) (line+1) out:=by rw[toksF,if_neg h,if_pos h1]
theorem toksF_wh{f:Nat}{s:ByteArray}{line:Int}{out:List Tk}(h:¬s.size=0)(h1:¬byteAt s 0=10)(h2:whiB (byteAt s 0)=true):toksF (f+1) s line out=toksF f (dropB s 1) line out:=by rw[toksF,if_neg h,if_neg h1,if_pos h2]
theorem toksF_cm{f:Nat}{s:ByteArray}{line:Int}{out:List Tk}(h:¬s.size=0)(h3:byteAt s 0=35):toksF (f+1) s line out=toksF f (dropB s (runN nlB s 0)) line out:=by
 rw[toksF,if_neg h,if_neg (by omega),if_neg (by simp[whiB,h3]),if_pos h3]
theorem toksF_tk{f:Nat}{s:ByteArray}{line:Int}{out:List Tk}(h:¬s.size=0)(h1:¬byteAt s 0=10)(h2:¬whiB (byteAt s 0)=true)(h3:¬byteAt s 0=35):toksF (f+1) s line out =
  if (nextR s).2.2≠0 then ([],line,(nextR s).2.2) else if out.length=4000 then ([],line,3) else toksF f (dropB s (nextR s).2.1.toNat) line (out++[⟨(nextR s).1,textR s,line⟩]):=by
 rw[toksF,if_neg h,if_neg h1,if_neg h2,if_neg h3]
theorem tokens1_c(c:Int):DC 183 [Ub c] (B (nlB c)):=by
 intro tok nt box nb;refine sI func183 ntmps183 fun Hb Ht=>?_
 repeat first|simp|refine sR ?_
 refine sT (sH Hb Ht ?_);simp[nlB]
structure AccT where
 s:ByteArray
 line:Int
 out:List Tk
 own:Own
 tok:Nat->Bool
 nt:Nat
 f:Nat
structure TkInv (R:List Tk × Int × Int) (mtok:Tks) (nt0:Nat) (x:AccT):Prop where
 f:x.s.size<=x.f
 s:x.s.size<=20000
 l0:0<=x.line
 l1:x.line<=20001-x.s.size
 n:x.out.length<=4000
 r:toksF x.f x.s x.line x.out=R
 k:TK mtok nt0 x.tok x.nt [x.own]
theorem TkInv.of{R:List Tk × Int × Int}{mtok:Nat->Bool}{nt0:Nat}{s:ByteArray}{line:Int}{out:List Tk}{own:Own}{tok:Nat->Bool}{nt f:Nat}(h1:s.size<=f)(h2:s.size<=20000)(h3:0<=line)(h4:line<=20001-s.size)(h5:out.length<=4000)(h6:toksF f s line out=R)(h7:TK mtok nt0 tok nt [own]):TkInv R mtok nt0 ⟨s,line,out,own,tok,nt,f⟩:=⟨h1,h2,h3,h4,h5,h6,h7⟩
def stTo(nb:Nat)(box:Bxs)(x:AccT):AS :=
 ⟨tl [(0,Sb x.s),(5,.osl 3 (x.out.map Tk.cells) x.own),(6,I x.line)],lb nb box [],x.tok,x.nt⟩
set_option maxRecDepth 100000 in
theorem tokens_c(s:ByteArray)(hs:s.size<=200000000000000):DC 111 [Sb s] (.tup [.d (tks (toksR s).1),I (toksR s).2.1,I (toksR s).2.2]):=by
 intro tok nt box nb;obtain⟨R,hR⟩:∃R,toksR s=R:=⟨_,rfl⟩
 rw[hR];unfold toksR at hR;refine sI func111 ntmps111 fun Hb Ht=>?_
 have ht0:=TK.start Ht;repeat first|simp|refine sR ?_
 by_cases h0:20000<s.size
 .rw[if_pos h0] at hR;have h0':(20000:Int)<s.size:=by omega
  try (simp[h0'])
  repeat ((first|refine sR ?_|refine sC ?_|refine sX ?_);simp[h0'])
  refine sT (sH Hb Ht ?_);simp[<-hR,tks]
 .rw[if_neg h0] at hR;have h0':¬(20000:Int)<s.size:=by omega
  try (simp[h0'])
  repeat ((first|refine sR ?_|refine sC ?_|refine sX ?_);simp[h0'])
  refine sN ?_;refine sL (stTo nb box) (TkInv R tok nt) (fun x=>x.s.size) ⟨s,1,[],.full,tok,nt,s.size⟩ (TkInv.of (nr _) (by omega) (by omega) (by omega) (by simp) hR ht0.full) (wM (nr _) rfl (by simp[ToL,lk]) trivial) ?_;rintro⟨s,line,out,own,tok1,nt1,f⟩ S hinv hS;obtain⟨hf,hsz,hl0,hl1,hn,hr,htk⟩:=hinv;simp only[stTo] at hS hf hsz hl0 hl1 hn hr htk ⊢;subst hS;by_cases he:s.size=0
  .rw[toksF_end he] at hr;repeat first|simp[he]|refine sR ?_|refine sC ?_
   refine sX ?_;simp only[AU,↓reduceIte];repeat first|simp|refine sR ?_
   refine sT (sG Hb Ht htk.old htk.le ?_);simp[<-hr,tks]
  .have hlt:0<s.size:=by omega
   have hlt':(0:Int)<s.size:=by omega
   have hb:=byteAt_lt hlt;obtain⟨f,rfl⟩:∃f',f=f'+1:=⟨f-1,by omega⟩
   have hle1:(1:Int)<=s.size:=by omega
   have hle1':1<=s.size:=by omega
   have hd1:s.extract 1 s.size=dropB s 1:=rfl
   have hds:=dropB_size s 1;repeat (first|simp[hlt,hlt']|refine sR ?_)
   refine sC ?_
   repeat (first|simp[hlt,hlt']|refine sR ?_)
   rw[hb];by_cases e1:byteAt s 0=10
   .rw[toksF_nl he e1] at hr;have hw:IntKind.i64.wrap (line+1)=line+1:=wrap_in (by omega) (by omega)
    try (simp[e1,hw,hle1,hle1',hd1])
    repeat ((first|refine sR ?_|refine sC ?_|refine sX ?_);simp[e1,hw,hle1,hle1',hd1])
    refine sE ?_;exact⟨⟨dropB s 1,line+1,out,own,tok1,nt1,f⟩,TkInv.of (by omega) (by omega) (by omega) (by omega) hn hr htk,by simp only;omega,wM htk.le rfl (by simp[ToL,lk]) trivial⟩
   .have b1:(byteAt s 0==10)=false:=by simp[e1]
    by_cases e2:whiB (byteAt s 0)=true
    .rw[toksF_wh he e1 e2] at hr;have e2':byteAt s 0=32∨byteAt s 0=9∨byteAt s 0=13:=by simpa[whiB] using e2
     have fin:∃a',TkInv R tok nt a'/\a'.s.size<s.size/\a'=⟨dropB s 1,line,out,own,tok1,nt1,f⟩:=⟨_,TkInv.of (by omega) (by omega) (by omega) (by omega) hn hr htk,by simp only;omega,rfl⟩
     obtain⟨a',fa,fb,fc⟩:=fin;rcases e2' with e3|e3|e3
     .try (simp[b1,e3,hle1,hle1',hd1])
      repeat ((first|refine sR ?_|refine sC ?_|refine sX ?_);simp[b1,e3,hle1,hle1',hd1])
      refine sE ?_;exact⟨a',fa,fb,by subst fc;exact wM htk.le rfl (by simp[ToL,lk]) trivial⟩
     .try (simp[b1,e3,hle1,hle1',hd1])
      repeat ((first|refine sR ?_|refine sC ?_|refine sX ?_);simp[b1,e3,hle1,hle1',hd1])
      refine sE ?_;exact⟨a',fa,fb,by subst fc;exact wM htk.le rfl (by simp[ToL,lk]) trivial⟩
     .try (simp[b1,e3,hle1,hle1',hd1])
      repeat ((first|refine sR ?_|refine sC ?_|refine sX ?_);simp[b1,e3,hle1,hle1',hd1])
      refine sE ?_;exact⟨a',fa,fb,by subst fc;exact wM htk.le rfl (by simp[ToL,lk]) trivial⟩
    .have e2':¬byteAt s 0=32/\¬byteAt s 0=9/\¬byteAt s 0=13:=by simpa[whiB] using e2
     have b2:(byteAt s 0==32)=false:=by simp[e2'.1]
     have b3:(byteAt s 0==9)=false:=by simp[e2'.2.1]
     have b4:(byteAt s 0==13)=false:=by simp[e2'.2.2]
     by_cases e5:byteAt s 0=35
     .rw[toksF_cm he e5] at hr;have hrun:=run_c s 183 nlB (by omega) tok1 nt1 fun c=>tokens1_c c tok1 nt1
      have hp:=runN_pos (p:=nlB) (s:=s) (a:=0) hlt (by simp[nlB,e5]);have hle:=runN_le nlB s 0;have hdn:s.extract (runN nlB s 0) s.size=dropB s (runN nlB s 0):=rfl
      have hds2:=dropB_size s (runN nlB s 0);generalize runN nlB s 0=n at *;have hn1:(n:Int)<=s.size:=by omega
      have hn2:n<=s.size:=by omega
      try (simp[b1,e5])
      repeat ((first|refine sR ?_|refine sC ?_|refine sX ?_);simp[b1,e5])
      refine sD (hrun) ?_;simp;try (simp[hn1,hn2,hdn])
      repeat ((first|refine sR ?_|refine sC ?_|refine sX ?_);simp[hn1,hn2,hdn])
      refine sE ?_;exact⟨⟨dropB s n,line,out,own,tok1,nt1,f⟩,TkInv.of (by omega) (by omega) (by omega) (by omega) hn hr htk,by simp only;omega,wM htk.le rfl (by simp[ToL,lk]) trivial⟩
     .have b5:(byteAt s 0==35)=false:=by simp[e5]
      rw[toksF_tk he e1 e2 e5] at hr;have hx:=next_c s hlt (by omega);have hrg:=nextR_rng (s:=s) hlt;have hte:textR s=if (nextR s).1=3 then s.extract 1 ((nextR s).2.1.toNat-1) else s.extract 0 (nextR s).2.1.toNat:=rfl
      generalize textR s=txt at *;generalize nextR s=N at *;try (simp[b1,b2,b3,b4,b5])
      repeat ((first|refine sR ?_|refine sC ?_|refine sX ?_);simp[b1,b2,b3,b4,b5])
      refine sD (hx _ _) ?_;simp;by_cases e6:N.2.2=0
      .have b6:(N.2.2 != 0)=false:=by simp[e6]
       obtain⟨r1,r2,r3,r4⟩:=hrg e6;rw[if_neg (by simp[e6])] at hr;by_cases e7:out.length=4000
       .rw[if_pos e7] at hr;have b7:((out.length:Int)==4000)=true:=by rw[beq_iff_eq];omega
        try (simp[b6,b7])
        repeat ((first|refine sR ?_|refine sC ?_|refine sX ?_);simp[b6,b7])
        refine sT (sG Hb Ht htk.old htk.le ?_);simp[<-hr,tks]
       .rw[if_neg e7] at hr;have b7:((out.length:Int)==4000)=false:=by rw[beq_eq_false_iff_ne];omega
        have q1:0<=N.2.1:=by omega
        have q2:N.2.1.toNat<=s.size:=by omega
        have hds2:=dropB_size s N.2.1.toNat;have hdn:s.extract N.2.1.toNat s.size=dropB s N.2.1.toNat:=rfl
        have hfin:∃a',TkInv R tok nt a'/\a'.s.size<s.size/\a'=⟨dropB s N.2.1.toNat,line,out++[⟨N.1,txt,line⟩],.tok nt1,upd (own.kill tok1) nt1 true,nt1+1,f⟩ :=
         ⟨_,TkInv.of (by omega) (by omega) (by omega) (by omega) (by simp;omega) hr htk.app,by simp only;omega,rfl⟩
        obtain⟨a',fa,fb,fc⟩:=hfin;by_cases e8:N.1=3
        .rw[if_pos e8] at hte;have r3':=r3 e8
         have w1:IntKind.i64.wrap (N.2.1-1)=N.2.1-1:=wrap_in (by omega) (by omega)
         have q3:(1:Int)<=N.2.1-1:=by omega
         have q4:N.2.1-1<=s.size:=by omega
         have q5:1<=N.2.1.toNat-1:=by omega
         have q6:N.2.1.toNat-1<=s.size:=by omega
         have q7:0<=N.2.1-1:=by omega
         have q8:(N.2.1-1).toNat=N.2.1.toNat-1:=by omega
         try (simp[b6,b7,e8,q1,q2,r2,w1,q3,q4,q5,q6,q7,q8])
         repeat ((first|refine sR ?_|refine sC ?_|refine sX ?_);simp[b6,b7,e8,q1,q2,r2,w1,q3,q4,q5,q6,q7,q8])
         refine⟨by omega,?_⟩;try (simp)
         repeat ((first|refine sR ?_|refine sC ?_|refine sX ?_);simp)
         refine⟨⟨by omega,htk.live⟩,?_⟩;try (simp[q1,q2,r2,hdn])
         repeat ((first|refine sR ?_|refine sC ?_|refine sX ?_);simp[q1,q2,r2,hdn])
         refine sE ?_;exact⟨a',fa,fb,by subst fc;exact wM (by have:=htk.le;omega) rfl (by simp[ToL,lk,e8,hte]) trivial⟩
        .rw[if_neg e8] at hte;have b8:(N.1==3)=false:=by simp[e8]
         try (simp[b6,b7,b8,q1,q2,r2])
         repeat ((first|refine sR ?_|refine sC ?_|refine sX ?_);simp[b6,b7,b8,q1,q2,r2])
         refine⟨⟨by omega,htk.live⟩,?_⟩;try (simp[q1,q2,r2,hdn])
         repeat ((first|refine sR ?_|refine sC ?_|refine sX ?_);simp[q1,q2,r2,hdn])
         refine sE ?_;exact⟨a',fa,fb,by subst fc;exact wM (by have:=htk.le;omega) rfl (by simp[ToL,lk,hte]) trivial⟩
      .have b6:(N.2.2 != 0)=true:=by simp[e6]
       rw[if_pos e6] at hr;try (simp[b6])
       repeat ((first|refine sR ?_|refine sC ?_|refine sX ?_);simp[b6])
       refine sT (sG Hb Ht htk.old htk.le ?_);simp[<-hr,tks]
def stRA(s:ByteArray)(a:Nat)(d:Bool)(nb:Nat)(box:Bxs)(tok:Tks)(nt:Nat)(i:Nat):AS:=⟨tl [(0,Sb s),(1,I a),(2,B d),(7,I i)],lb nb box [],tok,nt⟩
set_option maxRecDepth 100000 in
theorem runA_c(s:ByteArray)(a:Nat)(d:Bool)(ha:a<=s.size)(hs:s.size<=200000000000000):DC 252 [Sb s,I a,B d] (I (runN (pd d) s a)):=by
 intro tok nt box nb;have hl:=letter01_c;have hd:=digit01_c;refine sI func252 ntmps252 fun Hb Ht=>?_
 repeat first|simp|refine sR ?_
 refine sN ?_;refine sL (stRA s a d nb box tok nt) (fun i=>a+i<=s.size/\∀j,j<i->pd d (byteAt s (a+j))=true) (fun i=>s.size-i) 0 ⟨ha,by omega⟩ (wM (nr _) rfl (by simp[ToL,lk]) trivial) ?_;rintro i S' ⟨hi,hok⟩ hS;simp only[stRA] at hS;subst hS;have hw:=sW (i:=i) (by omega);have hwi:IntKind.i64.wrap ((a:Int)+i)=((a+i:Nat):Int):=by rw[wrap_in (by omega) (by omega)];rfl
 by_cases hlt:a+i<s.size
 .have hbb:=byteAt_lt hlt;have hlt2:(a:Int)+i<s.size:=by omega
  have hlt3:(0:Int)<=a+i:=by omega
  have ht:((a:Int)+i).toNat=a+i:=by omega
  have hr:=fun h=>runN_eq (p:=pd d) (s:=s) (a:=a) (i:=i) (by omega) (fun j hj=>hok j hj) (.inr h)
  have hok2:pd d (byteAt s (a+i))=true->∀j,j<i+1->pd d (byteAt s (a+j))=true:=fun h j hj=>by
   by_cases e:j=i
   .rw[e];exact h
   .exact hok j (by omega)
  have hd:=hd (byteAt s (a+i));have hl:=hl (byteAt s (a+i));repeat first|simp[hlt,hwi,hlt2,hlt3,ht]|refine sR ?_
  rw[hbb];cases ed:digB (byteAt s (a+i))
  .rw[ed] at hd;cases d
   .cases el:letB (byteAt s (a+i))
    .rw[el] at hl;cases eu:(byteAt s (a+i)==95)
     .have hr:=hr (by simp[pd,ed,el,eu]);refine sD (hd _ _) ?_;simp;try (simp[hlt,hwi,hlt2,hlt3,ht])
      repeat ((first|refine sR ?_|refine sC ?_|refine sX ?_);simp[hlt,hwi,hlt2,hlt3,ht])
      rw[hbb];refine sD (hl _ _) ?_;simp;repeat first|simp[hlt,hwi,hlt2,hlt3,ht]|refine sR ?_
      rw[hbb];repeat first|simp[eu]|refine sR ?_|refine sC ?_
      refine sX ?_;simp only[AU,↓reduceIte];repeat first|simp|refine sR ?_
      refine sT (sH Hb Ht ?_);simp[hr]
     .have hv:=hok2 (by simp[pd,ed,el,eu]);refine sD (hd _ _) ?_;simp;try (simp[hlt,hwi,hlt2,hlt3,ht])
      repeat ((first|refine sR ?_|refine sC ?_|refine sX ?_);simp[hlt,hwi,hlt2,hlt3,ht])
      rw[hbb];refine sD (hl _ _) ?_;simp;repeat first|simp[hlt,hwi,hlt2,hlt3,ht]|refine sR ?_
      rw[hbb];repeat first|simp[eu]|refine sR ?_
      refine sC ?_;simp;repeat first|simp[hw]|refine sR ?_
      refine sE ?_;exact⟨i+1,⟨by omega,hv⟩,by omega,wM (nr _) rfl (by simp[ToL,lk]) trivial⟩
    .rw[el] at hl;have hv:=hok2 (by simp[pd,ed,el]);refine sD (hd _ _) ?_;simp;try (simp[hlt,hwi,hlt2,hlt3,ht])
     repeat ((first|refine sR ?_|refine sC ?_|refine sX ?_);simp[hlt,hwi,hlt2,hlt3,ht])
     rw[hbb];refine sD (hl _ _) ?_;repeat first|simp[hw]|refine sR ?_|refine sC ?_
     refine sE ?_;exact⟨i+1,⟨by omega,hv⟩,by omega,wM (nr _) rfl (by simp[ToL,lk]) trivial⟩
   .have hr:=hr (by simp[pd,ed]);refine sD (hd _ _) ?_;repeat first|simp|refine sR ?_|refine sC ?_
    refine sX ?_;simp only[AU,↓reduceIte];repeat first|simp|refine sR ?_
    refine sT (sH Hb Ht ?_);simp[hr]
  .rw[ed] at hd;have hv:=hok2 (by simp[pd,ed]);refine sD (hd _ _) ?_;repeat first|simp[hw]|refine sR ?_|refine sC ?_
   refine sE ?_;exact⟨i+1,⟨by omega,hv⟩,by omega,wM (nr _) rfl (by simp[ToL,lk]) trivial⟩
 .have hie:a+i=s.size:=by omega
  have hlt2:¬(a:Int)+i<s.size:=by omega
  have hr:=runN_eq (p:=pd d) (s:=s) (a:=a) (i:=i) (by omega) (fun j hj=>hok j hj) (.inl (by omega));repeat first|simp[hwi,hlt2]|refine sR ?_|refine sC ?_
  refine sX ?_;simp only[AU,↓reduceIte];repeat first|simp|refine sR ?_
  refine sT (sH Hb Ht ?_);simp[hr]
def stQA(s:ByteArray)(a:Nat)(nb:Nat)(box:Bxs)(tok:Tks)(nt:Nat)(i:Nat):AS:=⟨tl [(0,Sb s),(1,I a),(5,I i)],lb nb box [],tok,nt⟩
set_option maxRecDepth 100000 in
theorem quotedA_c(s:ByteArray)(a:Nat)(ha:a<s.size)(hs:s.size<=200000000000000):DC 253 [Sb s,I a] (I (quoT (dropB s a) 1)):=by
 intro tok nt box nb;have hds:=dropB_size s a;refine sI func253 ntmps253 fun Hb Ht=>?_
 repeat first|simp|refine sR ?_
 refine sN ?_;refine sL (stQA s a nb box tok nt) (fun i=>1<=i/\i<=s.size-a/\quoT (dropB s a) 1=quoT (dropB s a) i) (fun i=>s.size-i) 1 ⟨nr _,by omega,rfl⟩ (wM (nr _) rfl (by simp[ToL,lk]) trivial) ?_;rintro i S' ⟨h1,hi,hq⟩ hS;simp only[stQA] at hS;subst hS;have hw:=sW (i:=i) (by omega);have hwi:IntKind.i64.wrap ((a:Int)+i)=((a+i:Nat):Int):=by rw[wrap_in (by omega) (by omega)];rfl
 have hbd:=byteAt_drop s a i;by_cases hlt:a+i<s.size
 .have hbb:=byteAt_lt hlt;have hlt2:(a:Int)+i<s.size:=by omega
  have hlt3:(0:Int)<=a+i:=by omega
  have ht:((a:Int)+i).toNat=a+i:=by omega
  have hlt4:i<(dropB s a).size:=by omega
  repeat (first|simp[hlt,hwi,hlt2,hlt3,ht]|refine sR ?_)
  refine sC ?_
  repeat (first|simp[hlt,hwi,hlt2,hlt3,ht]|refine sR ?_)
  rw[hbb];by_cases e1:byteAt s (a+i)=34
  .have hr:=quoT_q hlt4 (hbd.trans e1);try (simp[e1,hw])
   repeat ((first|refine sR ?_|refine sC ?_|refine sX ?_);simp[e1,hw])
   refine sT (sH Hb Ht ?_);simp[hq,hr]
  .have b1:(byteAt s (a+i)==34)=false:=by simp[e1]
   by_cases e2:byteAt s (a+i)<32
   .have hr:=quoT_bad hlt4 (by rw[hbd];exact e1) (.inl (by rw[hbd];exact e2));try (simp[b1,e2])
    repeat ((first|refine sR ?_|refine sC ?_|refine sX ?_);simp[b1,e2])
    refine sT (sH Hb Ht ?_);simp[hq,hr]
   .by_cases e3:126<byteAt s (a+i)
    .have hr:=quoT_bad hlt4 (by rw[hbd];exact e1) (.inr (by rw[hbd];exact e3));try (simp[b1,e2,e3])
     repeat ((first|refine sR ?_|refine sC ?_|refine sX ?_);simp[b1,e2,e3])
     refine sT (sH Hb Ht ?_);simp[hq,hr]
    .have hr:=quoT_go hlt4 (by rw[hbd];exact e1) (by rw[hbd];omega);try (simp[b1,e2,e3,hw])
     repeat ((first|refine sR ?_|refine sC ?_|refine sX ?_);simp[b1,e2,e3,hw])
     refine sE ?_;exact⟨i+1,⟨by omega,by omega,hq.trans hr⟩,by omega,wM (nr _) rfl (by simp[ToL,lk]) trivial⟩
 .have hlt2:¬(a:Int)+i<s.size:=by omega
  have hr:=quoT_end (s:=dropB s a) (n:=i) (by omega);repeat first|simp[hwi,hlt2]|refine sR ?_|refine sC ?_
  refine sX ?_;simp only[AU,↓reduceIte];repeat first|simp|refine sR ?_
  refine sT (sH Hb Ht ?_);simp[hq,hr]
theorem oneR_drop(s:ByteArray)(a:Nat):oneR (dropB s a) =
 (if letB (byteAt s a)=true∨digB (byteAt s a)=true then
  (if (if digB (byteAt s a)=true then 9 else 20)<runN (pd (digB (byteAt s a))) s a then (0,⟨#[]⟩,0,3)
   else (if digB (byteAt s a)=true then 2 else 1,s.extract a (a+runN (pd (digB (byteAt s a))) s a),runN (pd (digB (byteAt s a))) s a,0))
 else if byteAt s a=34 then (if quoT (dropB s a) 1=0 then (0,⟨#[]⟩,0,2) else if 60<quoT (dropB s a) 1-2 then (0,⟨#[]⟩,0,3) else (3,s.extract (a+1) (a+((quoT (dropB s a) 1).toNat-1)),quoT (dropB s a) 1,0))
 else sgnT (dropB s a) signL:Int × ByteArray × Int × Int):=by
 unfold oneR;rw[byteAt_drop,runN_drop,cut_drop,cut_drop,Nat.add_zero]
def stSA(s:ByteArray)(a:Nat)(L:List ByteArray)(nb:Nat)(box:Bxs)(tok:Tks)(nt:Nat)(i:Nat):AS :=
 ⟨tl [(13,I i),(12,.d (strs L)),(4,.ptr (nb+4) 0 0),(0,Sb s),(1,I a)],lb nb box [(4,[[I 0,Sb ⟨#[]⟩,I 0]])],tok,nt⟩
set_option maxRecDepth 100000 in
theorem oneA_c(s:ByteArray)(a:Nat)(h0:a<s.size)(hs:s.size<=200000000000000):DC 191 [Sb s,I a] (.tup [.agg [I (oneR (dropB s a)).1,Sb (oneR (dropB s a)).2.1,I 0],I (oneR (dropB s a)).2.2.1,I (oneR (dropB s a)).2.2.2]):=by
 intro tok nt box nb;obtain⟨N,hN⟩:∃N,oneR (dropB s a)=N:=⟨_,rfl⟩
 rw[hN];rw[oneR_drop] at hN;have hds:=dropB_size s a;have hl:=letter01_c (byteAt s a);have hd:=digit01_c (byteAt s a);have hr:=fun d=>runA_c s a d (by omega) hs
 have hq:=quotedA_c s a h0 hs;have hqr:=quoT_rng (dropB s a) _ 1 rfl (nr _);have hsg:=signs01_c;have h0':(a:Int)<s.size:=by omega
 have hb:=byteAt_lt h0;have hrl:runN (pd (digB (byteAt s a))) s a<=s.size-a:=runN_le _ _ _
 cases ed:digB (byteAt s a)
 .rw[ed] at hd hrl hN;cases el:letB (byteAt s a)
  .rw[el] at hl hN;rw[if_neg (by simp)] at hN;refine sI func191 ntmps191 fun Hb Ht=>?_
   repeat first|simp[h0,h0']|refine sR ?_
   rw[hb];refine sD (hl _ _) ?_;repeat first|simp|refine sR ?_
   refine sD (hd _ _) ?_;repeat (first|simp|refine sR ?_)
   refine sC ?_
   repeat (first|simp|refine sR ?_)
   by_cases e3:byteAt s a=34
   .rw[if_pos e3] at hN;have b3:(byteAt s a==34)=true:=by simp[e3]
    generalize quoT (dropB s a) 1=q at *;try (simp[b3])
    repeat ((first|refine sR ?_|refine sC ?_|refine sX ?_);simp[b3])
    refine sD (hq _ _) ?_;simp;by_cases q0:q=0
    .have b4:(q==0)=true:=by simp[q0]
     rw[if_pos q0] at hN;try (simp[b4])
     repeat ((first|refine sR ?_|refine sC ?_|refine sX ?_);simp[b4])
     refine sT (sH Hb Ht ?_);simp[<-hN]
    .have b4:(q==0)=false:=by simp[q0]
     obtain⟨q1,q2⟩:=hqr.resolve_left q0;rw[if_neg q0] at hN;have w1:IntKind.i64.wrap (q-2)=q-2:=wrap_in (by omega) (by omega)
     have w2:IntKind.i64.wrap ((a:Int)+q)=a+q:=wrap_in (by omega) (by omega)
     have w3:IntKind.i64.wrap ((a:Int)+q-1)=a+q-1:=wrap_in (by omega) (by omega)
     have w4:IntKind.i64.wrap ((a:Int)+1)=a+1:=wrap_in (by omega) (by omega)
     by_cases q3:60<q-2
     .rw[if_pos q3] at hN;try (simp[b4,w1,q3])
      repeat ((first|refine sR ?_|refine sC ?_|refine sX ?_);simp[b4,w1,q3])
      refine sT (sH Hb Ht ?_);simp[<-hN]
     .rw[if_neg q3] at hN;have q4:(a:Int)+1<=a+q-1:=by omega
      have q5:(a:Int)+q-1<=s.size:=by omega
      have q6:a+1<=a+(q.toNat-1):=by omega
      have q7:a+(q.toNat-1)<=s.size:=by omega
      have q8:(0:Int)<=a+1:=by omega
      have q9:(0:Int)<=a+q-1:=by omega
      have t1:((a:Int)+1).toNat=a+1:=by omega
      have t2:((a:Int)+q-1).toNat=a+(q.toNat-1):=by omega
      try (simp[b4,w1,q3,w2,w3,w4,q4,q5,q6,q7,q8,q9,t1,t2])
      repeat ((first|refine sR ?_|refine sC ?_|refine sX ?_);simp[b4,w1,q3,w2,w3,w4,q4,q5,q6,q7,q8,q9,t1,t2])
      refine⟨by omega,?_⟩;repeat first|simp|refine sR ?_
      refine sT (sH Hb Ht ?_);simp[<-hN]
   .rw[if_neg e3] at hN;have b3:(byteAt s a==34)=false:=by simp[e3]
    try (simp[b3])
    repeat ((first|refine sR ?_|refine sC ?_|refine sX ?_);simp[b3])
    refine sD (hsg _ _) ?_;repeat first|simp|refine sR ?_
    refine sN ?_;refine sL (stSA s a signL nb box tok nt) (fun i=>i<=signL.length/\sgnT (dropB s a) signL=sgnT (dropB s a) (signL.drop i)) (fun i=>signL.length-i) 0 ⟨Nat.zero_le _,rfl⟩ wkA ?_;rintro i S' ⟨hi,hsq⟩ hS;simp only[stSA] at hS;subst hS;have hlen:signL.length<=1000:=by decide
    have hmax:∀x∈signL,x.size<=2:=by decide
    generalize signL=L at *;have hw:=sW (i:=i) (by omega);repeat first|simp|refine sR ?_|refine sC ?_
    refine⟨fun hlt=>?_,fun hge=>?_⟩
    .have hx:=hmax _ (List.getElem_mem hlt);have hdr:L.drop i=L[i]::L.drop (i+1):=List.drop_eq_getElem_cons hlt
     have hwx:IntKind.i64.wrap ((a:Int)+(L[i].size:Int))=((a+L[i].size:Nat):Int):=by rw[wrap_in (by omega) (by omega)];rfl
     have hce:(dropB s a).extract 0 L[i].size=s.extract a (a+L[i].size):=cut_drop s a 0 _
     rw[hdr,sgnT_cons,hce] at hsq;by_cases c1:a+L[i].size<=s.size
     .have c1':(a:Int)+(L[i].size:Int)<=s.size:=by omega
      have c0:(0:Int)<=(a:Int)+(L[i].size:Int):=by omega
      have ct:((a:Int)+(L[i].size:Int)).toNat=a+L[i].size:=by omega
      have cl:(a:Int)<=(a:Int)+(L[i].size:Int):=by omega
      by_cases c2:s.extract a (a+L[i].size)=L[i]
      .have b2:((s.extract a (a+L[i].size)).toList==L[i].toList)=true:=by rw[seq_dec];simp[c2]
       rw[if_pos ⟨by omega,c2⟩] at hsq;repeat first|simp[hlt,hwx,c0,ct,cl,c1,c1',b2]|refine sR ?_
       refine sC ?_;simp[hlt,hwx,c0,ct,cl,c1,c1',b2]
       refine sN ?_;refine AL.region2 follows_Tryz (nr _) (by kernel_rfl) (Side.of (by simp)) ?_;simp[hlt];refine sT (sH Hb Ht ?_);simp[hsq,<-hN]
      .have b2:((s.extract a (a+L[i].size)).toList==L[i].toList)=false:=by rw[seq_dec];simp[c2]
       rw[if_neg fun h=>c2 h.2] at hsq;repeat first|simp[hlt,hwx,c0,ct,cl,c1,c1',b2]|refine sR ?_
       refine sC ?_;simp;repeat first|simp[hw]|refine sR ?_
       refine sE ?_;exact⟨i+1,⟨hlt,hsq⟩,by omega,wkA⟩
     .have c1':¬(a:Int)+(L[i].size:Int)<=s.size:=by omega
      rw[if_neg fun h=>by have:=h.1;omega] at hsq;repeat first|simp[hlt,hwx,c1']|refine sR ?_
      refine sC ?_;simp;repeat first|simp[hw]|refine sR ?_
      refine sE ?_;exact⟨i+1,⟨hlt,hsq⟩,by omega,wkA⟩
    .refine sX ?_;simp only[AU,↓reduceIte];repeat first|simp|refine sR ?_
     have hie:i=L.length:=by omega
     rw[hie,List.drop_length] at hsq;refine sT (sH Hb Ht ?_);simp[<-hN,hsq,sgnT]
  .rw[el] at hl hN;rw[if_pos (by simp)] at hN;have hr:=hr false;generalize runN (pd false) s a=n at *;refine sI func191 ntmps191 fun Hb Ht=>?_
   repeat first|simp[h0,h0']|refine sR ?_
   rw[hb];refine sD (hl _ _) ?_;simp;try (simp)
   repeat ((first|refine sR ?_|refine sC ?_|refine sX ?_);simp)
   refine sD (hd _ _) ?_;simp;try (simp)
   repeat ((first|refine sR ?_|refine sC ?_|refine sX ?_);simp)
   refine sD (hr _ _) ?_;simp;try (simp)
   repeat ((first|refine sR ?_|refine sC ?_|refine sX ?_);simp)
   refine sD (hd _ _) ?_;repeat first|simp|refine sR ?_
   refine sC ?_;repeat first|simp|refine sR ?_
   simp only[Bool.false_eq_true,if_false] at hN;by_cases e3:20<n
   .have e4:(20:Int)<n:=by omega
    rw[if_pos e3] at hN;try (simp[e4])
    repeat ((first|refine sR ?_|refine sC ?_|refine sX ?_);simp[e4])
    refine sT (sH Hb Ht ?_);simp[<-hN]
   .have e4:¬(20:Int)<n:=by omega
    rw[if_neg e3] at hN;have hwn:IntKind.i64.wrap ((a:Int)+n)=((a+n:Nat):Int):=by rw[wrap_in (by omega) (by omega)];rfl
    have hns:(a:Int)+n<=s.size:=by omega
    have hns2:a+n<=s.size:=by omega
    have hn0:(0:Int)<=(a:Int)+n:=by omega
    have hnl:(a:Int)<=(a:Int)+n:=by omega
    have hnt:((a:Int)+n).toNat=a+n:=by omega
    try (simp[e4,hwn,hns,hns2,hn0,hnl,hnt])
    repeat ((first|refine sR ?_|refine sC ?_|refine sX ?_);simp[e4,hwn,hns,hns2,hn0,hnl,hnt])
    refine sT (sH Hb Ht ?_);simp[<-hN]
 .rw[ed] at hd hrl hN;have el:letB (byteAt s a)=false:=by
   have:=ed
   unfold digB at this;unfold letB;simp only[decide_eq_true_eq,decide_eq_false_iff_not] at this ⊢;omega
  rw[el] at hl;rw[if_pos (by simp)] at hN;have hr:=hr true;generalize runN (pd true) s a=n at *;refine sI func191 ntmps191 fun Hb Ht=>?_
  repeat first|simp[h0,h0']|refine sR ?_
  rw[hb];refine sD (hl _ _) ?_;simp;try (simp)
  repeat ((first|refine sR ?_|refine sC ?_|refine sX ?_);simp)
  refine sD (hd _ _) ?_;simp;try (simp)
  repeat ((first|refine sR ?_|refine sC ?_|refine sX ?_);simp)
  refine sD (hd _ _) ?_;simp;try (simp)
  repeat ((first|refine sR ?_|refine sC ?_|refine sX ?_);simp)
  refine sD (hr _ _) ?_;simp;try (simp)
  repeat ((first|refine sR ?_|refine sC ?_|refine sX ?_);simp)
  refine sD (hd _ _) ?_;repeat first|simp|refine sR ?_
  refine sC ?_;repeat first|simp|refine sR ?_
  simp only[if_true] at hN;by_cases e3:9<n
  .have e4:(9:Int)<n:=by omega
   rw[if_pos e3] at hN;try (simp[e4])
   repeat ((first|refine sR ?_|refine sC ?_|refine sX ?_);simp[e4])
   refine sT (sH Hb Ht ?_);simp[<-hN]
  .have e4:¬(9:Int)<n:=by omega
   rw[if_neg e3] at hN;have hwn:IntKind.i64.wrap ((a:Int)+n)=((a+n:Nat):Int):=by rw[wrap_in (by omega) (by omega)];rfl
   have hns:(a:Int)+n<=s.size:=by omega
   have hns2:a+n<=s.size:=by omega
   have hn0:(0:Int)<=(a:Int)+n:=by omega
   have hnl:(a:Int)<=(a:Int)+n:=by omega
   have hnt:((a:Int)+n).toNat=a+n:=by omega
   try (simp[e4,hwn,hns,hns2,hn0,hnl,hnt])
   repeat ((first|refine sR ?_|refine sC ?_|refine sX ?_);simp[e4,hwn,hns,hns2,hn0,hnl,hnt])
   refine sT (sH Hb Ht ?_);simp[<-hN]
end Go.AM
