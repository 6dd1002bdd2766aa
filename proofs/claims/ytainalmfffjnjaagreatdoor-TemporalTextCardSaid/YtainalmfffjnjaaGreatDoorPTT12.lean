/-
 Parts of the proof, as merged from many texts: a machine over data, what the functions compute, plain laws.
-/
import Derived.Test.YtainalmfffjnjaaGreatDoorPTT11
set_option linter.unusedSimpArgs false
set_option linter.unusedVariables false
namespace Go.AM
open Go Go.Proofs
open Go.Proofs.Tryz
def llB(L:List (List Bool)):List (List D):=L.map fun b=>[bools b]
@[simp] theorem llB_len(L:List (List Bool)):(llB L).length=L.length:=by simp[llB]
theorem llB_at{L:List (List Bool)}{i:Nat}(h:i<L.length):(llB L)[i]?=some [bools L[i]]:=by simp[llB,h]
def pI(A B:List Bool)(i:Nat):List Bool:=A.take i++B.drop i
theorem pI_zero(A B:List Bool):pI A B 0=B:=by simp[pI]
theorem pI_all{A B:List Bool}(h:A.length=B.length):pI A B B.length=A:=by
 unfold pI;rw[List.drop_length,List.append_nil];exact List.take_of_length_le (by omega)
theorem pI_len{A B:List Bool}{i:Nat}(h:A.length=B.length)(hi:i<=B.length):(pI A B i).length=B.length:=by simp[pI];omega
theorem pI_at{A B:List Bool}{i:Nat}(h:A.length=B.length)(hi:i<B.length):∀h2:i<(pI A B i).length,(pI A B i)[i]=B[i]:=by
 intro h2;have hl:(A.take i).length=i:=by simp;omega
 have hh:(pI A B i)[i]?=some B[i]:=by
  unfold pI;rw[List.getElem?_append_right (by omega)];simp[hl,hi]
 rw[List.getElem?_eq_getElem h2] at hh;exact Option.some.inj hh
theorem pI_succ{A B:List Bool}{i:Nat}(h:A.length=B.length)(hi:i<B.length)(h1:i<A.length){v:Bool}(hv:A[i]=v):(pI A B i).set i v=pI A B (i+1):=by
 subst hv;unfold pI;have hl:(A.take i).length=i:=by simp;omega
 rw[List.set_append_right _ _ (by omega),hl,Nat.sub_self,List.drop_eq_getElem_cons hi,List.set_cons_zero,List.take_succ_eq_append_getElem h1,List.append_assoc];rfl
theorem zipB_len{k:Int}{a b:List Bool}(h:a.length=b.length):(zipB k a b).length=a.length:=by simp[zipB,h]
theorem zipB_at{k:Int}{a b:List Bool}{i:Nat}(h1:i<(zipB k a b).length)(h2:i<a.length)(h3:i<b.length):(zipB k a b)[i]=if k=3 then a[i]&&b[i] else a[i]||b[i]:=by simp[zipB]
def stHo(f:Fo)(m:Mdl)(T:List (List Bool))(x:List Bool)(n:Nat)(R:List (List AV))(nb:Nat)(box:Bxs)(tok:Tks)(nt:Nat)(j:Nat):AS :=
 ⟨tl [(52,I j),(51,I T.length),(50,.d (.sl 1 (llB T))),(9,.msl (nb+9) 0 n 1),(3,.ptr (nb+3) 0 0)],lb nb box [(9,rowsB ((T.take j).foldl (zipB f.kind) x)++R),(3,[f.row])],tok,nt⟩
def stHi(f:Fo)(m:Mdl)(T:List (List Bool))(y:List Bool)(A B:List Bool)(n:Nat)(R:List (List AV))(nb:Nat)(box:Bxs)(tok:Tks)(nt:Nat)(j:Nat)(i:Nat):AS :=
 ⟨tl [(58,I i),(57,I n),(11,.d (bools y)),(52,I j),(51,I T.length),(50,.d (.sl 1 (llB T))),(9,.msl (nb+9) 0 n 1),(3,.ptr (nb+3) 0 0)],lb nb box [(9,rowsB (pI A B i)++R),(3,[f.row])],tok,nt⟩
structure HlA where
 i:Nat
 sz:Nat
 own:Own
 tok:Nat->Bool
 nt:Nat
def stHl(m:Mdl)(f:Fo)(L:List (List Bool))(nb:Nat)(box:Bxs)(a:HlA):AS :=
 ⟨tl [(22,.d (fos f.kids)),(23,I f.kids.length),(24,I a.i),(5,.osl a.sz (llB (L.take a.i)) a.own),(3,.ptr (nb+3) 0 0),(2,.ptr (nb+2) 0 0)],lb nb box [(3,[f.row]),(2,[m.row])],a.tok,a.nt⟩
theorem atom_get{m:Mdl}{s:ByteArray}(h:∃a∈m.atoms,a.1=s):mpdGet (m.atoms.map fun a=>(a.1,rBo a.2)) s=.d (bools (atomR m.atoms s)):=by
 unfold mpdGet atomR;rw[List.find?_map];have:((fun e:ByteArray × List (List D)=>decide (e.1=s)) ∘ fun a:ByteArray × List Bool=>(a.1,rBo a.2))=fun e=>decide (e.1=s):=rfl
 rw[this];cases e:m.atoms.find? fun e=>decide (e.1=s) with
 | some a=>simp
 | none =>
  obtain⟨a,ha,rfl⟩:=h;have:=List.find?_eq_none.1 e a ha
  simp at this
set_option maxRecDepth 100000 in
theorem holdsT_c(m:Mdl)(n:Nat)(hm:m.Ok n):∀(b:Nat) (f:Fo),f.size<b->f.size<=1000000->f.Hok m->∀(tok:Tks) (nt:Nat),DCall prog 92 [m.av,f.av] tok nt (.d (bools (f.holds m))) tok nt
 | 0,f,hb,_,_,tok,nt=>absurd hb (Nat.not_lt_zero _)
 | b+1,f,hb,hsz,hf,tok,nt=>by
  intro box nb;have ih:=fun x (hx:x∈f.kids)=>holdsT_c m n hm b x (by have:=Fo.kid_size hx;omega) (by have:=Fo.kid_size hx;omega) (hf.kid hx)
  have hln:=fun x (hx:x∈f.kids)=>Fo.holds_len hm b x (by have:=Fo.kid_size hx;omega) (hf.kid hx)
  have hkl:=f.kids_len;have hle:=hm.le;obtain⟨ho1,ho2,ho3⟩:=hf.one;have hmt:mapT prog 178=true:=by kernel_rfl
  obtain⟨Res,hRes⟩:∃Res,f.holds m=Res:=⟨_,rfl⟩
  rw[hRes];rw[Fo.holds_eq] at hRes;obtain⟨L,hL⟩:∃L,f.kids.map (Fo.holds m)=L:=⟨_,rfl⟩
  have hLl:L.length=f.kids.length:=by rw[<-hL];simp
  have hLn:∀x∈L,x.length=n:=by
   intro x hx;rw[<-hL] at hx;obtain⟨y,hy,rfl⟩:=List.mem_map.1 hx;exact hln y hy
  have hLi:∀i (h:i<f.kids.length) (h2:i<L.length),L[i]=f.kids[i].holds m:=by
   intro i h h2;subst hL;simp
  rw[hL] at hRes;refine sI func92 ntmps92 fun Hb Ht=>?_
  by_cases c1:f.kind=1
  .have b1:(f.kind==1)=true:=by simpa using c1
   have hget:=atom_get (ho1 c1);unfold holdV at hRes;rw[if_pos c1] at hRes;rw[hRes] at hget;try (simp[b1,hmt,hget])
   repeat (first|(refine sR ?_;simp[b1,hmt,hget])|(refine sC ?_;simp[b1,hmt,hget])|(refine sX ?_;simp only[AU,↓reduceIte]))
   refine sT (sH Hb Ht ?_);simp
  have b1:(f.kind==1)=false:=by simpa using c1
  have ho2:=ho2 c1;have ho3:=ho3 c1;try (simp[b1])
  repeat (first|(refine sR ?_;simp[b1])|(refine sC ?_;simp[b1])|(refine sX ?_;simp only[AU,↓reduceIte]))
  refine sN ?_;refine sL (stHl m f L nb box) (fun a=>a.i<=f.kids.length/\TK tok nt a.tok a.nt [a.own]/\((a.sz=1/\∃t,a.own=.tok t)∨a.i=0/\a.own=.full)) (fun a=>f.kids.length-a.i) ⟨0,0,.full,tok,nt⟩ ⟨Nat.zero_le _,(TK.start Ht).full,.inr ⟨rfl,rfl⟩⟩ (wM (nr _) rfl (by simp[ToL,lk,llB]) (by simp[BoxL,lk])) ?_;rintro⟨i,sz,own,tok3,nt3⟩ S ⟨hi,htk,hsz2⟩ hS;simp only[stHl] at hS hi htk hsz2;subst hS;have hw:=sW (i:=i) (by omega);repeat first|simp|refine sR ?_|refine sC ?_
  refine⟨fun hlt=>?_,fun hge=>?_⟩
  .have ihx:=ih _ (List.getElem_mem hlt);have hlt2:i<L.length:=by omega
   have hLx:=hLi i hlt hlt2;have htk1:llB (L.take (i+1))=llB (L.take i)++[[bools L[i]]]:=by
    unfold llB;rw[List.take_succ_eq_append_getElem hlt2,List.map_append];rfl
   rw[<-hLx] at ihx;repeat first|simp[hlt,Fo.cells_eq]|refine sR ?_
   generalize f.kids[i]=x at *;repeat first|simp|refine sR ?_
   refine sD (ihx _ _) ?_;simp;refine⟨⟨hsz2.imp (fun h=>h.1) (fun h=>⟨by simp[h.1,llB],h.2⟩),by omega,htk.live⟩,?_⟩;try (simp[hw])
   repeat (first|(refine sR ?_;simp[hw])|(refine sC ?_;simp[hw])|(refine sX ?_;simp only[AU,↓reduceIte]))
   refine sE ?_;exact⟨⟨i+1,1,.tok nt3,_,nt3+1⟩,⟨hlt,htk.app,.inl ⟨rfl,_,rfl⟩⟩,by simp only;omega,wM (Nat.le_succ_of_le htk.le) rfl (by simp[ToL,lk,htk1]) (by simp[BoxL,lk])⟩
  .refine sX ?_;simp only[AU,↓reduceIte];have:i=f.kids.length:=by omega
   subst this;have hLt:L.take f.kids.length=L:=List.take_of_length_le (by omega)
   rw[hLt];obtain⟨rfl,t,rfl⟩:sz=1/\∃t,own=.tok t:=by
    rcases hsz2 with h|h
    .exact h
    .omega
   obtain⟨x,hx⟩:∃x,L.headD []=x:=⟨_,rfl⟩
   have hL0:0<L.length:=by omega
   have hx0:L[0]=x:=by
    rw[<-hx]
    match L,hL0 with
    | a::r,_=>rfl
   have hxn:x.length=n:=by rw[<-hx0];exact hLn _ (List.getElem_mem hL0)
   have h0:(llB L)[0]?=some [bools x]:=by rw[llB_at hL0,hx0]
   have h0v:∀h:0<(llB L).length,(llB L)[0]=[bools x]:=fun h=>by
    have:=h0
    rw[List.getElem?_eq_getElem h] at this;exact Option.some.inj this
   have hmx:m.Ok x.length:=by rw[hxn];exact hm
   unfold holdV at hRes;rw[hx,if_neg c1] at hRes;refine AL.weak (wM (l':=[(5,.d (.sl 1 (llB L))),(3,.ptr (nb+3) 0 0),(2,.ptr (nb+2) 0 0)]) (loc':=[(3,[f.row]),(2,[m.row])]) htk.le rfl (by simp[ToL,lk]) (by simp[BoxL,lk])) ?_;have hnt:=notT_c x (by omega);by_cases c2:f.kind=2
   .have b2:(f.kind==2)=true:=by simpa using c2
    rw[if_pos c2] at hRes;try (simp[h0v,hL0,b2])
    repeat (first|(refine sR ?_;simp[h0v,hL0,b2])|(refine sC ?_;simp[h0v,hL0,b2])|(refine sX ?_;simp only[AU,↓reduceIte]))
    refine sD (hnt _ _) ?_;simp;try (simp[hRes])
    repeat (first|(refine sR ?_;simp[hRes])|(refine sC ?_;simp[hRes])|(refine sX ?_;simp only[AU,↓reduceIte]))
    refine sT (sG Hb Ht htk.old htk.le ?_);simp
   have b2:(f.kind==2)=false:=by simpa using c2
   rw[if_neg c2] at hRes;by_cases c34:f.kind=3∨f.kind=4
   .have hxne:x≠[]:=fun h=>by
     have:=hm.pos
     rw[h] at hxn;simp at hxn;omega
    have hcl:=cloneB_c x hxne (by omega) tok3 nt3;rw[if_pos c34] at hRes;have hLge:1<=L.length:=hL0
    obtain⟨T,hT⟩:∃T,L.tail=T:=⟨_,rfl⟩
    have hTl:L.length-1=T.length:=by rw[<-hT];simp
    have hTn:∀z∈T,z.length=n:=fun z hz=>hLn z (List.mem_of_mem_tail (by rw[hT];exact hz))
    have hst:(List.take L.length (llB L)).tail=llB T:=by
     rw[List.take_of_length_le (by simp)];rw[<-hT];simp[llB]
    rw[hT] at hRes;by_cases c3:f.kind=3
    .have b3:(f.kind==3)=true:=by simpa using c3
     try (simp[h0v,hL0,b2,b3])
     repeat (first|(refine sR ?_;simp[h0v,hL0,b2,b3])|(refine sC ?_;simp[h0v,hL0,b2,b3])|(refine sX ?_;simp only[AU,↓reduceIte]))
     refine sD (hcl) ?_;simp;try (simp[hL0,hst,hTl,hLge])
     repeat (first|(refine sR ?_;simp[hL0,hst,hTl,hLge])|(refine sC ?_;simp[hL0,hst,hTl,hLge])|(refine sX ?_;simp only[AU,↓reduceIte]))
     have htk0:TK tok nt (upd (upd (upd tok3 nt3 true) nt3 false) (nt3+1) true) (nt3+2) [.tok (nt3+1),.tok t]:=htk.full.app.app
     generalize (upd (upd (upd tok3 nt3 true) nt3 false) (nt3+1) true)=tok1 at *;refine AL.thawS (l':=[(52,I 0),(51,I T.length),(50,.d (.sl 1 (llB T))),(49,.bot),(9,.msl (nb+9) 0 x.length 1),(48,.bot),(47,.bot),(44,.bot),(45,.bot),(40,.bot),(41,.bot),(39,.bot),(38,.bot),(8,.bot),(37,.bot),(36,.bot),(35,.bot),(5,.bot),(3,.ptr (nb+3) 0 0),(2,.bot)]) (loc':=[(3,[f.row]),(2,[m.row])]) (nt3+1) 9 1 (rBo x) 9 rfl (show (9:Nat)<149 by decide) rfl htk0.live (by simpa using hxne) rfl (by simp[CvL]) (cvB_refl (fun _=>.same) _) ?_;intro mm;rw[rowsD_Bo];have hro:=fun xs=>rowsBX_to xs mm
     generalize hRm:List.replicate mm (List.replicate 1 AV.bot)=R at *;have htk1:TK tok nt (upd tok1 (nt3+1) false) (nt3+2) [.full]:=by
      have:=htk0
      refine(TK.full ⟨fun t ht=>?_,this.lt,this.le,by simp,.nil⟩);have hlt:=Ht t ht;have:=htk.le
      rw[uO _ _ (by omega)];exact htk0.old t ht
     generalize upd tok1 (nt3+1) false=tok2 at *;generalize hnt2:nt3+2=nt2 at *;refine sN ?_;refine sL (stHo f m T x x.length R nb box tok2 nt2) (fun j=>j<=T.length) (fun j=>T.length-j) 0 (Nat.zero_le _) (wM htk1.le rfl (by simp[ToL,lk]) (by simp[BoxL,lk];exact hro _ _ _ _)) ?_;rintro j S hj hS;simp only[stHo] at hS;subst hS;have hw:=sW (i:=j) (by omega);have hcl2:=zipF_len f.kind n (T.take j) x hxn fun z hz=>hTn z (List.mem_of_mem_take hz)
     repeat first|simp|refine sR ?_|refine sC ?_
     refine⟨fun hlt=>?_,fun hge=>?_⟩
     .have hyv:∀h:j<(llB T).length,(llB T)[j]=[bools T[j]]:=fun h=>by
       have:=llB_at hlt
       rw[List.getElem?_eq_getElem h] at this;exact Option.some.inj this
      have hyn:=hTn _ (List.getElem_mem hlt);have hfs:(T.take (j+1)).foldl (zipB f.kind) x=zipB f.kind ((T.take j).foldl (zipB f.kind) x) T[j]:=by
       rw[List.take_succ_eq_append_getElem hlt,List.foldl_append];rfl
      repeat first|simp[hlt,hyv]|refine sR ?_
      generalize (T.take j).foldl (zipB f.kind) x=cur at *;generalize T[j]=y at *;have hAl:=zipB_len (k:=f.kind) (show cur.length=y.length by omega);have hAt:=fun i=>zipB_at (k:=f.kind) (a:=cur) (b:=y) (i:=i)
      rw[c3] at hAt hAl;rw[c3] at hfs;generalize hA:zipB 3 cur y=A at *;rw[<-c3] at hfs;refine sN ?_;refine sL (stHi f m T y A cur x.length R nb box tok2 nt2 j) (fun i=>i<=x.length) (fun i=>x.length-i) 0 (Nat.zero_le _) (wM htk1.le rfl (by simp[ToL,lk]) (by simp[BoxL,lk,pI_zero];exact hro _ _ _ _)) ?_;rintro i S hi hS;simp only[stHi] at hS;subst hS;have hw2:=sW (i:=i) (by omega);repeat first|simp|refine sR ?_|refine sC ?_
      refine⟨fun hlt2=>?_,fun hge2=>?_⟩
      .have hi1:i<cur.length:=by omega
       have hi2:i<y.length:=by omega
       have hi3:i<(pI A cur i).length:=by rw[pI_len hAl (by omega)];exact hi1
       have hi4:i<A.length:=by omega
       have hat:=pI_at hAl hi1 hi3;have hrg:=rowsBX_get hi3 R;have hrs:=fun v=>rowsBX_set (pI A cur i) i hi3 v R
       have hsu:=fun v=>pI_succ (v:=v) hAl hi1 hi4
       have hAi:=hAt i hi4 hi1 hi2;rw[hat] at hrg;simp only[↓reduceIte] at hAi;cases e1:cur[i]
       .rw[e1] at hAi;simp only[Bool.false_and] at hAi;have hsv:=hsu _ hAi;try (simp[hlt2,b3,hi1,hi2,hi3,hrg,e1,hrs,hsv,hw2])
        repeat (first|(refine sR ?_;simp[hlt2,b3,hi1,hi2,hi3,hrg,e1,hrs,hsv,hw2])|(refine sC ?_;simp[hlt2,b3,hi1,hi2,hi3,hrg,e1,hrs,hsv,hw2])|(refine sX ?_;simp only[AU,↓reduceIte]))
        refine sE ?_;exact⟨i+1,hlt2,by omega,wM htk1.le rfl (by simp[ToL,lk]) (by simp[BoxL,lk];exact hro _ _ _ _)⟩
       .rw[e1] at hAi;simp only[Bool.true_and] at hAi;have hsv:=hsu _ hAi;try (simp[hlt2,b3,hi1,hi2,hi3,hrg,e1,hrs,hsv,hw2])
        repeat (first|(refine sR ?_;simp[hlt2,b3,hi1,hi2,hi3,hrg,e1,hrs,hsv,hw2])|(refine sC ?_;simp[hlt2,b3,hi1,hi2,hi3,hrg,e1,hrs,hsv,hw2])|(refine sX ?_;simp only[AU,↓reduceIte]))
        refine sE ?_;exact⟨i+1,hlt2,by omega,wM htk1.le rfl (by simp[ToL,lk]) (by simp[BoxL,lk];exact hro _ _ _ _)⟩
      .refine sX ?_;simp only[AU,↓reduceIte];have:i=x.length:=by omega
       subst this;have hpa:=pI_all hAl;rw[show cur.length=x.length by omega] at hpa;rw[hpa];try (simp[hw])
       repeat (first|(refine sR ?_;simp[hw])|(refine sC ?_;simp[hw])|(refine sX ?_;simp only[AU,↓reduceIte]))
       refine sE ?_;exact⟨j+1,hlt,by omega,wM htk1.le rfl (by simp[ToL,lk]) (by simp[BoxL,lk,hfs];exact hro _ _ _ _)⟩
     .refine sX ?_;simp only[AU,↓reduceIte];have:j=T.length:=by omega
      subst this;rw[List.take_length] at hcl2 ⊢;rw[hRes] at hcl2 ⊢;try (simp)
      repeat (first|(refine sR ?_;simp)|(refine sC ?_;simp)|(refine sX ?_;simp only[AU,↓reduceIte]))
      refine AL.weak (wM (l':=[(4,.msl (nb+9) 0 x.length 1)]) (loc':=[(9,rowsD (rBo Res)++R)]) htk1.le rfl (by simp[ToL,lk,lb_at]) (by rw[rowsD_Bo];simp only[BoxL,lk_cons,↓reduceIte,and_true];exact⟨_,rfl,hro _ _ _ _⟩)) ?_;have hes:(rBo Res).length=x.length:=by simp;omega
      refine AL.trans (Trans.sealD (l:=[(4,.msl (nb+9) 0 x.length 1)]) (l':=[(4,.d (bools Res))]) (loc:=[]) (loc':=[]) 9 1 (rBo Res) R 4 rfl (fun e he=>by obtain⟨b,_,rfl⟩:=List.mem_map.1 he;rfl) (by rw[hes];rfl) rfl ⟨rfl,by have:=@SpTo.msl (nb+9) 1 (rBo Res);rw[hes] at this;exact this,trivial⟩ trivial) ?_;refine sT (sG Hb Ht htk1.old htk1.le ?_);simp
    .have c4:f.kind=4:=c34.resolve_left c3
     have b3:(f.kind==3)=false:=by simpa using c3
     have b4:(f.kind==4)=true:=by simpa using c4
     try (simp[h0v,hL0,b2,b3,b4])
     repeat (first|(refine sR ?_;simp[h0v,hL0,b2,b3,b4])|(refine sC ?_;simp[h0v,hL0,b2,b3,b4])|(refine sX ?_;simp only[AU,↓reduceIte]))
     refine sD (hcl) ?_;simp;try (simp[hL0,hst,hTl,hLge])
     repeat (first|(refine sR ?_;simp[hL0,hst,hTl,hLge])|(refine sC ?_;simp[hL0,hst,hTl,hLge])|(refine sX ?_;simp only[AU,↓reduceIte]))
     have htk0:TK tok nt (upd (upd (upd tok3 nt3 true) nt3 false) (nt3+1) true) (nt3+2) [.tok (nt3+1),.tok t]:=htk.full.app.app
     generalize (upd (upd (upd tok3 nt3 true) nt3 false) (nt3+1) true)=tok1 at *;refine AL.thawS (l':=[(52,I 0),(51,I T.length),(50,.d (.sl 1 (llB T))),(49,.bot),(9,.msl (nb+9) 0 x.length 1),(48,.bot),(47,.bot),(44,.bot),(46,.bot),(44,.bot),(45,.bot),(40,.bot),(41,.bot),(39,.bot),(38,.bot),(8,.bot),(37,.bot),(36,.bot),(35,.bot),(5,.bot),(3,.ptr (nb+3) 0 0),(2,.bot)]) (loc':=[(3,[f.row]),(2,[m.row])]) (nt3+1) 9 1 (rBo x) 9 rfl (show (9:Nat)<149 by decide) rfl htk0.live (by simpa using hxne) rfl (by simp[CvL]) (cvB_refl (fun _=>.same) _) ?_;intro mm;rw[rowsD_Bo];have hro:=fun xs=>rowsBX_to xs mm
     generalize hRm:List.replicate mm (List.replicate 1 AV.bot)=R at *;have htk1:TK tok nt (upd tok1 (nt3+1) false) (nt3+2) [.full]:=by
      have:=htk0
      refine(TK.full ⟨fun t ht=>?_,this.lt,this.le,by simp,.nil⟩);have hlt:=Ht t ht;have:=htk.le
      rw[uO _ _ (by omega)];exact htk0.old t ht
     generalize upd tok1 (nt3+1) false=tok2 at *;generalize hnt2:nt3+2=nt2 at *;refine sN ?_;refine sL (stHo f m T x x.length R nb box tok2 nt2) (fun j=>j<=T.length) (fun j=>T.length-j) 0 (Nat.zero_le _) (wM htk1.le rfl (by simp[ToL,lk]) (by simp[BoxL,lk];exact hro _ _ _ _)) ?_;rintro j S hj hS;simp only[stHo] at hS;subst hS;have hw:=sW (i:=j) (by omega);have hcl2:=zipF_len f.kind n (T.take j) x hxn fun z hz=>hTn z (List.mem_of_mem_take hz)
     repeat first|simp|refine sR ?_|refine sC ?_
     refine⟨fun hlt=>?_,fun hge=>?_⟩
     .have hyv:∀h:j<(llB T).length,(llB T)[j]=[bools T[j]]:=fun h=>by
       have:=llB_at hlt
       rw[List.getElem?_eq_getElem h] at this;exact Option.some.inj this
      have hyn:=hTn _ (List.getElem_mem hlt);have hfs:(T.take (j+1)).foldl (zipB f.kind) x=zipB f.kind ((T.take j).foldl (zipB f.kind) x) T[j]:=by
       rw[List.take_succ_eq_append_getElem hlt,List.foldl_append];rfl
      repeat first|simp[hlt,hyv]|refine sR ?_
      generalize (T.take j).foldl (zipB f.kind) x=cur at *;generalize T[j]=y at *;have hAl:=zipB_len (k:=f.kind) (show cur.length=y.length by omega);have hAt:=fun i=>zipB_at (k:=f.kind) (a:=cur) (b:=y) (i:=i)
      rw[c4] at hAt hAl;rw[c4] at hfs;generalize hA:zipB 4 cur y=A at *;rw[<-c4] at hfs;refine sN ?_;refine sL (stHi f m T y A cur x.length R nb box tok2 nt2 j) (fun i=>i<=x.length) (fun i=>x.length-i) 0 (Nat.zero_le _) (wM htk1.le rfl (by simp[ToL,lk]) (by simp[BoxL,lk,pI_zero];exact hro _ _ _ _)) ?_;rintro i S hi hS;simp only[stHi] at hS;subst hS;have hw2:=sW (i:=i) (by omega);repeat first|simp|refine sR ?_|refine sC ?_
      refine⟨fun hlt2=>?_,fun hge2=>?_⟩
      .have hi1:i<cur.length:=by omega
       have hi2:i<y.length:=by omega
       have hi3:i<(pI A cur i).length:=by rw[pI_len hAl (by omega)];exact hi1
       have hi4:i<A.length:=by omega
       have hat:=pI_at hAl hi1 hi3;have hrg:=rowsBX_get hi3 R;have hrs:=fun v=>rowsBX_set (pI A cur i) i hi3 v R
       have hsu:=fun v=>pI_succ (v:=v) hAl hi1 hi4
       have hAi:=hAt i hi4 hi1 hi2;rw[hat] at hrg;simp only[show ¬(4:Int)=3 by decide,↓reduceIte] at hAi;cases e1:cur[i]
       .rw[e1] at hAi;simp only[Bool.false_or] at hAi;have hsv:=hsu _ hAi;try (simp[hlt2,b3,hi1,hi2,hi3,hrg,e1,hrs,hsv,hw2])
        repeat (first|(refine sR ?_;simp[hlt2,b3,hi1,hi2,hi3,hrg,e1,hrs,hsv,hw2])|(refine sC ?_;simp[hlt2,b3,hi1,hi2,hi3,hrg,e1,hrs,hsv,hw2])|(refine sX ?_;simp only[AU,↓reduceIte]))
        refine sE ?_;exact⟨i+1,hlt2,by omega,wM htk1.le rfl (by simp[ToL,lk]) (by simp[BoxL,lk];exact hro _ _ _ _)⟩
       .rw[e1] at hAi;simp only[Bool.true_or] at hAi;have hsv:=hsu _ hAi;try (simp[hlt2,b3,hi1,hi2,hi3,hrg,e1,hrs,hsv,hw2])
        repeat (first|(refine sR ?_;simp[hlt2,b3,hi1,hi2,hi3,hrg,e1,hrs,hsv,hw2])|(refine sC ?_;simp[hlt2,b3,hi1,hi2,hi3,hrg,e1,hrs,hsv,hw2])|(refine sX ?_;simp only[AU,↓reduceIte]))
        refine sE ?_;exact⟨i+1,hlt2,by omega,wM htk1.le rfl (by simp[ToL,lk]) (by simp[BoxL,lk];exact hro _ _ _ _)⟩
      .refine sX ?_;simp only[AU,↓reduceIte];have:i=x.length:=by omega
       subst this;have hpa:=pI_all hAl;rw[show cur.length=x.length by omega] at hpa;rw[hpa];try (simp[hw])
       repeat (first|(refine sR ?_;simp[hw])|(refine sC ?_;simp[hw])|(refine sX ?_;simp only[AU,↓reduceIte]))
       refine sE ?_;exact⟨j+1,hlt,by omega,wM htk1.le rfl (by simp[ToL,lk]) (by simp[BoxL,lk,hfs];exact hro _ _ _ _)⟩
     .refine sX ?_;simp only[AU,↓reduceIte];have:j=T.length:=by omega
      subst this;rw[List.take_length] at hcl2 ⊢;rw[hRes] at hcl2 ⊢;try (simp)
      repeat (first|(refine sR ?_;simp)|(refine sC ?_;simp)|(refine sX ?_;simp only[AU,↓reduceIte]))
      refine AL.weak (wM (l':=[(4,.msl (nb+9) 0 x.length 1)]) (loc':=[(9,rowsD (rBo Res)++R)]) htk1.le rfl (by simp[ToL,lk,lb_at]) (by rw[rowsD_Bo];simp only[BoxL,lk_cons,↓reduceIte,and_true];exact⟨_,rfl,hro _ _ _ _⟩)) ?_;have hes:(rBo Res).length=x.length:=by simp;omega
      refine AL.trans (Trans.sealD (l:=[(4,.msl (nb+9) 0 x.length 1)]) (l':=[(4,.d (bools Res))]) (loc:=[]) (loc':=[]) 9 1 (rBo Res) R 4 rfl (fun e he=>by obtain⟨b,_,rfl⟩:=List.mem_map.1 he;rfl) (by rw[hes];rfl) rfl ⟨rfl,by have:=@SpTo.msl (nb+9) 1 (rBo Res);rw[hes] at this;exact this,trivial⟩ trivial) ?_;refine sT (sG Hb Ht htk1.old htk1.le ?_);simp
   have c3:¬f.kind=3:=fun h=>c34 (.inl h)
   have c4:¬f.kind=4:=fun h=>c34 (.inr h)
   have b3:(f.kind==3)=false:=by simpa using c3
   have b4:(f.kind==4)=false:=by simpa using c4
   rw[if_neg c34] at hRes;by_cases c5:f.kind=5
   .have b5:(f.kind==5)=true:=by simpa using c5
    rw[if_pos c5] at hRes;have hso:=someT_c m x hmx;try (simp[h0v,hL0,b2,b3,b4,b5])
    repeat (first|(refine sR ?_;simp[h0v,hL0,b2,b3,b4,b5])|(refine sC ?_;simp[h0v,hL0,b2,b3,b4,b5])|(refine sX ?_;simp only[AU,↓reduceIte]))
    refine sD (hso _ _) ?_;simp;try (simp[hRes])
    repeat (first|(refine sR ?_;simp[hRes])|(refine sC ?_;simp[hRes])|(refine sX ?_;simp only[AU,↓reduceIte]))
    refine sT (sG Hb Ht htk.old htk.le ?_);simp
   have b5:(f.kind==5)=false:=by simpa using c5
   rw[if_neg c5] at hRes;by_cases c9:f.kind=9
   .have b9:(f.kind==9)=true:=by simpa using c9
    rw[if_pos c9] at hRes;have hso:=someT_c m (notR x) (by simp only[notR_len];exact hmx);have hsl:(someR m.next (notR x)).length<=1000000:=by rw[someR_len,hm.next];omega
    have hn2:=notT_c (someR m.next (notR x)) hsl;try (simp[h0v,hL0,b2,b3,b4,b5,b9])
    repeat (first|(refine sR ?_;simp[h0v,hL0,b2,b3,b4,b5,b9])|(refine sC ?_;simp[h0v,hL0,b2,b3,b4,b5,b9])|(refine sX ?_;simp only[AU,↓reduceIte]))
    refine sD (hnt _ _) ?_;simp;refine sD (hso _ _) ?_;simp;refine sD (hn2 _ _) ?_;simp;try (simp[hRes])
    repeat (first|(refine sR ?_;simp[hRes])|(refine sC ?_;simp[hRes])|(refine sX ?_;simp only[AU,↓reduceIte]))
    refine sT (sG Hb Ht htk.old htk.le ?_);simp
   have b9:(f.kind==9)=false:=by simpa using c9
   rw[if_neg c9] at hRes;have hal:=allT_c x.length (by omega);by_cases c6:f.kind=6
   .have b6:(f.kind==6)=true:=by simpa using c6
    rw[if_pos c6] at hRes;have hun:=untilT_c m (allR x.length) x hmx (by simp);try (simp[h0v,hL0,b2,b3,b4,b5,b9,b6])
    repeat (first|(refine sR ?_;simp[h0v,hL0,b2,b3,b4,b5,b9,b6])|(refine sC ?_;simp[h0v,hL0,b2,b3,b4,b5,b9,b6])|(refine sX ?_;simp only[AU,↓reduceIte]))
    refine sD (hal _ _) ?_;simp;refine sD (hun _ _) ?_;simp;try (simp[hRes])
    repeat (first|(refine sR ?_;simp[hRes])|(refine sC ?_;simp[hRes])|(refine sX ?_;simp only[AU,↓reduceIte]))
    refine sT (sG Hb Ht htk.old htk.le ?_);simp
   have b6:(f.kind==6)=false:=by simpa using c6
   rw[if_neg c6] at hRes;by_cases c11:f.kind=11
   .have b11:(f.kind==11)=true:=by simpa using c11
    rw[if_pos c11] at hRes;have hmn:m.Ok (notR x).length:=by simp only[notR_len];exact hmx
    have hun:=untilT_c m (allR x.length) (notR x) hmn (by simp);have hul:=untilR_len hm (allR x.length) (notR x) (by simp only[notR_len];exact hxn);have hn2:=notT_c (untilR m.prev (allR x.length) (notR x)) (by omega);try (simp[h0v,hL0,b2,b3,b4,b5,b9,b6,b11])
    repeat (first|(refine sR ?_;simp[h0v,hL0,b2,b3,b4,b5,b9,b6,b11])|(refine sC ?_;simp[h0v,hL0,b2,b3,b4,b5,b9,b6,b11])|(refine sX ?_;simp only[AU,↓reduceIte]))
    refine sD (hal _ _) ?_;simp;refine sD (hnt _ _) ?_;simp;refine sD (hun _ _) ?_;simp;refine sD (hn2 _ _) ?_;simp;try (simp[hRes])
    repeat (first|(refine sR ?_;simp[hRes])|(refine sC ?_;simp[hRes])|(refine sX ?_;simp only[AU,↓reduceIte]))
    refine sT (sG Hb Ht htk.old htk.le ?_);simp
   have b11:(f.kind==11)=false:=by simpa using c11
   rw[if_neg c11] at hRes;by_cases c7:f.kind=7
   .have b7:(f.kind==7)=true:=by simpa using c7
    rw[if_pos c7] at hRes;have haw:=alwaysT_c m x hmx;try (simp[h0v,hL0,b2,b3,b4,b5,b9,b6,b11,b7])
    repeat (first|(refine sR ?_;simp[h0v,hL0,b2,b3,b4,b5,b9,b6,b11,b7])|(refine sC ?_;simp[h0v,hL0,b2,b3,b4,b5,b9,b6,b11,b7])|(refine sX ?_;simp only[AU,↓reduceIte]))
    refine sD (haw _ _) ?_;simp;try (simp[hRes])
    repeat (first|(refine sR ?_;simp[hRes])|(refine sC ?_;simp[hRes])|(refine sX ?_;simp only[AU,↓reduceIte]))
    refine sT (sG Hb Ht htk.old htk.le ?_);simp
   have b7:(f.kind==7)=false:=by simpa using c7
   rw[if_neg c7] at hRes;by_cases c10:f.kind=10
   .have b10:(f.kind==10)=true:=by simpa using c10
    rw[if_pos c10] at hRes;have hmn:m.Ok (notR x).length:=by simp only[notR_len];exact hmx
    have haw:=alwaysT_c m (notR x) hmn;have hul:=alwaysR_len hm (notR x) (by simp only[notR_len];exact hxn);have hn2:=notT_c (alwaysR m.next (notR x)) (by omega);try (simp[h0v,hL0,b2,b3,b4,b5,b9,b6,b11,b7,b10])
    repeat (first|(refine sR ?_;simp[h0v,hL0,b2,b3,b4,b5,b9,b6,b11,b7,b10])|(refine sC ?_;simp[h0v,hL0,b2,b3,b4,b5,b9,b6,b11,b7,b10])|(refine sX ?_;simp only[AU,↓reduceIte]))
    refine sD (hnt _ _) ?_;simp;refine sD (haw _ _) ?_;simp;refine sD (hn2 _ _) ?_;simp;try (simp[hRes])
    repeat (first|(refine sR ?_;simp[hRes])|(refine sC ?_;simp[hRes])|(refine sX ?_;simp only[AU,↓reduceIte]))
    refine sT (sG Hb Ht htk.old htk.le ?_);simp
   have b10:(f.kind==10)=false:=by simpa using c10
   rw[if_neg c10] at hRes;have hL1:1<L.length:=by
    have:=ho3 c2 c3 c4 c5 c9 c6 c11 c7 c10
    omega
   have hL1i:(1:Int)<(L.length:Int):=by omega
   obtain⟨y,hy⟩:∃y,L.tail.headD []=y:=⟨_,rfl⟩
   have hy0:L[1]=y:=by
    rw[<-hy]
    match L,hL1 with
    | a::b::r,_=>rfl
   have hyn:y.length=n:=by rw[<-hy0];exact hLn _ (List.getElem_mem hL1)
   have h1v:∀h:1<(llB L).length,(llB L)[1]=[bools y]:=fun h=>by
    have:=llB_at hL1
    rw[List.getElem?_eq_getElem h,hy0] at this;exact Option.some.inj this
   have hmy:m.Ok y.length:=by rw[hyn];exact hm
   rw[hy] at hRes;by_cases c8:f.kind=8
   .have b8:(f.kind==8)=true:=by simpa using c8
    rw[if_pos c8] at hRes;have hun:=untilT_c m x y hmy (by omega);try (simp[h0v,hL0,b2,b3,b4,b5,b9,b6,b11,b7,b10,b8,h1v,hL1,hL1i])
    repeat (first|(refine sR ?_;simp[h0v,hL0,b2,b3,b4,b5,b9,b6,b11,b7,b10,b8,h1v,hL1,hL1i])|(refine sC ?_;simp[h0v,hL0,b2,b3,b4,b5,b9,b6,b11,b7,b10,b8,h1v,hL1,hL1i])|(refine sX ?_;simp only[AU,↓reduceIte]))
    refine sD (hun _ _) ?_;simp;try (simp[hRes])
    repeat (first|(refine sR ?_;simp[hRes])|(refine sC ?_;simp[hRes])|(refine sX ?_;simp only[AU,↓reduceIte]))
    refine sT (sG Hb Ht htk.old htk.le ?_);simp
   have b8:(f.kind==8)=false:=by simpa using c8
   rw[if_neg c8] at hRes;have hau:=allUntilT_c m x y hmy (by omega);try (simp[h0v,hL0,b2,b3,b4,b5,b9,b6,b11,b7,b10,b8,h1v,hL1,hL1i])
   repeat (first|(refine sR ?_;simp[h0v,hL0,b2,b3,b4,b5,b9,b6,b11,b7,b10,b8,h1v,hL1,hL1i])|(refine sC ?_;simp[h0v,hL0,b2,b3,b4,b5,b9,b6,b11,b7,b10,b8,h1v,hL1,hL1i])|(refine sX ?_;simp only[AU,↓reduceIte]))
   refine sD (hau _ _) ?_;simp;try (simp[hRes])
   repeat (first|(refine sR ?_;simp[hRes])|(refine sC ?_;simp[hRes])|(refine sX ?_;simp only[AU,↓reduceIte]))
   refine sT (sG Hb Ht htk.old htk.le ?_);simp
structure Qn where
 through:List Bool
 goal:Option (List Bool)
 endless:Bool
 verdict:Bool
abbrev goalA:Option (List Bool)->AV
 | some g=>.d (bools g)
 | none=>.osl 0 [] .full
abbrev Qn.row(q:Qn):List AV:=[.d (bools q.through),goalA q.goal,B q.endless,B q.verdict]
abbrev Qn.av(q:Qn):AV:=.agg q.row
def kidV(m:Mdl)(f:Fo)(i:Nat):List Bool:=(f.kids.map (Fo.holds m)).getD i []
def askR(m:Mdl)(f:Fo):Option Qn :=
 if f.kind=6 then some ⟨allR m.next.length,some (kidV m f 0),false,true⟩
 else if f.kind=11 then some ⟨allR m.next.length,some (notR (kidV m f 0)),false,false⟩
 else if f.kind=8 then some ⟨kidV m f 0,some (kidV m f 1),false,true⟩
 else if f.kind=7 then some ⟨kidV m f 0,none,true,true⟩
 else if f.kind=10 then some ⟨notR (kidV m f 0),none,true,false⟩
 else none
def askA:Option Qn->AV
 | some q=>.tup [q.av,B true]
 | none=>.tup [.agg [.osl 0 [] .full,.osl 0 [] .full,B false,B false],B false]
set_option maxRecDepth 100000 in
theorem askT_c(m:Mdl)(n:Nat)(hm:m.Ok n)(f:Fo)(hsz:f.size<=1000000)(hf:f.Hok m):DC 93 [m.av,f.av] (askA (askR m f)):=by
 intro tok nt box nb;have hle:=hm.le;have hkl:=f.kids_len;obtain⟨ho1,ho2,ho3⟩:=hf.one;have ih:=fun x (hx:x∈f.kids)=>holdsT_c m n hm f.size x (Fo.kid_size hx) (by have:=Fo.kid_size hx;omega) (hf.kid hx)
 have hln:=fun x (hx:x∈f.kids)=>Fo.holds_len hm f.size x (Fo.kid_size hx) (hf.kid hx)
 have hnl:=hm.next;have hal:=allT_c m.next.length (by omega);obtain⟨Res,hRes⟩:∃Res,askR m f=Res:=⟨_,rfl⟩
 rw[hRes];unfold askR at hRes;refine sI func93 ntmps93 fun Hb Ht=>?_
 by_cases c6:f.kind=6
 .have b6:(f.kind==6)=true:=by simpa using c6
  rw[if_pos c6] at hRes;have h0:0<f.kids.length:=ho2 (by rw[c6];decide)
  have ihx:=ih _ (List.getElem_mem h0);have hxl:=hln _ (List.getElem_mem h0);have hkv:kidV m f 0=f.kids[0].holds m:=by simp[kidV,h0]
  rw[hkv] at hRes;have hnx:=notT_c (f.kids[0].holds m) (by omega);subst hRes;try (simp[b6,h0,Fo.cells_eq])
  repeat (first|(refine sR ?_;simp[b6,h0,Fo.cells_eq])|(refine sC ?_;simp[b6,h0,Fo.cells_eq])|(refine sX ?_;simp only[AU,↓reduceIte]))
  refine sD (hal _ _) ?_;simp[h0,Fo.cells_eq];refine sD (ihx _ _) ?_;simp[h0,Fo.cells_eq];try (simp)
  repeat (first|(refine sR ?_;simp)|(refine sC ?_;simp)|(refine sX ?_;simp only[AU,↓reduceIte]))
  refine sT (sH Hb Ht ?_);simp[askA]
 have b6:(f.kind==6)=false:=by simpa using c6
 rw[if_neg c6] at hRes;by_cases c11:f.kind=11
 .have b11:(f.kind==11)=true:=by simpa using c11
  rw[if_pos c11] at hRes;have h0:0<f.kids.length:=ho2 (by rw[c11];decide)
  have ihx:=ih _ (List.getElem_mem h0);have hxl:=hln _ (List.getElem_mem h0);have hkv:kidV m f 0=f.kids[0].holds m:=by simp[kidV,h0]
  rw[hkv] at hRes;have hnx:=notT_c (f.kids[0].holds m) (by omega);subst hRes;try (simp[b6,b11,h0,Fo.cells_eq])
  repeat (first|(refine sR ?_;simp[b6,b11,h0,Fo.cells_eq])|(refine sC ?_;simp[b6,b11,h0,Fo.cells_eq])|(refine sX ?_;simp only[AU,↓reduceIte]))
  refine sD (hal _ _) ?_;simp[h0,Fo.cells_eq];refine sD (ihx _ _) ?_;simp[h0,Fo.cells_eq];refine sD (hnx _ _) ?_;simp[h0,Fo.cells_eq];try (simp)
  repeat (first|(refine sR ?_;simp)|(refine sC ?_;simp)|(refine sX ?_;simp only[AU,↓reduceIte]))
  refine sT (sH Hb Ht ?_);simp[askA]
 have b11:(f.kind==11)=false:=by simpa using c11
 rw[if_neg c11] at hRes;by_cases c8:f.kind=8
 .have b8:(f.kind==8)=true:=by simpa using c8
  rw[if_pos c8] at hRes;have h0:0<f.kids.length:=ho2 (by rw[c8];decide)
  have ihx:=ih _ (List.getElem_mem h0);have hxl:=hln _ (List.getElem_mem h0);have hkv:kidV m f 0=f.kids[0].holds m:=by simp[kidV,h0]
  rw[hkv] at hRes;have hnx:=notT_c (f.kids[0].holds m) (by omega);have h1:1<f.kids.length:=ho3 (by rw[c8];decide) (by rw[c8];decide) (by rw[c8];decide) (by rw[c8];decide) (by rw[c8];decide) (by rw[c8];decide) (by rw[c8];decide) (by rw[c8];decide) (by rw[c8];decide) (by rw[c8];decide)
  have h1i:(1:Int)<(f.kids.length:Int):=by omega
  have ihy:=ih _ (List.getElem_mem h1);have hkw:kidV m f 1=f.kids[1].holds m:=by simp[kidV,h1]
  rw[hkw] at hRes;subst hRes;try (simp[b6,b11,b8,h0,h1,h1i,Fo.cells_eq])
  repeat (first|(refine sR ?_;simp[b6,b11,b8,h0,h1,h1i,Fo.cells_eq])|(refine sC ?_;simp[b6,b11,b8,h0,h1,h1i,Fo.cells_eq])|(refine sX ?_;simp only[AU,↓reduceIte]))
  refine sD (ihx _ _) ?_;simp[h0,h1,h1i,Fo.cells_eq];refine sD (ihy _ _) ?_;simp[h0,h1,h1i,Fo.cells_eq];try (simp)
  repeat (first|(refine sR ?_;simp)|(refine sC ?_;simp)|(refine sX ?_;simp only[AU,↓reduceIte]))
  refine sT (sH Hb Ht ?_);simp[askA]
 have b8:(f.kind==8)=false:=by simpa using c8
 rw[if_neg c8] at hRes;by_cases c7:f.kind=7
 .have b7:(f.kind==7)=true:=by simpa using c7
  rw[if_pos c7] at hRes;have h0:0<f.kids.length:=ho2 (by rw[c7];decide)
  have ihx:=ih _ (List.getElem_mem h0);have hxl:=hln _ (List.getElem_mem h0);have hkv:kidV m f 0=f.kids[0].holds m:=by simp[kidV,h0]
  rw[hkv] at hRes;have hnx:=notT_c (f.kids[0].holds m) (by omega);subst hRes;try (simp[b6,b11,b8,b7,h0,Fo.cells_eq])
  repeat (first|(refine sR ?_;simp[b6,b11,b8,b7,h0,Fo.cells_eq])|(refine sC ?_;simp[b6,b11,b8,b7,h0,Fo.cells_eq])|(refine sX ?_;simp only[AU,↓reduceIte]))
  refine sD (ihx _ _) ?_;simp[h0,Fo.cells_eq];try (simp)
  repeat (first|(refine sR ?_;simp)|(refine sC ?_;simp)|(refine sX ?_;simp only[AU,↓reduceIte]))
  refine sT (sH Hb Ht ?_);simp[askA]
 have b7:(f.kind==7)=false:=by simpa using c7
 rw[if_neg c7] at hRes;by_cases c10:f.kind=10
 .have b10:(f.kind==10)=true:=by simpa using c10
  rw[if_pos c10] at hRes;have h0:0<f.kids.length:=ho2 (by rw[c10];decide)
  have ihx:=ih _ (List.getElem_mem h0);have hxl:=hln _ (List.getElem_mem h0);have hkv:kidV m f 0=f.kids[0].holds m:=by simp[kidV,h0]
  rw[hkv] at hRes;have hnx:=notT_c (f.kids[0].holds m) (by omega);subst hRes;try (simp[b6,b11,b8,b7,b10,h0,Fo.cells_eq])
  repeat (first|(refine sR ?_;simp[b6,b11,b8,b7,b10,h0,Fo.cells_eq])|(refine sC ?_;simp[b6,b11,b8,b7,b10,h0,Fo.cells_eq])|(refine sX ?_;simp only[AU,↓reduceIte]))
  refine sD (ihx _ _) ?_;simp[h0,Fo.cells_eq];refine sD (hnx _ _) ?_;simp[h0,Fo.cells_eq];try (simp)
  repeat (first|(refine sR ?_;simp)|(refine sC ?_;simp)|(refine sX ?_;simp only[AU,↓reduceIte]))
  refine sT (sH Hb Ht ?_);simp[askA]
 have b10:(f.kind==10)=false:=by simpa using c10
 rw[if_neg c10] at hRes;subst hRes;try (simp[b6,b11,b8,b7,b10])
 repeat (first|(refine sR ?_;simp[b6,b11,b8,b7,b10])|(refine sC ?_;simp[b6,b11,b8,b7,b10])|(refine sX ?_;simp only[AU,↓reduceIte]))
 refine sT (sH Hb Ht ?_);simp[askA]
abbrev at_(l:List Bool)(i:Nat):Bool:=l.getD i false
theorem at_some{nx:List (List Int)}{l:List Bool}{i:Nat}(h:i<nx.length):at_ (someR nx l) i=(nx.getD i []).any fun k=>at_ l k.toNat:=by simp[at_,someR,h]
theorem any_at{r:List Int}{l:List Bool}{n:Nat}(hr:∀k∈r,inR n k):(r.any fun k=>at_ l k.toNat)=true↔∃k,k<n/\(k:Int)∈r/\at_ l k=true:=by
 rw[List.any_eq_true];constructor
 .rintro⟨k,h1,h2⟩;obtain⟨a,b⟩:=hr k h1;exact⟨k.toNat,by omega,by rw[Int.toNat_of_nonneg a];exact h1,h2⟩
 .rintro⟨k,_,h2,h3⟩;exact⟨k,h2,by simpa using h3⟩
theorem gtD_mem{nx:List (List Int)}{i:Nat}{n:Nat}(h:∀r∈nx,∀k∈r,inR n k):∀k∈nx.getD i [],inR n k:=by
 intro k hk;by_cases hi:i<nx.length
 .have e:nx.getD i []=nx[i]:=by simp[hi]
  rw[e] at hk;exact h _ (List.getElem_mem hi) k hk
 .have e:nx.getD i []=[]:=by rw[List.getD_eq_getElem?_getD,List.getElem?_eq_none (by omega)];rfl
  rw[e] at hk;simp at hk
theorem at_alwS{nx:List (List Int)}{out:List Bool}{i:Nat}(h:i<out.length)(h2:i<nx.length):at_ (alwS nx out) i=(at_ out i&&at_ (someR nx out) i):=by
 simp[at_,alwS,h,h2,List.getElem?_zipWith]
theorem alwSq_len{nx:List (List Int)}{out:List Bool}(h:out.length=nx.length):(alwS nx out).length=out.length:=by simp[alwS,h]
theorem alwN_inv{nx:List (List Int)}{f:List Bool}(hf:f.length=nx.length)(hnr:∀r∈nx,∀k∈r,inR nx.length k):∀(m:Nat) (out:List Bool),out.count true<m->out.length=nx.length ->
  (∀i,i<nx.length->at_ out i=true->at_ f i=true)->(∀i,i<nx.length->at_ f i=true->at_ out i=false->at_ (someR nx out) i=false) ->
  let R:=alwN nx m out
  R.length=nx.length/\(∀i,i<nx.length->at_ R i=true->at_ f i=true)/\(∀i,i<nx.length->at_ f i=true->at_ R i=false->at_ (someR nx R) i=false)/\alwS nx R=R
 | 0,out,hm,_,_,_=>absurd hm (Nat.not_lt_zero _)
 | m+1,out,hm,hl,h1,h2=>by
  simp only[alwN];split
  .rename_i he;exact⟨hl,h1,h2,he⟩
  .rename_i he;have hc:=count_and out (someR nx out) (by simp[hl]);have hlt:=hc.2 he;have down:∀j,j<nx.length->at_ (alwS nx out) j=true->at_ out j=true:=fun j hj h=>by
    rw[at_alwS (by omega) hj] at h;simp at h;exact h.1
   refine alwN_inv hf hnr m (alwS nx out) (by show (alwS nx out).count true<m;unfold alwS;omega) (by rw[alwSq_len hl,hl]) (fun i hi h=>h1 i hi (down i hi h)) (fun i hi hfi ho=>?_);have hs:at_ (someR nx out) i=false:=by
    by_cases ho2:at_ out i=true
    .rw[at_alwS (by omega) hi,ho2] at ho;simpa using ho
    .exact h2 i hi hfi (by simpa using ho2)
   rw[at_some hi] at hs ⊢;rw[Bool.eq_false_iff] at hs ⊢;intro h;refine hs ((any_at (gtD_mem hnr)).2 ?_);obtain⟨k,e1,e2,e3⟩:=(any_at (gtD_mem hnr)).1 h;exact⟨k,e1,e2,down k e1 e3⟩
theorem always_fix{n:Nat}{nx:List (List Int)}{f:List Bool}(hf:f.length=n)(hn:nx.length=n)(hnr:∀r∈nx,∀k∈r,inR n k):(alwaysR nx f).length=n/\∀i,i<n->at_ (alwaysR nx f) i=(at_ f i&&at_ (someR nx (alwaysR nx f)) i):=by
 subst hn;obtain⟨h1,h2,h3,h4⟩:=alwN_inv hf hnr (f.count true+1) f (Nat.lt_succ_self _) hf (fun _ _ h=>h) (fun i _ h k=>by rw[h] at k;cases k);refine⟨h1,fun i hi=>?_⟩;show at_ (alwN nx (f.count true+1) f) i=(at_ f i&&at_ (someR nx (alwN nx (f.count true+1) f)) i)
 generalize alwN nx (f.count true+1) f=R at *;have h5:=at_alwS (nx:=nx) (out:=R) (i:=i) (by omega) hi;rw[h4] at h5;cases hR:at_ R i
 .rw[hR] at h5;cases hfi:at_ f i
  .rfl
  .have:=h3 i hi hfi hR
   rw[this];rfl
 .rw[hR] at h5;have:=h2 i hi hR
  rw[this];simpa using h5
theorem nodup_len:∀(n:Nat) (l:List Int),l.Nodup->(∀k∈l,inR n k)->l.length<=n
 | 0,l,_,h=>by
  cases l with
  | nil=>simp
  | cons k r=>obtain⟨h1,h2⟩:=h k (by simp);omega
 | n+1,l,hd,h=>by
  have h1:=nodup_len n (l.erase (n:Int)) (hd.erase _) fun k hk=>by
   obtain⟨e1,e2⟩:=hd.mem_erase_iff.1 hk;obtain⟨e3,e4⟩:=h k e2;exact⟨e3,by omega⟩
  have h2:=List.length_erase (a:=(n:Int)) (l:=l);split at h2<;>omega
def endS(nx:List (List Int))(inn:List Bool)(a:Int):Int:=(nx.getD a.toNat []).getD (findI (fun i=>inn.getD i.toNat false) (nx.getD a.toNat [])).toNat 0
def endN(nx:List (List Int))(inn:List Bool):Nat->Int->List Int->List Int
 | 0,_,path=>path
 | n+1,a,path=>if endS nx inn a∈path then path++[endS nx inn a] else endN nx inn n (endS nx inn a) (path++[endS nx inn a])
def endR(m:Mdl)(thr:List Bool):List Int:=if (alwaysR m.next thr).getD 0 false=true then endN m.next (alwaysR m.next thr) m.next.length 0 [0] else []
theorem endc_c(inn:List Bool)(k:Int)(hk:inR inn.length k)(k5 nb:Nat)(box:Bxs)(tok:Tks)(nt:Nat)(h5:box k5=some [[.d (bools inn)]]):
  ACalls prog 164 [I k,.ptr k5 0 0] ⟨box,nb,tok,nt⟩ fun v m=>v=B (inn.getD k.toNat false)/\m=⟨box,nb,tok,nt⟩:=by
 obtain⟨h1,h2⟩:=hk;have h3:k.toNat<inn.length:=by omega
 have hg1:inn.getD k.toNat false=inn[k.toNat]:=by simp[h3]
 rw[hg1];refine sI func164 ntmps164 fun Hb Ht=>?_
 have hkn5:=key_lt Hb h5;repeat first|simp|refine sR ?_
 repeat first|simp[lO hkn5,h5,h1,h2,h3]|refine sR ?_
 refine sT (sH Hb Ht ?_);simp
theorem findI_at{α:Type}(p:α->Bool)(xs:List α)(h:∃x∈xs,p x=true):∃k:Nat,∃hk:k<xs.length,findI p xs=(k:Int)/\p xs[k]=true:=by
 have ha:xs.any p=true:=by simpa using h
 have hl:xs.findIdx p<xs.length:=List.findIdx_lt_length_of_exists (by obtain⟨x,h1,h2⟩:=h;exact⟨x,h1,h2⟩)
 exact⟨xs.findIdx p,hl,by simp[findI,ha],List.findIdx_getElem⟩
theorem end_step{m:Mdl}{n:Nat}(hm:m.Ok n){inn:List Bool}(hin:∀i,i<n->at_ inn i=true->at_ (someR m.next inn) i=true){a:Int}(ha:inR n a)(hat:inn.getD a.toNat false=true):
  ∃k:Nat,∃h1:a.toNat<m.next.length,∃h2:k<m.next[a.toNat].length,findI (fun i=>inn.getD i.toNat false) m.next[a.toNat]=(k:Int)/\endS m.next inn a=m.next[a.toNat][k]/\inR n m.next[a.toNat][k]/\inn.getD (m.next[a.toNat][k]).toNat false=true:=by
 obtain⟨e1,e2⟩:=ha;have h1:a.toNat<m.next.length:=by rw[hm.next];omega
 have hg:m.next.getD a.toNat []=m.next[a.toNat]:=by simp[h1]
 have hs:=hin a.toNat (by omega) hat;rw[at_some h1,hg] at hs;obtain⟨x,hx1,hx2⟩:=List.any_eq_true.1 hs;obtain⟨k,hk,hf,hp⟩:=findI_at (fun i:Int=>inn.getD i.toNat false) m.next[a.toNat] ⟨x,hx1,hx2⟩;refine⟨k,h1,hk,hf,?_,hm.nextR _ (List.getElem_mem h1) _ (List.getElem_mem hk),hp⟩;unfold endS;rw[hg,hf];simp[hk]
def pathA:List Int->AV
 | []=>.osl 0 [] .full
 | a::r=>.d (ints (a::r))
theorem pathA_ne{l:List Int}(h:l≠[]):pathA l=.d (ints l):=by
 cases l with
 | nil=>exact absurd rfl h
 | cons a r=>rfl
theorem pathA_app(l:List Int)(a:Int):pathA (l++[a])=.d (ints (l++[a])):=pathA_ne (by simp)
structure EnA where
 a:Int
 path:List Int
 sz:Nat
 own:Own
 tok:Nat->Bool
 nt:Nat
def stEdl(m:Mdl)(inn:List Bool)(nb:Nat)(box:Bxs)(x:EnA):AS :=
 ⟨tl [(7,I x.a),(6,.osl 1 (rI x.path) x.own),(5,.ptr (nb+5) 0 0),(2,.ptr (nb+2) 0 0)],lb nb box [(5,[[.d (bools inn)]]),(2,[m.row])],x.tok,x.nt⟩
set_option maxRecDepth 100000 in
theorem endlessT_c(m:Mdl)(n:Nat)(hm:m.Ok n)(q:Qn)(hq:q.through.length=n):DC 94 [m.av,q.av] (pathA (endR m q.through)):=by
 intro tok nt box nb;have hle:=hm.le;have hpos:=hm.pos;have hmq:m.Ok q.through.length:=by rw[hq];exact hm
 have haw:=alwaysT_c m q.through hmq;obtain⟨hil,hfix⟩:=always_fix (f:=q.through) hq hm.next hm.nextR;have hnl:=hm.next;obtain⟨Res,hRes⟩:∃Res,endR m q.through=Res:=⟨_,rfl⟩
 rw[hRes];unfold endR at hRes;generalize alwaysR m.next q.through=inn at *;have hcl:∀i,i<n->at_ inn i=true->at_ (someR m.next inn) i=true:=fun i hi h=>by
  have:=hfix i hi
  rw[h] at this;have:=this.symm
  simp only[Bool.and_eq_true] at this;exact this.2
 have h0:0<inn.length:=by omega
 have hg0:inn.getD 0 false=inn[0]:=by simp[h0]
 rw[hg0] at hRes;refine sI func94 ntmps94 fun Hb Ht=>?_
 repeat first|simp|refine sR ?_
 refine sD (haw _ _) ?_;simp;cases e0:inn[0]
 .rw[e0] at hRes;simp only[Bool.false_eq_true,↓reduceIte] at hRes;subst hRes;try (simp[h0,e0])
  repeat (first|(refine sR ?_;simp[h0,e0])|(refine sC ?_;simp[h0,e0])|(refine sX ?_;simp only[AU,↓reduceIte]))
  refine sT (sH Hb Ht ?_);simp[pathA]
 .rw[e0,if_pos rfl] at hRes;try (simp[h0,e0])
  repeat (first|(refine sR ?_;simp[h0,e0])|(refine sC ?_;simp[h0,e0])|(refine sX ?_;simp only[AU,↓reduceIte]))
  refine sN ?_;refine sL (stEdl m inn nb box) (fun x=>TK tok nt x.tok x.nt [x.own]/\x.path.length<=n/\x.path.Nodup/\(∀k∈x.path,inR n k)/\inR n x.a/\inn.getD x.a.toNat false=true/\endN m.next inn (n+1-x.path.length) x.a x.path=Res) (fun x=>n+1-x.path.length) ⟨0,[0],1,.full,tok,nt⟩ ⟨(TK.start Ht).full,(show 1<=n from hpos),by simp,by simp[inR];exact hpos,by simp[inR];exact hpos,by simp[e0,h0],by simp;rw[<-hnl];exact hRes⟩ wkA ?_;rintro⟨a,path,sz,own,tok3,nt3⟩ S ⟨htk,hpl,hnd,hpr,har,hat,hend⟩ hS;simp only[stEdl] at hS htk hpl hnd hpr har hat hend;subst hS;obtain⟨k,h1,h2,hf,hes,hkr,hkt⟩:=end_step hm hcl har hat;obtain⟨ha1,ha2⟩:=har;have ha3:a<(m.next.length:Int):=by omega
  have hrR:=hm.nextR _ (List.getElem_mem h1);have hrL:=hm.nextL _ (List.getElem_mem h1);obtain⟨F,hF⟩:∃F,n+1-path.length=F+1:=⟨n-path.length,by omega⟩
  rw[hF,endN,hes] at hend;have hix:=indexFunc_c m.next[a.toNat] 164 [.ptr (nb+5) 0 0] (fun i=>inn.getD i.toNat false) (by omega) (lb nb box [(5,[[.d (bools inn)]]),(2,[m.row])]) (nb+43) tok3 nt3 (by simp[lb_at,lk]) (fun k hk box' nb' he=>endc_c inn k (by rw[hil];exact hrR k hk) (nb+5) nb' box' tok3 nt3 (he _ _ (by simp[lb_at,lk])));rw[hf] at hix;try (simp[ha1,ha3,h1])
  repeat (first|(refine sR ?_;simp[ha1,ha3,h1])|(refine sC ?_;simp[ha1,ha3,h1])|(refine sX ?_;simp only[AU,↓reduceIte]))
  refine Stop.of_b (hix) ?_;simp;obtain⟨a',ha'⟩:∃a',m.next[a.toNat][k]=a':=⟨_,rfl⟩
  rw[ha'] at hend hkr hkt;have hct:=contains_c path a' (by omega);try (simp[ha1,ha3,h1,h2,ha'])
  repeat (first|(refine sR ?_;simp[ha1,ha3,h1,h2,ha'])|(refine sC ?_;simp[ha1,ha3,h1,h2,ha'])|(refine sX ?_;simp only[AU,↓reduceIte]))
  refine Stop.sub (args':=[.d (ints path),I a']) ⟨Sub.data _ _ _,Sub.refl _,trivial⟩ ?_;refine sD (hct _ _) ?_;simp;by_cases hm':a'∈path
  .rw[if_pos hm'] at hend;subst hend;try (simp[hm'])
   repeat (first|(refine sR ?_;simp[hm'])|(refine sC ?_;simp[hm'])|(refine sX ?_;simp only[AU,↓reduceIte]))
   refine⟨⟨by omega,htk.live⟩,?_⟩;try (simp)
   repeat (first|(refine sR ?_;simp)|(refine sC ?_;simp)|(refine sX ?_;simp only[AU,↓reduceIte]))
   refine sT (sG Hb Ht htk.app.old htk.app.le ?_);simp[ints,pathA_app]
  .rw[if_neg hm'] at hend;have hnd2:(path++[a']).Nodup:=by
    rw[List.nodup_append];exact⟨hnd,by simp,fun x hx y hy h=>by simp at hy;subst hy;subst h;exact hm' hx⟩
   have hpr2:∀k∈path++[a'],inR n k:=fun x hx=>by
    rcases List.mem_append.1 hx with hx|hx
    .exact hpr x hx
    .simp at hx;subst hx;exact hkr
   have hpl2:=nodup_len n _ hnd2 hpr2;try (simp[hm'])
   repeat (first|(refine sR ?_;simp[hm'])|(refine sC ?_;simp[hm'])|(refine sX ?_;simp only[AU,↓reduceIte]))
   refine⟨⟨by omega,htk.live⟩,?_⟩;try (simp)
   repeat (first|(refine sR ?_;simp)|(refine sC ?_;simp)|(refine sX ?_;simp only[AU,↓reduceIte]))
   refine sE ?_;refine⟨⟨a',path++[a'],1,.tok nt3,_,nt3+1⟩,⟨htk.app,hpl2,hnd2,hpr2,hkr,hkt,?_⟩,?_,wM (Nat.le_succ_of_le htk.le) rfl (by simp[ToL,lk]) (by simp[BoxL,lk])⟩
   .simp only[List.length_append,List.length_cons,List.length_nil];rw[show n+1-(path.length+(0+1))=F by omega];exact hend
   .simp only[List.length_append,List.length_cons,List.length_nil];omega
def fAt(far:List Int)(k:Int):Int:=far.getD k.toNat 0
def farS(thr:List Bool)(k:Int)(s:List Int × List Int)(i:Int):List Int × List Int:=if fAt s.1 i<0/\thr.getD i.toNat false=true then (s.1.set i.toNat (fAt s.1 k+1),s.2++[i]) else s
def farN(pv:List (List Int))(thr:List Bool):Nat->List Int->List Int->List Int
 | _,far,[]=>far
 | 0,far,_::_=>far
 | n+1,far,k::q=>farN pv thr n ((pv.getD k.toNat []).foldl (farS thr k) (far,q)).1 ((pv.getD k.toNat []).foldl (farS thr k) (far,q)).2
def negs(l:List Int):Nat:=l.countP fun v=>decide (v<0)
def farM(s:List Int × List Int):Nat:=negs s.1+s.2.length
def far0(g:List Bool):List Int:=g.map fun b=>if b=true then 0 else -1
theorem negs_set{l:List Int}:∀{i:Nat} (h:i<l.length) {v:Int},l[i]<0->0<=v->negs (l.set i v)+1=negs l:=by
 induction l with
 | nil=>intro i h;simp at h
 | cons b l ih =>
  intro i h v he hv;cases i with
  | zero =>
   simp at he;have h1:¬v<0:=by omega
   simp[negs,List.countP_cons,he,h1]
  | succ i =>
   simp at he h;have:=ih h he hv
   simp only[negs] at this;simp only[negs,List.set_cons_succ,List.countP_cons];omega
theorem fAt_set{far:List Int}{i j:Int}{n:Nat}(hn:far.length=n)(hi:inR n i)(hj:inR n j)(v:Int):fAt (far.set i.toNat v) j=if j=i then v else fAt far j:=by
 obtain⟨h1,h2⟩:=hi;obtain⟨h3,h4⟩:=hj;have h5:i.toNat<far.length:=by omega
 unfold fAt;by_cases h:j=i
 .subst h;simp[h5]
 .have:¬i.toNat=j.toNat:=by omega
  simp[h,List.getElem?_set_ne this]
structure FarI (n:Nat) (nx:List (List Int)) (s:List Int × List Int):Prop where
 len:s.1.length=n
 q:∀k∈s.2,inR n k/\0<=fAt s.1 k
 lo:∀i,inR n i -> -1<=fAt s.1 i
 hi:∀i,inR n i->fAt s.1 i+(negs s.1:Int)<=(n:Int)
 down:∀i,inR n i->0<fAt s.1 i->∃j∈nx.getD i.toNat [],inR n j/\fAt s.1 j=fAt s.1 i-1
theorem farS_i{n:Nat}{nx:List (List Int)}{thr:List Bool}{s:List Int × List Int}(h:FarI n nx s){k i:Int}(hk:inR n k)(hk0:0<=fAt s.1 k)(hi:inR n i)(hc:k∈nx.getD i.toNat []):FarI n nx (farS thr k s i)/\farM (farS thr k s i)=farM s/\0<=fAt (farS thr k s i).1 k:=by
 unfold farS;split
 .rename_i hcond;obtain⟨hneg,_⟩:=hcond;have hil:i.toNat<s.1.length:=by have:=h.len;have:=hi.1;have:=hi.2;omega
  have hgi:fAt s.1 i=s.1[i.toNat]:=by simp[fAt,hil]
  have hng:=negs_set hil (v:=fAt s.1 k+1) (by rw[<-hgi];exact hneg) (by omega);have hset:=fun j hj=>fAt_set (j:=j) h.len hi hj (fAt s.1 k+1)
  have hki:¬k=i:=fun e=>by subst e;omega
  have hkk:fAt (s.1.set i.toNat (fAt s.1 k+1)) k=fAt s.1 k:=by rw[hset k hk,if_neg hki]
  refine⟨⟨by simp[h.len],fun x hx=>?_,fun x hx=>?_,fun x hx=>?_,fun x hx h0=>?_⟩,?_,by simp only;omega⟩
  .simp only;rcases List.mem_append.1 hx with hx|hx
   .obtain⟨e1,e2⟩:=h.q x hx;refine⟨e1,?_⟩;rw[hset x e1];split<;>omega
   .simp at hx;subst hx;refine⟨hi,?_⟩;rw[hset _ hi,if_pos rfl];omega
  .simp only;rw[hset x hx];have:=h.lo x hx
   split<;>omega
  .simp only;rw[hset x hx];have h1:=h.hi x hx;have h2:=h.hi k hk;split<;>omega
  .simp only at h0 ⊢;rw[hset x hx] at h0 ⊢;by_cases e:x=i
   .subst e;rw[if_pos rfl] at h0 ⊢;exact⟨k,hc,hk,by rw[hkk];omega⟩
   .rw[if_neg e] at h0 ⊢;obtain⟨j,e1,e2,e3⟩:=h.down x hx h0;refine⟨j,e1,e2,?_⟩;rw[hset j e2,if_neg (fun e4=>by subst e4;omega)];exact e3
  .simp only[farM,List.length_append,List.length_cons,List.length_nil];omega
 .exact⟨h,rfl,hk0⟩
theorem farF_i{n:Nat}{nx:List (List Int)}{thr:List Bool}{k:Int}(hk:inR n k):∀(r:List Int) (s:List Int × List Int),FarI n nx s->0<=fAt s.1 k->(∀i∈r,inR n i/\k∈nx.getD i.toNat [])->FarI n nx (r.foldl (farS thr k) s)/\farM (r.foldl (farS thr k) s)=farM s
 | [],s,h,_,_=>⟨h,rfl⟩
 | i::r,s,h,h0,hr=>by
  obtain⟨e1,e2⟩:=hr i (by simp);obtain⟨k1,k2,k3⟩:=farS_i (thr:=thr) h hk h0 e1 e2;obtain⟨m1,m2⟩:=farF_i hk r _ k1 k3 fun j hj=>hr j (by simp[hj])
  exact⟨m1,m2.trans k2⟩
theorem farN_nil(pv:List (List Int))(thr:List Bool)(b:Nat)(far:List Int):farN pv thr b far []=far:=by cases b<;>rfl
theorem fAt_far0{g:List Bool}{i:Int}(h:inR g.length i):fAt (far0 g) i=if g.getD i.toNat false=true then 0 else -1:=by
 obtain⟨h1,h2⟩:=h;have h3:i.toNat<g.length:=by omega
 simp[fAt,far0,h3]
theorem negs_far0:∀g:List Bool,negs (far0 g)=g.count false
 | []=>rfl
 | b::g=>by
  have:=negs_far0 g
  simp only[negs,far0] at this;simp only[negs,far0,List.map_cons,List.countP_cons,this,List.count_cons];cases b<;>simp
theorem far0_m(g:List Bool):farM (far0 g,trueIx g)=g.length:=by
 have:=trueIx_len g
 simp only[bfM] at this;simp only[farM,negs_far0];exact this
theorem trueIx_at{g:List Bool}{k:Int}(h:k∈trueIx g):g.getD k.toNat false=true:=by
 obtain⟨j,hj,rfl⟩:=List.mem_map.1 h;simpa using (List.mem_filter.1 hj).2
theorem far0_i(g:List Bool)(nx:List (List Int)):FarI g.length nx (far0 g,trueIx g):=by
 have hin:=trueTo_in (g:=g) (nr _);rw[trueTo_all] at hin;refine⟨by simp[far0],fun k hk=>⟨hin k hk,?_⟩,fun i hi=>?_,fun i hi=>?_,fun i hi h=>?_⟩
 .rw[fAt_far0 (hin k hk),if_pos (trueIx_at hk)];exact Int.le_refl _
 .rw[fAt_far0 hi];split<;>omega
 .have h1:=negs_far0 g;have h2:=count_tf g;rw[fAt_far0 hi];simp only;split<;>omega
 .simp only at h;rw[fAt_far0 hi] at h;split at h<;>omega
def pthS(nx:List (List Int))(far:List Int)(a:Int):Int:=(nx.getD a.toNat []).getD (findI (fun i=>decide (fAt far i=fAt far a-1)) (nx.getD a.toNat [])).toNat 0
def pthN(nx:List (List Int))(far:List Int):Nat->Int->List Int->List Int
 | 0,_,p=>p
 | n+1,a,p=>pthN nx far n (pthS nx far a) (p++[pthS nx far a])
def farR(m:Mdl)(thr g:List Bool):List Int:=farN m.prev thr g.length (far0 g) (trueIx g)
def shortR(m:Mdl)(thr g:List Bool):List Int:=if fAt (farR m thr g) 0<0 then [] else pthN m.next (farR m thr g) (fAt (farR m thr g) 0).toNat 0 [0]
def f1(g:List Bool)(i:Nat):List Int:=(far0 g).take i++List.replicate (g.length-i) 0
theorem far0_len(g:List Bool):(far0 g).length=g.length:=by simp[far0]
theorem f1_zero(g:List Bool):f1 g 0=List.replicate g.length 0:=by simp[f1]
theorem f1_all(g:List Bool):f1 g g.length=far0 g:=by simp[f1];exact List.take_of_length_le (by rw[far0_len];exact nr _)
theorem f1_len{g:List Bool}{i:Nat}(h:i<=g.length):(f1 g i).length=g.length:=by simp[f1,far0_len];omega
theorem f1_set{g:List Bool}{i:Nat}(h:i<g.length){v:Int}(hv:(if g[i]=true then (0:Int) else -1)=v):(f1 g i).set i v=f1 g (i+1) :=
 take_set (by rw[far0_len];exact h) (by rw[far0_len]) (by simpa[far0] using hv)
structure ShA where
 i:Nat
 sz:Nat
 own:Own
 tok:Nat->Bool
 nt:Nat
def stShA(m:Mdl)(q:Qn)(g:List Bool)(n:Nat)(nb:Nat)(box:Bxs)(a:ShA):AS :=
 ⟨tl [(19,I n),(20,I a.i),(6,.osl a.sz (rI (trueTo g a.i)) a.own),(5,.ptr (nb+5) 0 0),(3,.ptr (nb+3) 0 0),(2,.ptr (nb+2) 0 0)],lb nb box [(17,rowsI (f1 g a.i)),(5,[[.msl (nb+17) 0 n 1]]),(3,[q.row]),(2,[m.row])],a.tok,a.nt⟩
structure ShB where
 far:List Int
 q:List Int
 t:Nat
 tok:Nat->Bool
 nt:Nat
def stShB(m:Mdl)(qn:Qn)(n:Nat)(nb:Nat)(box:Bxs)(a:ShB):AS :=
 ⟨tl [(6,.que a.t 1 (rI a.q)),(5,.ptr (nb+5) 0 0),(3,.ptr (nb+3) 0 0),(2,.ptr (nb+2) 0 0)],lb nb box [(17,rowsI a.far),(5,[[.msl (nb+17) 0 n 1]]),(3,[qn.row]),(2,[m.row])],a.tok,a.nt⟩
structure ShC where
 j:Nat
 far:List Int
 q:List Int
 t:Nat
 tok:Nat->Bool
 nt:Nat
def stShC(m:Mdl)(qn:Qn)(n:Nat)(k:Int)(r:List Int)(nb:Nat)(box:Bxs)(a:ShC):AS :=
 ⟨tl [(8,I k),(51,.d (ints r)),(52,I r.length),(53,I a.j),(6,.que a.t 1 (rI a.q)),(5,.ptr (nb+5) 0 0),(3,.ptr (nb+3) 0 0),(2,.ptr (nb+2) 0 0)],lb nb box [(17,rowsI a.far),(5,[[.msl (nb+17) 0 n 1]]),(3,[qn.row]),(2,[m.row])],a.tok,a.nt⟩
theorem FarI.tail{n:Nat}{nx:List (List Int)}{far:List Int}{k:Int}{q:List Int}(h:FarI n nx (far,k::q)):FarI n nx (far,q):=⟨h.len,fun x hx=>h.q x (by simp only at hx ⊢;exact List.mem_cons_of_mem _ hx),h.lo,h.hi,h.down⟩
theorem shc_c(far:List Int)(n:Nat)(hn:far.length=n)(a k:Int)(ha:inR n a)(hk:inR n k)(hw:IntKind.i64.wrap (fAt far a-1)=fAt far a-1)(k5 k12 k17 nb:Nat)(box:Bxs)(tok:Tks)(nt:Nat)(h5:box k5=some [[.msl k17 0 n 1]])(h12:box k12=some [[I a]])(h17:box k17=some (rowsI far)):
  ACalls prog 165 [I k,.ptr k5 0 0,.ptr k12 0 0] ⟨box,nb,tok,nt⟩ fun v m=>v=B (decide (fAt far k=fAt far a-1))/\m=⟨box,nb,tok,nt⟩:=by
 obtain⟨h1,h2⟩:=hk;obtain⟨h3,h4⟩:=ha;have h6:k.toNat<far.length:=by omega
 have h7:a.toNat<far.length:=by omega
 have hg1:fAt far k=far[k.toNat]:=by simp[fAt,h6]
 have hg2:fAt far a=far[a.toNat]:=by simp[fAt,h7]
 rw[hg2] at hw;rw[hg1,hg2];have hbd:(far[k.toNat]==far[a.toNat]-1)=decide (far[k.toNat]=far[a.toNat]-1):=by rw[Bool.eq_iff_iff];simp
 refine sI func165 ntmps165 fun Hb Ht=>?_
 have hkn5:=key_lt Hb h5;have hkn12:=key_lt Hb h12;have hkn17:=key_lt Hb h17;repeat first|simp|refine sR ?_
 repeat first|simp[lO hkn5,lO hkn12,lO hkn17,h5,h12,h17,h1,h2,h3,h4,h6,h7,hw]|refine sR ?_
 refine sT (sH Hb Ht ?_);simp[hbd]
structure ShD where
 a:Int
 path:List Int
 own:Own
 tok:Nat->Bool
 nt:Nat
def stShD(m:Mdl)(far:List Int)(n:Nat)(nb:Nat)(box:Bxs)(x:ShD):AS :=
 ⟨tl [(12,.ptr (nb+12) 0 0),(11,.osl 1 (rI x.path) x.own),(5,.ptr (nb+5) 0 0),(2,.ptr (nb+2) 0 0)],lb nb box [(12,[[I x.a]]),(17,rowsI far),(5,[[.msl (nb+17) 0 n 1]]),(2,[m.row])],x.tok,x.nt⟩
theorem pth_step{m:Mdl}{n:Nat}(hm:m.Ok n){far q:List Int}(hI:FarI n m.next (far,q)){a:Int}(ha:inR n a)(h0:0<fAt far a):
  ∃k:Nat,∃h1:a.toNat<m.next.length,∃h2:k<m.next[a.toNat].length,findI (fun i=>decide (fAt far i=fAt far a-1)) m.next[a.toNat]=(k:Int)/\pthS m.next far a=m.next[a.toNat][k]/\inR n m.next[a.toNat][k]/\fAt far m.next[a.toNat][k]=fAt far a-1:=by
 obtain⟨e1,e2⟩:=ha;have h1:a.toNat<m.next.length:=by rw[hm.next];omega
 have hg:m.next.getD a.toNat []=m.next[a.toNat]:=by simp[h1]
 obtain⟨j,hj1,hj2,hj3⟩:=hI.down a ⟨e1,e2⟩ h0;rw[hg] at hj1;simp only at hj3;obtain⟨k,hk,hf,hp⟩:=findI_at (fun i:Int=>decide (fAt far i=fAt far a-1)) m.next[a.toNat] ⟨j,hj1,by simpa using hj3⟩;refine⟨k,h1,hk,hf,?_,hm.nextR _ (List.getElem_mem h1) _ (List.getElem_mem hk),by simpa using hp⟩;unfold pthS;rw[hg,hf];simp[hk]
set_option maxRecDepth 100000 in
theorem shortestT_c(m:Mdl)(n:Nat)(hm:m.Ok n)(thr g:List Bool)(ht:thr.length=n)(hg:g.length=n)(e v:Bool)(hcv:∀k,inR n k->∀i∈m.prev.getD k.toNat [],k∈m.next.getD i.toNat []):DC 95 [m.av,(Qn.mk thr (some g) e v).av] (pathA (shortR m thr g)):=by
 intro tok nt box nb;have hle:=hm.le;have hpos:=hm.pos;have hnl:=hm.next;obtain⟨Res,hRes⟩:∃Res,shortR m thr g=Res:=⟨_,rfl⟩
 rw[hRes];unfold shortR at hRes;obtain⟨Far,hFar⟩:∃Far,farR m thr g=Far:=⟨_,rfl⟩
 rw[hFar] at hRes;unfold farR at hFar;refine sI func95 ntmps95 fun Hb Ht=>?_
 repeat first|simp|refine sR ?_
 refine⟨by omega,?_⟩;repeat first|simp|refine sR ?_
 refine sN ?_;refine sL (stShA m ⟨thr,some g,e,v⟩ g n nb box) (fun a=>a.i<=g.length/\TK tok nt a.tok a.nt [a.own]/\((a.sz=1/\∃t,a.own=.tok t)∨trueTo g a.i=[]/\a.own=.full)) (fun a=>g.length-a.i) ⟨0,0,.full,tok,nt⟩ ⟨Nat.zero_le _,(TK.start Ht).full,.inr ⟨by simp[trueTo],rfl⟩⟩ (wM (nr _) rfl (by simp[ToL,lk,trueTo,hnl]) (by simp[BoxL,lk,f1_zero,hnl,hg])) ?_;rintro⟨i,sz,own,tok3,nt3⟩ S ⟨hi,htk,hsz⟩ hS;simp only[stShA] at hS hi htk hsz;subst hS;have hw:=sW (i:=i) (by omega);repeat first|simp|refine sR ?_|refine sC ?_
 refine⟨fun hlt=>?_,fun hge=>?_⟩
 .have hts:=trueTo_succ (g:=g) (i:=i) (by omega);have htl:=trueTo_len g i;have hi1:i<g.length:=by omega
  have hi2:i<(f1 g i).length:=by rw[f1_len hi];exact hi1
  have hi3:i<((f1 g i).set i (-1)).length:=by simpa using hi2
  have hset:=fun v=>f1_set (v:=v) hi1
  cases e1:g[i]
  .rw[e1] at hts hset;simp only[Bool.false_eq_true,↓reduceIte] at hts hset;have hset:=hset _ rfl;try (simp[hlt,hi1,hi2,e1,hset,hw])
   repeat (first|(refine sR ?_;simp[hlt,hi1,hi2,e1,hset,hw])|(refine sC ?_;simp[hlt,hi1,hi2,e1,hset,hw])|(refine sX ?_;simp only[AU,↓reduceIte]))
   refine sE ?_;exact⟨⟨i+1,sz,own,tok3,nt3⟩,⟨hi1,htk,by simpa[hts] using hsz⟩,by simp only;omega,wM htk.le rfl (by simp[ToL,lk,hts]) (by simp[BoxL,lk])⟩
  .rw[e1] at hts hset;simp only[↓reduceIte] at hts hset;have hset:=hset _ rfl;have hss:((f1 g i).set i (-1)).set i 0=f1 g (i+1):=by rw[List.set_set];exact hset
   try (simp[hlt,hi1,hi2,hi3,e1,hss])
   repeat (first|(refine sR ?_;simp[hlt,hi1,hi2,hi3,e1,hss])|(refine sC ?_;simp[hlt,hi1,hi2,hi3,e1,hss])|(refine sX ?_;simp only[AU,↓reduceIte]))
   refine⟨⟨hsz.imp (fun h=>h.1) (fun h=>⟨h.1,h.2⟩),by omega,htk.live⟩,?_⟩;try (simp[hw])
   repeat (first|(refine sR ?_;simp[hw])|(refine sC ?_;simp[hw])|(refine sX ?_;simp only[AU,↓reduceIte]))
   refine sE ?_;exact⟨⟨i+1,1,.tok nt3,_,nt3+1⟩,⟨hi1,htk.app,.inl ⟨rfl,_,rfl⟩⟩,by simp only;omega,wM (Nat.le_succ_of_le htk.le) rfl (by simp[ToL,lk,hts]) (by simp[BoxL,lk])⟩
 .refine sX ?_;simp only[AU,↓reduceIte];have:i=g.length:=by omega
  subst this;have hini:farN m.prev thr (farM (far0 g,trueIx g)) (far0 g) (trueIx g)=Far:=by rw[far0_m];exact hFar
  have hI:=far0_i g m.next;have hmM:farM (far0 g,trueIx g)<=n:=by rw[far0_m];omega
  rw[trueTo_all,f1_all] at *;have hlen0:=far0_len g;generalize far0 g=fr0 at *;generalize trueIx g=q0 at *;obtain⟨tq,htkq,htr⟩:∃tq,TK tok nt (upd tok3 nt3 true) (nt3+1) [.tok tq]/\QuTo nt3 1 (.osl sz (rI q0) own) (.que tq 1 (rI q0)):=by
   rcases hsz with ⟨h,t,h2⟩|⟨h1,h2⟩
   .subst h;subst h2;exact⟨t,htk.full.app.tail,.tok⟩
   .subst h1;subst h2;exact⟨nt3,htk.app,.nil⟩
  refine AL.trans (Trans.que (l':=[(21,.bot),(19,.bot),(20,.bot),(6,.que tq 1 (rI q0)),(5,.ptr (nb+5) 0 0),(3,.ptr (nb+3) 0 0),(2,.ptr (nb+2) 0 0)]) (loc':=[(17,rowsI fr0),(5,[[.msl (nb+17) 0 n 1]]),(3,[(Qn.mk thr (some g) e v).row]),(2,[m.row])]) 1 ⟨rfl,.bot,rfl,.bot,rfl,.bot,rfl,htr,rfl,.same,rfl,.same,rfl,.same,trivial⟩ (cvB_refl (fun _=>.same) _)) ?_;generalize upd tok3 nt3 true=tok4 at *;generalize hnt4:nt3+1=nt4 at *;rw[hg] at hI;refine sN ?_;refine sL (stShB m ⟨thr,some g,e,v⟩ n nb box) (fun a=>TK tok nt a.tok a.nt [.tok a.t]/\FarI n m.next (a.far,a.q)/\farM (a.far,a.q)<=n/\farN m.prev thr (farM (a.far,a.q)) a.far a.q=Far) (fun a=>farM (a.far,a.q)) ⟨fr0,q0,tq,tok4,nt4⟩ ⟨htkq,hI,hmM,hini⟩ (wM htkq.le rfl (by simp[ToL,lk,lb_at]) (by simp[BoxL,lk])) ?_;rintro⟨far,q,t,tok5,nt5⟩ S ⟨htk5,hI,hfm,hfn⟩ hS;simp only[stShB] at hS htk5 hI hfm hfn;subst hS;cases q with
  | nil =>
   rw[farN_nil] at hfn;subst hfn;have hl:=hI.len;simp only at hl;have h0:0<far.length:=by omega
   have h0n:(0:Int)<(n:Int):=by omega
   have hg0:fAt far 0=far[0]:=by simp[fAt,h0]
   rw[hg0] at hRes;by_cases c0:far[0]<0
   .have b0:decide (far[0]<0)=true:=by simpa using c0
    rw[if_pos c0] at hRes;subst hRes;try (simp[h0,h0n,hpos,c0,b0])
    repeat (first|(refine sR ?_;simp[h0,h0n,hpos,c0,b0])|(refine sC ?_;simp[h0,h0n,hpos,c0,b0])|(refine sX ?_;simp only[AU,↓reduceIte]))
    refine sT (sG Hb Ht htk5.old htk5.le ?_);simp[pathA]
   .have b0:decide (far[0]<0)=false:=by simpa using c0
    rw[if_neg c0] at hRes;try (simp[h0,h0n,hpos,c0,b0])
    repeat (first|(refine sR ?_;simp[h0,h0n,hpos,c0,b0])|(refine sC ?_;simp[h0,h0n,hpos,c0,b0])|(refine sX ?_;simp only[AU,↓reduceIte]))
    rw[<-hg0] at hRes;have hhi0:=hI.hi 0 ⟨Int.le_refl _,h0n⟩;simp only at hhi0;refine sN ?_;refine sL (stShD m far n nb box) (fun x=>TK tok nt x.tok x.nt [x.own]/\inR n x.a/\0<=fAt far x.a/\(x.path.length:Int)+fAt far x.a<=n+1/\pthN m.next far (fAt far x.a).toNat x.a x.path=Res/\x.path≠[]) (fun x=>(fAt far x.a).toNat) ⟨0,[0],.full,tok5,nt5⟩ ⟨htk5.tail.full,⟨Int.le_refl _,h0n⟩,by simp only;omega,by simp only[List.length_cons,List.length_nil];omega,hRes,by simp⟩ (wM htk5.le rfl (by simp[ToL,lk,lb_at]) (by simp[BoxL,lk])) ?_;rintro⟨a,path,own,tok6,nt6⟩ S ⟨htk6,har,ha0,hpl6,hpn,hpne⟩ hS;simp only[stShD] at hS htk6 har ha0 hpl6 hpn hpne;subst hS;obtain⟨ha1,ha2⟩:=har;have ha3:a.toNat<far.length:=by omega
    have hga:fAt far a=far[a.toNat]:=by simp[fAt,ha3]
    have hhi:=hI.hi a ⟨ha1,ha2⟩;simp only at hhi;by_cases c6:0<fAt far a
    .obtain⟨k,h1,h2,hf,hes,hkr,hkt⟩:=pth_step hm hI ⟨ha1,ha2⟩ c6;have ha4:a<(m.next.length:Int):=by omega
     have hrR:=hm.nextR _ (List.getElem_mem h1);have hrL:=hm.nextL _ (List.getElem_mem h1);have hwk:IntKind.i64.wrap (fAt far a-1)=fAt far a-1:=wrap_in (by omega) (by omega)
     obtain⟨F,hF⟩:∃F,(fAt far a).toNat=F+1:=⟨(fAt far a).toNat-1,by omega⟩
     rw[hF,pthN,hes] at hpn;have hix:=indexFunc_c m.next[a.toNat] 165 [.ptr (nb+5) 0 0,.ptr (nb+12) 0 0] (fun i=>decide (fAt far i=fAt far a-1)) (by omega) (lb nb box [(12,[[I a]]),(17,rowsI far),(5,[[.msl (nb+17) 0 n 1]]),(2,[m.row])]) (nb+113) tok6 nt6 (by simp[lb_at,lk]) (fun k hk box' nb' he=>shc_c far n hl a k ⟨ha1,ha2⟩ (hrR k hk) hwk (nb+5) (nb+12) (nb+17) nb' box' tok6 nt6 (he _ _ (by simp[lb_at,lk])) (he _ _ (by simp[lb_at,lk])) (he _ _ (by simp[lb_at,lk])));rw[hf] at hix;have c7:0<far[a.toNat]:=by omega
     have b7:decide (0<far[a.toNat])=true:=by simpa using c7
     try (simp[ha1,ha2,ha3,ha4,h1,c7,b7])
     repeat (first|(refine sR ?_;simp[ha1,ha2,ha3,ha4,h1,c7,b7])|(refine sC ?_;simp[ha1,ha2,ha3,ha4,h1,c7,b7])|(refine sX ?_;simp only[AU,↓reduceIte]))
     refine Stop.of_b (hix) ?_;simp;obtain⟨a',ha'⟩:∃a',m.next[a.toNat][k]=a':=⟨_,rfl⟩
     rw[ha'] at hpn hkr hkt;try (simp[ha1,ha2,ha4,h1,h2,ha'])
     repeat (first|(refine sR ?_;simp[ha1,ha2,ha4,h1,h2,ha'])|(refine sC ?_;simp[ha1,ha2,ha4,h1,h2,ha'])|(refine sX ?_;simp only[AU,↓reduceIte]))
     refine⟨⟨by omega,htk6.live⟩,?_⟩;refine sR ?_;simp;refine sN ?_;refine AL.weak (wM (l':=[(111,I a'),(11,.osl 1 (rI (path++[a'])) (.tok nt6)),(5,.ptr (nb+5) 0 0),(2,.ptr (nb+2) 0 0)]) (loc':=[(17,rowsI far),(5,[[.msl (nb+17) 0 n 1]]),(2,[m.row])]) (Nat.le_succ_of_le htk6.le) rfl (by simp[ToL,lk,lb_at]) (by simp[BoxL,lk])) ?_;try (simp)
     repeat (first|(refine sR ?_;simp)|(refine sC ?_;simp)|(refine sX ?_;simp only[AU,↓reduceIte]))
     refine sE ?_;have hF':(fAt far a').toNat=F:=by omega
     exact⟨⟨a',path++[a'],.tok nt6,_,nt6+1⟩,⟨htk6.app,hkr,by simp only;omega,by simp only[List.length_append,List.length_cons,List.length_nil];omega,by simp only;rw[hF'];exact hpn,by simp⟩,by simp only;omega,wM (Nat.le_succ_of_le htk6.le) rfl (by simp[ToL,lk,lb_at]) (by simp[BoxL,lk])⟩
    .have c7:¬0<far[a.toNat]:=by omega
     have b7:decide (0<far[a.toNat])=false:=by simpa using c7
     have hz:(fAt far a).toNat=0:=by omega
     rw[hz,pthN] at hpn;subst hpn;try (simp[ha1,ha2,ha3,c7,b7])
     repeat (first|(refine sR ?_;simp[ha1,ha2,ha3,c7,b7])|(refine sC ?_;simp[ha1,ha2,ha3,c7,b7])|(refine sX ?_;simp only[AU,↓reduceIte]))
     have hpa:=pathA_ne hpne;refine sT (sG Hb Ht htk6.old htk6.le ?_);simp[ints,hpa]
  | cons k q =>
   obtain⟨hkr,hk0⟩:=hI.q k (by simp);obtain⟨hk1,hk2⟩:=hkr;simp only at hk0;have hpl:=hm.prev;have hk3:k.toNat<m.prev.length:=by omega
   have hk4:k<(m.prev.length:Int):=by omega
   have hcvk:=hcv k ⟨hk1,hk2⟩;have hrd:m.prev.getD k.toNat []=m.prev[k.toNat]:=by simp[hk3]
   obtain⟨r,hr⟩:∃r,m.prev[k.toNat]=r:=⟨_,rfl⟩
   have hrR:=hm.prevR _ (List.getElem_mem hk3);have hrL:=hm.prevL _ (List.getElem_mem hk3);rw[hrd] at hcvk;rw[hr] at hrR hrL hrd hcvk;have hms:farM (far,k::q)=farM (far,q)+1:=by simp[farM];omega
   rw[hms,farN,hrd] at hfn;have hIt:=hI.tail;have hFi:=farF_i (thr:=thr) (k:=k) ⟨hk1,hk2⟩ r (far,q) hIt hk0 (fun i hi=>⟨hrR i hi,hcvk i hi⟩);obtain⟨F,hF⟩:∃F,r.foldl (farS thr k) (far,q)=F:=⟨_,rfl⟩
   rw[hF] at hfn hFi;have hql:q.length<=n:=by
    have:=hfm
    simp[farM] at this;omega
   try (simp[hk1,hk3,hk4,hr])
   repeat (first|(refine sR ?_;simp[hk1,hk3,hk4,hr])|(refine sC ?_;simp[hk1,hk3,hk4,hr])|(refine sX ?_;simp only[AU,↓reduceIte]))
   refine sN ?_;refine sL (stShC m ⟨thr,some g,e,v⟩ n k r nb box) (fun a=>a.j<=r.length/\TK tok nt a.tok a.nt [.tok a.t]/\FarI n m.next (a.far,a.q)/\0<=fAt a.far k/\(r.drop a.j).foldl (farS thr k) (a.far,a.q)=F/\farM (a.far,a.q)=farM (far,q)) (fun a=>r.length-a.j) ⟨0,far,q,t,tok5,nt5⟩ ⟨Nat.zero_le _,htk5,hIt,hk0,hF,rfl⟩ (wM htk5.le rfl (by simp[ToL,lk,lb_at]) (by simp[BoxL,lk])) ?_;rintro⟨j,far2,q2,t2,tok6,nt6⟩ S ⟨hj,htk6,hI2,hk02,hF2,hm2⟩ hS;simp only[stShC] at hS hj htk6 hI2 hk02 hF2 hm2;subst hS;have hw2:=sW (i:=j) (by omega);repeat first|simp|refine sR ?_|refine sC ?_
   refine⟨fun hlt=>?_,fun hge=>?_⟩
   .have hxr:=hrR _ (List.getElem_mem hlt);have hxc:=hcvk _ (List.getElem_mem hlt);obtain⟨hx1,hx2⟩:=hxr;rw[List.drop_eq_getElem_cons hlt,List.foldl_cons] at hF2;obtain⟨hs1,hs2,hs3⟩:=farS_i (thr:=thr) hI2 ⟨hk1,hk2⟩ hk02 ⟨hx1,hx2⟩ hxc;have hl2:=hI2.len;simp only at hl2;have hx3:r[j].toNat<far2.length:=by omega
    have hx4:r[j]<(n:Int):=hx2
    have hx5:r[j].toNat<thr.length:=by omega
    have hx6:r[j]<(thr.length:Int):=by omega
    have hk5:k.toNat<far2.length:=by omega
    have hk6:k<(n:Int):=hk2
    have hg1:fAt far2 r[j]=far2[r[j].toNat]:=by simp[fAt,hx3]
    have hg2:thr.getD r[j].toNat false=thr[r[j].toNat]:=by simp[hx5]
    have hg3:fAt far2 k=far2[k.toNat]:=by simp[fAt,hk5]
    have hhi:=hI2.hi k ⟨hk1,hk2⟩;simp only at hhi;have hwk:IntKind.i64.wrap (far2[k.toNat]+1)=far2[k.toNat]+1:=wrap_in (by omega) (by omega)
    unfold farS at hF2 hs1 hs2 hs3;rw[hg1,hg2,hg3] at hF2 hs1 hs2 hs3;repeat first|simp[hlt,hx1,hx3,hx4]|refine sR ?_
    by_cases c1:far2[r[j].toNat]<0
    .have b1:decide (far2[r[j].toNat]<0)=true:=by simpa using c1
     cases e2:thr[r[j].toNat]
     .simp only[c1,e2,Bool.false_eq_true,and_false,↓reduceIte] at hF2 hs1 hs2 hs3;try (simp[c1,b1,hx1,hx3,hx4,hx5,hx6,e2,hw2])
      repeat (first|(refine sR ?_;simp[c1,b1,hx1,hx3,hx4,hx5,hx6,e2,hw2])|(refine sC ?_;simp[c1,b1,hx1,hx3,hx4,hx5,hx6,e2,hw2])|(refine sX ?_;simp only[AU,↓reduceIte]))
      refine sE ?_;exact⟨⟨j+1,far2,q2,t2,tok6,nt6⟩,⟨hlt,htk6,hI2,hk02,hF2,hm2⟩,by simp only;omega,wM htk6.le rfl (by simp[ToL,lk,lb_at]) (by simp[BoxL,lk])⟩
     .simp only[c1,e2,and_self,↓reduceIte] at hF2 hs1 hs2 hs3;have hq2l:q2.length<=n:=by
       have h1:farM (far2,q2)<=n:=by omega
       simp[farM] at h1;omega
      try (simp[c1,b1,hx1,hx3,hx4,hx5,hx6,e2,hk1,hk5,hk6,hwk,hw2])
      repeat (first|(refine sR ?_;simp[c1,b1,hx1,hx3,hx4,hx5,hx6,e2,hk1,hk5,hk6,hwk,hw2])|(refine sC ?_;simp[c1,b1,hx1,hx3,hx4,hx5,hx6,e2,hk1,hk5,hk6,hwk,hw2])|(refine sX ?_;simp only[AU,↓reduceIte]))
      refine⟨⟨by omega,htk6.live⟩,?_⟩;try (simp[hw2])
      repeat (first|(refine sR ?_;simp[hw2])|(refine sC ?_;simp[hw2])|(refine sX ?_;simp only[AU,↓reduceIte]))
      refine sE ?_;exact⟨⟨j+1,far2.set r[j].toNat (far2[k.toNat]+1),q2++[r[j]],nt6,_,nt6+1⟩,⟨hlt,htk6.app,hs1,hs3,hF2,hs2.trans hm2⟩,by simp only;omega,wM (Nat.le_succ_of_le htk6.le) rfl (by simp[ToL,lk,lb_at]) (by simp[BoxL,lk])⟩
    .have b1:decide (far2[r[j].toNat]<0)=false:=by simpa using c1
     simp only[c1,false_and,↓reduceIte] at hF2 hs1 hs2 hs3;try (simp[c1,b1,hw2])
     repeat (first|(refine sR ?_;simp[c1,b1,hw2])|(refine sC ?_;simp[c1,b1,hw2])|(refine sX ?_;simp only[AU,↓reduceIte]))
     refine sE ?_;exact⟨⟨j+1,far2,q2,t2,tok6,nt6⟩,⟨hlt,htk6,hI2,hk02,hF2,hm2⟩,by simp only;omega,wM htk6.le rfl (by simp[ToL,lk,lb_at]) (by simp[BoxL,lk])⟩
   .refine sX ?_;simp only[AU,↓reduceIte];have:j=r.length:=by omega
    subst this;rw[List.drop_length,List.foldl_nil] at hF2;rw[<-hF2] at hfn hFi;try (simp)
    repeat (first|(refine sR ?_;simp)|(refine sC ?_;simp)|(refine sX ?_;simp only[AU,↓reduceIte]))
    refine sE ?_;refine⟨⟨far2,q2,t2,tok6,nt6⟩,⟨htk6,hI2,by simp only;omega,by simp only;rw[hm2];exact hfn⟩,by simp only;omega,wM htk6.le rfl (by simp[ToL,lk,lb_at]) (by simp[BoxL,lk])⟩
theorem DCall.subv{P:Program}{f:FuncId}{args:List AV}{tok:Nat->Bool}{nt:Nat}{v v':AV}{tok':Nat->Bool}{nt':Nat}(h:DCall P f args tok nt v tok' nt')(hs:Sub v v'):DCall P f args tok nt v' tok' nt' :=
 fun box nb=>⟨(h box nb).1,fun G w vals hm hr=>((h box nb).2 G w vals hm hr).mono fun e w' ⟨u,av,m',G',h1,⟨h2,h3⟩,h4,h5,h6,h7⟩=>⟨u,v',m',G',h1,⟨rfl,h3⟩,h4,h5,hs _ _ _ (h2 ▸ h6),h7⟩⟩
def pathV:List Int->AV
 | []=>.d (.raw nilV)
 | a::r=>.d (ints (a::r))
theorem pathAV(l:List Int):Sub (pathA l) (pathV l):=by
 cases l with
 | nil=>exact Sub.nilv
 | cons a r=>exact Sub.refl _
def pathQ(m:Mdl)(q:Qn):List Int:=if q.endless=true then endR m q.through else shortR m q.through (q.goal.getD [])
def traceA(m:Mdl)(f:Fo):AV:=match askR m f with
 | none=>.tup [.osl 0 [] .full,B false,I 8]
 | some q=>if pathQ m q=[] then .tup [.osl 0 [] .full,B false,I 10] else .tup [.d (ints (pathQ m q)),B q.verdict,I 0]
theorem askR_ok{m:Mdl}{n:Nat}(hm:m.Ok n){f:Fo}(hf:f.Hok m){q:Qn}(h:askR m f=some q):q.through.length=n/\(q.endless=false->∃g,q.goal=some g/\g.length=n):=by
 obtain⟨ho1,ho2,ho3⟩:=hf.one;have hln:=fun x (hx:x∈f.kids)=>Fo.holds_len hm f.size x (Fo.kid_size hx) (hf.kid hx)
 have hk:∀i,i<f.kids.length->(kidV m f i).length=n:=fun i hi=>by
  have:kidV m f i=f.kids[i].holds m:=by simp[kidV,hi]
  rw[this];exact hln _ (List.getElem_mem hi)
 have hnl:=hm.next;unfold askR at h;split at h
 .rename_i c;cases h;exact⟨by simp[hnl],fun _=>⟨_,rfl,hk 0 (ho2 (by rw[c];decide))⟩⟩
 split at h
 .rename_i c;cases h;exact⟨by simp[hnl],fun _=>⟨_,rfl,by simp only[notR_len];exact hk 0 (ho2 (by rw[c];decide))⟩⟩
 split at h
 .rename_i c;cases h;have h2:2<=f.kids.length:=ho3 (by rw[c];decide) (by rw[c];decide) (by rw[c];decide) (by rw[c];decide) (by rw[c];decide) (by rw[c];decide) (by rw[c];decide) (by rw[c];decide) (by rw[c];decide) (by rw[c];decide)
  exact⟨hk 0 (by omega),fun _=>⟨_,rfl,hk 1 (by omega)⟩⟩
 split at h
 .rename_i c;cases h;exact⟨hk 0 (ho2 (by rw[c];decide)),fun h=>by cases h⟩
 split at h
 .rename_i c;cases h;exact⟨by simp only[notR_len];exact hk 0 (ho2 (by rw[c];decide)),fun h=>by cases h⟩
 .cases h
set_option maxRecDepth 100000 in
theorem trace_c(m:Mdl)(n:Nat)(hm:m.Ok n)(hcv:∀k,inR n k->∀i∈m.prev.getD k.toNat [],k∈m.next.getD i.toNat [])(f:Fo)(hsz:f.size<=1000000)(hf:f.Hok m)(t1 t2 s1 s2 L:D)(tok:Tks)(nt:Nat)(hgv:DCall prog 90 [.agg [.d t1,.d t2],.agg [.d s1,.d s2],f.av,.d L] tok nt (.tup [m.av,I 0]) tok nt):
  DCall prog 39 [.agg [.d t1,.d t2],.agg [.d s1,.d s2],f.av,.d L] tok nt (traceA m f) tok nt:=by
 intro box nb;have hask:=askT_c m n hm f hsz hf;obtain⟨Res,hRes⟩:∃Res,traceA m f=Res:=⟨_,rfl⟩
 rw[hRes];unfold traceA at hRes;refine sI func39 ntmps39 fun Hb Ht=>?_
 repeat first|simp|refine sR ?_
 refine sD (hgv) ?_;simp;cases hq:askR m f with
 | none =>
  rw[hq] at hask hRes;simp only at hRes;subst hRes;try (simp)
  repeat (first|(refine sR ?_;simp)|(refine sC ?_;simp)|(refine sX ?_;simp only[AU,↓reduceIte]))
  refine sD (hask _ _) ?_;simp[askA];try (simp)
  repeat (first|(refine sR ?_;simp)|(refine sC ?_;simp)|(refine sX ?_;simp only[AU,↓reduceIte]))
  refine sT (sH Hb Ht ?_);simp
 | some q =>
  rw[hq] at hask hRes;obtain⟨hth,hgo⟩:=askR_ok hm hf hq;simp only at hRes;try (simp)
  repeat (first|(refine sR ?_;simp)|(refine sC ?_;simp)|(refine sX ?_;simp only[AU,↓reduceIte]))
  refine sD (hask _ _) ?_;simp[askA];cases e:q.endless
  .obtain⟨g,hg1,hg2⟩:=hgo e;obtain⟨thr,go,en,ve⟩:=q;simp only at e hg1 hth;subst e;subst hg1;have hsh:=fun tok nt=>(shortestT_c m n hm thr g hth hg2 false ve hcv tok nt).subv (pathAV _)
   have hp:pathQ m ⟨thr,some g,false,ve⟩=shortR m thr g:=rfl
   rw[hp] at hRes;try (simp)
   repeat (first|(refine sR ?_;simp)|(refine sC ?_;simp)|(refine sX ?_;simp only[AU,↓reduceIte]))
   refine sD (hsh _ _) ?_;simp;generalize shortR m thr g=path at *;cases path with
   | nil =>
    simp only[↓reduceIte] at hRes;subst hRes;try (simp[pathV])
    repeat (first|(refine sR ?_;simp[pathV])|(refine sC ?_;simp[pathV])|(refine sX ?_;simp only[AU,↓reduceIte]))
    refine sT (sH Hb Ht ?_);simp
   | cons a r =>
    simp only[reduceCtorEq,↓reduceIte] at hRes;subst hRes;try (simp[pathV])
    repeat (first|(refine sR ?_;simp[pathV])|(refine sC ?_;simp[pathV])|(refine sX ?_;simp only[AU,↓reduceIte]))
    refine sT (sH Hb Ht ?_);simp
  .obtain⟨thr,go,en,ve⟩:=q;simp only at e hth;subst e;have hen:=fun tok nt=>(endlessT_c m n hm ⟨thr,go,true,ve⟩ hth tok nt).subv (pathAV _)
   have hp:pathQ m ⟨thr,go,true,ve⟩=endR m thr:=rfl
   rw[hp] at hRes;try (simp)
   repeat (first|(refine sR ?_;simp)|(refine sC ?_;simp)|(refine sX ?_;simp only[AU,↓reduceIte]))
   refine sD (hen _ _) ?_;simp;generalize endR m thr=path at *;cases path with
   | nil =>
    simp only[↓reduceIte] at hRes;subst hRes;try (simp[pathV])
    repeat (first|(refine sR ?_;simp[pathV])|(refine sC ?_;simp[pathV])|(refine sX ?_;simp only[AU,↓reduceIte]))
    refine sT (sH Hb Ht ?_);simp
   | cons a r =>
    simp only[reduceCtorEq,↓reduceIte] at hRes;subst hRes;try (simp[pathV])
    repeat (first|(refine sR ?_;simp[pathV])|(refine sC ?_;simp[pathV])|(refine sX ?_;simp only[AU,↓reduceIte]))
    refine sT (sH Hb Ht ?_);simp
set_option maxRecDepth 100000 in
theorem holds50_c(m:Mdl)(n:Nat)(hm:m.Ok n)(f:Fo)(hsz:f.size<=1000000)(hf:f.Hok m)(t1 t2 s1 s2 L:D)(tok:Tks)(nt:Nat)(hgv:DCall prog 90 [.agg [.d t1,.d t2],.agg [.d s1,.d s2],f.av,.d L] tok nt (.tup [m.av,I 0]) tok nt):
  DCall prog 35 [.agg [.d t1,.d t2],.agg [.d s1,.d s2],f.av,.d L] tok nt (.tup [.d (bools (f.holds m)),I 0]) tok nt:=by
 intro box nb;have hh:=holdsT_c m n hm (f.size+1) f (Nat.lt_succ_self _) hsz hf;have hl:=Fo.holds_len hm (f.size+1) f (Nat.lt_succ_self _) hf;have hle:=hm.le;have hpos:=hm.pos;generalize f.holds m=R at *;have hne:R≠[]:=fun h=>by rw[h] at hl;simp at hl;omega
 have hcl:=cloneB_c R hne (by omega) tok nt;refine sI func35 ntmps35 fun Hb Ht=>?_
 repeat first|simp|refine sR ?_
 refine sD (hgv) ?_;simp;try (simp)
 repeat (first|(refine sR ?_;simp)|(refine sC ?_;simp)|(refine sX ?_;simp only[AU,↓reduceIte]))
 refine sD (hh _ _) ?_;simp;refine sD (hcl) ?_;repeat first|simp|refine sR ?_
 have htk0:TK tok nt (upd (upd (upd tok nt true) nt false) (nt+1) true) (nt+2) [.tok (nt+1)]:=(((TK.start Ht).full.app).app:TK _ _ _ _ _)
 generalize (upd (upd (upd tok nt true) nt false) (nt+1) true)=tok1 at *;refine AL.weak (wM (l':=[(9,I 0),(8,.stk (nt+1) 1 (rBo R))]) (loc':=[]) (by omega) rfl (by simp[ToL,lk]) (by simp[BoxL,lk])) ?_;refine AL.stkD (nt+1) htk0.live ?_;simp only[List.map_cons,List.map_nil,AV.sdT,↓reduceIte];have htk1:TK tok nt (upd tok1 (nt+1) false) (nt+2) [.full]:=by
  have:=htk0
  refine(TK.full ⟨fun t ht=>?_,this.lt,this.le,by simp,.nil⟩);have hlt:=Ht t ht;rw[uO _ _ (by omega)];exact this.old t ht
 refine sT (sG Hb Ht htk1.old htk1.le ?_);simp
def rankK(i:Nat)(o:List Int)(k:Int):List Int:=o.set i (max (o.getD i 0) (fAt o k+1))
def rkS(nx:List (List Int))(o:List Int)(i:Nat):List Int:=if 0<=o.getD i 0∨((nx.getD i []).any fun k=>decide (fAt o k<0))=true then o else (nx.getD i []).foldl (rankK i) o
def rkP(nx:List (List Int))(o:List Int)(i:Nat):List Int:=(List.range i).foldl (rkS nx) o
def rkN(nx:List (List Int)):Nat->List Int->List Int
 | 0,o=>o
 | n+1,o=>if rkP nx o o.length=o then o else rkN nx n (rkP nx o o.length)
def rankR(m:Mdl)(l:List Bool):List Int:=rkN m.next (negs (far0 l)+1) (far0 l)
theorem rkP_succ(nx:List (List Int))(o:List Int)(i:Nat):rkP nx o (i+1)=rkS nx (rkP nx o i) i:=by simp[rkP,List.range_succ]
structure RkI (n:Nat) (o:List Int):Prop where
 len:o.length=n
 lo:∀i,i<n -> -1<=o.getD i 0
 hi:∀i,i<n->o.getD i 0+(negs o:Int)<=(n:Int)
structure RkJ (n:Nat) (o:List Int) (i:Nat) (o2:List Int) (j:Nat):Prop where
 len:o2.length=n
 oth:∀k,k<n->k≠i->o2.getD k 0=o.getD k 0
 bd:o2.getD i 0+(negs o:Int)<=(n:Int)+1
 zero:j=0->o2=o
 pos:0<j->1<=o2.getD i 0
theorem getD_set_eq{o:List Int}{i:Nat}(h:i<o.length)(v:Int):(o.set i v).getD i 0=v:=by simp[h]
theorem getD_set_ne{o:List Int}{i k:Nat}(h:k≠i)(v:Int):(o.set i v).getD k 0=o.getD k 0:=by simp[List.getElem?_set_ne (Ne.symm h)]
theorem rkJ_step{n:Nat}{o:List Int}(h:RkI n o){i:Nat}(hi:i<n)(hneg:o.getD i 0<0){o2:List Int}{j:Nat}(hj:RkJ n o i o2 j){k:Int}(hk:inR n k)(hk0:0<=fAt o k):RkJ n o i (rankK i o2 k) (j+1)/\fAt o2 k=fAt o k:=by
 obtain⟨h1,h2⟩:=hk;have hki:k.toNat≠i:=fun e=>by unfold fAt at hk0;rw[e] at hk0;omega
 have hfk:fAt o2 k=fAt o k:=hj.oth k.toNat (by omega) hki
 have hb:=h.hi k.toNat (by omega);have hb2:=hj.bd;have hil:i<o2.length:=by rw[hj.len];exact hi
 refine⟨⟨by simp[rankK,hj.len],fun x hx hne=>?_,?_,fun e=>by omega,fun _=>?_⟩,hfk⟩
 .unfold rankK;rw[getD_set_ne hne];exact hj.oth x hx hne
 .unfold rankK;rw[getD_set_eq hil,hfk];unfold fAt at hk0 ⊢;omega
 .unfold rankK;rw[getD_set_eq hil,hfk];omega
theorem negs_ext{a b:List Int}{i:Nat}(hl:a.length=b.length)(hi:i<a.length)(h:∀k,k<a.length->k≠i->b.getD k 0=a.getD k 0)(h1:a.getD i 0<0)(h2:0<=b.getD i 0):negs b+1=negs a:=by
 have e:b=a.set i (b.getD i 0):=by
  refine List.ext_getElem (by simp[hl]) fun k g1 g2=>?_
  have hk:k<a.length:=by omega
  rw[List.getElem_set];split
  .rename_i e;subst e;simp[g1]
  .rename_i hne;have:=h k hk (Ne.symm hne)
   simpa[hk,g1] using this
 rw[e];have:a.getD i 0=a[i]:=by simp[hi]
 exact negs_set hi (by rw[<-this];exact h1) h2
theorem rkJ_end{n:Nat}{o:List Int}(h:RkI n o){i:Nat}(hi:i<n)(hneg:o.getD i 0<0){o2:List Int}{j:Nat}(hj:RkJ n o i o2 j)(h0:0<j):RkI n o2/\negs o2+1=negs o:=by
 have hp:=hj.pos h0;have hn:=negs_ext (a:=o) (b:=o2) (i:=i) (by rw[h.len,hj.len]) (by rw[h.len];exact hi) (fun k hk hne=>hj.oth k (by rw[<-h.len];exact hk) hne) hneg (by omega);have hbd:=hj.bd;refine⟨⟨hj.len,fun k hk=>?_,fun k hk=>?_⟩,hn⟩
 .by_cases e:k=i
  .subst e;omega
  .rw[hj.oth k hk e];exact h.lo k hk
 .by_cases e:k=i
  .subst e;omega
  .rw[hj.oth k hk e];have:=h.hi k hk
   omega
theorem rkJ_zero{n:Nat}{o:List Int}(h:RkI n o){i:Nat}(hi:i<n):RkJ n o i o 0:=⟨h.len,fun _ _ _=>rfl,by have:=h.hi i hi;omega,fun _=>rfl,fun h=>by omega⟩
theorem rk0_i(l:List Bool):RkI l.length (far0 l):=by
 have h:=far0_i l [];refine⟨by simp[far0],fun i hi=>?_,fun i hi=>?_⟩
 .have:=h.lo (i:Int) ⟨by omega,by omega⟩
  simpa[fAt] using this
 .have:=h.hi (i:Int) ⟨by omega,by omega⟩
  simpa[fAt] using this
theorem rkc_c(o:List Int)(n:Nat)(hn:o.length=n)(k:Int)(hk:inR n k)(k12 k17 nb:Nat)(box:Bxs)(tok:Tks)(nt:Nat)(h12:box k12=some [[.msl k17 0 n 1]])(h17:box k17=some (rowsI o)):
  ACalls prog 97 [I k,.ptr k12 0 0] ⟨box,nb,tok,nt⟩ fun v m=>v=B (decide (fAt o k<0))/\m=⟨box,nb,tok,nt⟩:=by
 obtain⟨h1,h2⟩:=hk;have h6:k.toNat<o.length:=by omega
 have hg1:fAt o k=o[k.toNat]:=by simp[fAt,h6]
 rw[hg1];refine sI func97 ntmps97 fun Hb Ht=>?_
 have hkn12:=key_lt Hb h12;have hkn17:=key_lt Hb h17;repeat first|simp|refine sR ?_
 repeat first|simp[lO hkn12,lO hkn17,h12,h17,h1,h2,h6]|refine sR ?_
 refine sT (sH Hb Ht ?_);simp
structure RkO where
 c:Bool
 o:List Int
structure RkX where
 c:Bool
 i:Nat
def RkInv(n:Nat)(nx:List (List Int))(Res:List Int)(a:RkO):Prop:=RkI n a.o/\if a.c=true then ∃F,negs a.o<F/\rkN nx F a.o=Res else a.o=Res
def RkInvI(n:Nat)(nx:List (List Int))(o:List Int)(a:RkX):Prop:=RkI n (rkP nx o a.i)/\if a.c=true then negs (rkP nx o a.i)<negs o else rkP nx o a.i=o
theorem rk_step{nx:List (List Int)}{o Res:List Int}{F:Nat}(hn:negs o<F)(hr:rkN nx F o=Res):(rkP nx o o.length=o/\o=Res)∨(rkP nx o o.length≠o/\rkN nx (F-1) (rkP nx o o.length)=Res):=by
 obtain⟨F,rfl⟩:∃k,F=k+1:=⟨F-1,by omega⟩
 rw[rkN] at hr;by_cases hc:rkP nx o o.length=o
 .rw[if_pos hc] at hr;exact .inl ⟨hc,hr⟩
 .rw[if_neg hc] at hr;exact .inr ⟨hc,hr⟩
def stRkA(m:Mdl)(X:List Bool)(n nb:Nat)(box:Bxs)(tok:Tks)(nt:Nat)(i:Nat):AS :=
 ⟨tl [(42,.d (bools X)),(43,I n),(44,I i),(12,.ptr (nb+12) 0 0),(10,.ptr (nb+10) 0 0)],lb nb box [(36,rowsI (f1 X i)),(12,[[.msl (nb+36) 0 n 1]]),(10,[m.row])],tok,nt⟩
def stRkO(m:Mdl)(n nb:Nat)(box:Bxs)(tok:Tks)(nt:Nat)(a:RkO):AS :=
 ⟨tl [(15,B a.c),(12,.ptr (nb+12) 0 0),(10,.ptr (nb+10) 0 0)],lb nb box [(36,rowsI a.o),(12,[[.msl (nb+36) 0 n 1]]),(10,[m.row])],tok,nt⟩
def stRkI(m:Mdl)(o:List Int)(n nb:Nat)(box:Bxs)(tok:Tks)(nt:Nat)(a:RkX):AS :=
 ⟨tl [(59,I n),(60,I a.i),(15,B a.c),(12,.ptr (nb+12) 0 0),(10,.ptr (nb+10) 0 0)],lb nb box [(36,rowsI (rkP m.next o a.i)),(12,[[.msl (nb+36) 0 n 1]]),(10,[m.row])],tok,nt⟩
structure RkY where
 j:Nat
 o:List Int
def stRkJ(m:Mdl)(r:List Int)(i:Nat)(c:Bool)(n nb:Nat)(box:Bxs)(tok:Tks)(nt:Nat)(a:RkY):AS :=
 ⟨tl [(81,.d (ints r)),(82,I r.length),(83,I a.j),(16,I i),(59,I n),(60,I i),(15,B c),(12,.ptr (nb+12) 0 0),(10,.ptr (nb+10) 0 0)],lb nb box [(36,rowsI a.o),(12,[[.msl (nb+36) 0 n 1]]),(10,[m.row])],tok,nt⟩
set_option maxRecDepth 100000 in
theorem rank_c(m:Mdl)(n:Nat)(hm:m.Ok n)(hne:∀r∈m.next,r≠[])(f:Fo)(hsz:f.size<=1000000)(hf:f.Hok m)(hk:f.kind=10)(t1 t2 s1 s2 L:D)(tok:Tks)(nt:Nat)(hgv:DCall prog 90 [.agg [.d t1,.d t2],.agg [.d s1,.d s2],f.av,.d L] tok nt (.tup [m.av,I 0]) tok nt):
  DCall prog 40 [.agg [.d t1,.d t2],.agg [.d s1,.d s2],f.av,.d L] tok nt (.tup [.d (ints (rankR m (kidV m f 0))),I 0]) tok nt:=by
 intro box nb;obtain⟨ho1,ho2,ho3⟩:=hf.one;have h0:0<f.kids.length:=ho2 (by rw[hk];decide)
 have ih:=holdsT_c m n hm f.size _ (Fo.kid_size (List.getElem_mem h0)) (by have:=Fo.kid_size (List.getElem_mem h0);omega) (hf.kid (List.getElem_mem h0));have hln:=Fo.holds_len hm f.size _ (Fo.kid_size (List.getElem_mem h0)) (hf.kid (List.getElem_mem h0));have hkv:kidV m f 0=f.kids[0].holds m:=by simp[kidV,h0]
 have hle:=hm.le;have hpos:=hm.pos;have hnl:=hm.next;rw[hkv];obtain⟨X,hX⟩:∃X,f.kids[0].holds m=X:=⟨_,rfl⟩
 rw[hX] at ih hln ⊢;obtain⟨Res,hRes⟩:∃Res,rankR m X=Res:=⟨_,rfl⟩
 rw[hRes];unfold rankR at hRes;have b10:(f.kind != 10)=false:=by simp[hk]
 have hkl:=f.kids_len;refine sI func40 ntmps40 fun Hb Ht=>?_
 repeat first|simp|refine sR ?_
 refine sD (hgv) ?_;simp;try (simp[b10])
 repeat (first|(refine sR ?_;simp[b10])|(refine sC ?_;simp[b10])|(refine sX ?_;simp only[AU,↓reduceIte]))
 refine⟨by omega,?_⟩;try (simp[h0,Fo.cells_eq])
 repeat (first|(refine sR ?_;simp[h0,Fo.cells_eq])|(refine sC ?_;simp[h0,Fo.cells_eq])|(refine sX ?_;simp only[AU,↓reduceIte]))
 refine sD (ih _ _) ?_;simp;refine sN ?_;refine sL (stRkA m X n nb box tok nt) (fun i=>i<=X.length) (fun i=>X.length-i) 0 (Nat.zero_le _) (wM (nr _) rfl (by simp[ToL,lk,hnl,hln]) (by simp[BoxL,lk,f1_zero,hnl,hln])) ?_;rintro i S hi hS;simp only[stRkA] at hS;subst hS;have hw:=sW (i:=i) (by omega);repeat first|simp|refine sR ?_|refine sC ?_
 refine⟨fun hlt=>?_,fun hge=>?_⟩
 .have hi1:i<X.length:=by omega
  have hi2:i<(f1 X i).length:=by rw[f1_len hi];exact hi1
  have hi3:i<((f1 X i).set i (-1)).length:=by simpa using hi2
  have hset:=fun v=>f1_set (v:=v) hi1
  cases e1:X[i]
  .rw[e1] at hset;simp only[Bool.false_eq_true,↓reduceIte] at hset;have hset:=hset _ rfl;try (simp[hlt,hi1,hi2,e1,hset,hw])
   repeat (first|(refine sR ?_;simp[hlt,hi1,hi2,e1,hset,hw])|(refine sC ?_;simp[hlt,hi1,hi2,e1,hset,hw])|(refine sX ?_;simp only[AU,↓reduceIte]))
   refine sE ?_;exact⟨i+1,hi1,by omega,wkA⟩
  .rw[e1] at hset;simp only[↓reduceIte] at hset;have hset:=hset _ rfl;have hss:((f1 X i).set i (-1)).set i 0=f1 X (i+1):=by rw[List.set_set];exact hset
   try (simp[hlt,hi1,hi2,hi3,e1,hss,hw])
   repeat (first|(refine sR ?_;simp[hlt,hi1,hi2,hi3,e1,hss,hw])|(refine sC ?_;simp[hlt,hi1,hi2,hi3,e1,hss,hw])|(refine sX ?_;simp only[AU,↓reduceIte]))
   refine sE ?_;exact⟨i+1,hi1,by omega,wkA⟩
 .refine sX ?_;simp only[AU,↓reduceIte];have:i=X.length:=by omega
  subst this;rw[f1_all];try (simp)
  repeat (first|(refine sR ?_;simp)|(refine sC ?_;simp)|(refine sX ?_;simp only[AU,↓reduceIte]))
  have hI0:=rk0_i X;rw[hln] at hI0;generalize far0 X=fr0 at *;refine sN ?_;refine sL (stRkO m n nb box tok nt) (fun a=>RkInv n m.next Res a) (fun a=>2*negs a.o+(if a.c=true then 1 else 0)) ⟨true,fr0⟩ ⟨hI0,by simp only[↓reduceIte];exact⟨_,Nat.lt_succ_self _,hRes⟩⟩ wkA ?_;rintro⟨c,o⟩ S hinv hS;simp only[stRkO] at hS;subst hS;obtain⟨hI,hinv⟩:=hinv;simp only at hI;have hol:=hI.len;cases c with
  | false =>
   simp only[Bool.false_eq_true,↓reduceIte] at hinv;subst hinv;try (simp)
   repeat (first|(refine sR ?_;simp)|(refine sC ?_;simp)|(refine sX ?_;simp only[AU,↓reduceIte]))
   refine AL.weak (Weaks.frz (l':=[(9,I 0),(8,.d (ints o))]) (loc':=[]) 36 1 (rI o) (nr _) rfl (by simp[lk,rowsI_eq]) (by simp[lk]) (fun e he=>by obtain⟨b,_,rfl⟩:=List.mem_map.1 he;rfl) (by simp[ToL,lk,lb_at,hol]) (by simp[BoxL])) ?_;refine sT (sH Hb Ht ?_);simp
  | true =>
   simp only[↓reduceIte] at hinv;obtain⟨F,hF,hrk⟩:=hinv;have hstep:=rk_step hF hrk;try (simp)
   repeat (first|(refine sR ?_;simp)|(refine sC ?_;simp)|(refine sX ?_;simp only[AU,↓reduceIte]))
   refine sN ?_;refine sL (stRkI m o n nb box tok nt) (fun a=>a.i<=n/\RkInvI n m.next o a) (fun a=>n-a.i) ⟨false,0⟩ ⟨Nat.zero_le _,hI,by simp only[Bool.false_eq_true,↓reduceIte];rfl⟩ (wM (nr _) rfl (by simp[ToL,lk,lb_at]) (by simp[BoxL,lk,rkP])) ?_;rintro⟨c,i⟩ S ⟨hi,hinv⟩ hS;simp only[stRkI] at hS hi;subst hS;obtain⟨hIc,hinv⟩:=hinv;simp only at hIc hinv;have hw:=sW (i:=i) (by omega);have hsucc:=rkP_succ m.next o i;obtain⟨cur,hcur⟩:∃cur,rkP m.next o i=cur:=⟨_,rfl⟩
   rw[hcur] at hsucc hIc hinv;rw[hcur];have hcl:=hIc.len;repeat first|simp|refine sR ?_|refine sC ?_
   refine⟨fun hlt=>?_,fun hge=>?_⟩
   .have hi1:i<cur.length:=by omega
    have hi3:i<m.next.length:=by omega
    have hgn:m.next.getD i []=m.next[i]:=by simp[hi3]
    have hg1:cur.getD i 0=cur[i]:=by simp[hi1]
    have hrR:=hm.nextR _ (List.getElem_mem hi3);have hrL:=hm.nextL _ (List.getElem_mem hi3);have hrN:=hne _ (List.getElem_mem hi3);unfold rkS at hsucc;rw[hgn,hg1] at hsucc;generalize hr:m.next[i]=r at *;by_cases c1:0<=cur[i]
    .have b1:decide (0<=cur[i])=true:=by simpa using c1
     simp only[c1,true_or,↓reduceIte] at hsucc;try (simp[hlt,hi1,hi3,c1,b1,hw])
     repeat (first|(refine sR ?_;simp[hlt,hi1,hi3,c1,b1,hw])|(refine sC ?_;simp[hlt,hi1,hi3,c1,b1,hw])|(refine sX ?_;simp only[AU,↓reduceIte]))
     refine sE ?_;refine⟨⟨c,i+1⟩,⟨hlt,by simp only;rw[hsucc];exact hIc,?_⟩,by simp only;omega,wM (nr _) rfl (by simp[ToL,lk,lb_at]) (by simp[BoxL,lk,hsucc])⟩;simp only;rw[hsucc];exact hinv
    .have b1:decide (0<=cur[i])=false:=by simpa using c1
     simp only[c1,false_or] at hsucc;have hcf:=containsFunc_c r 97 [.ptr (nb+12) 0 0] (fun k=>decide (fAt cur k<0)) (by omega) (lb nb box [(36,rowsI cur),(12,[[.msl (nb+36) 0 n 1]]),(10,[m.row])]) (nb+103) tok nt (by simp[lb_at,lk]) (fun k hk box' nb' he=>rkc_c cur n hcl k (hrR k hk) (nb+12) (nb+36) nb' box' tok nt (he _ _ (by simp[lb_at,lk])) (he _ _ (by simp[lb_at,lk])));have hany:anyB (fun k:Int=>decide (fAt cur k<0)) r=r.any fun k=>decide (fAt cur k<0):=rfl
     rw[hany] at hcf;try (simp[hlt,hi1,hi3,c1,b1,hr])
     repeat (first|(refine sR ?_;simp[hlt,hi1,hi3,c1,b1,hr])|(refine sC ?_;simp[hlt,hi1,hi3,c1,b1,hr])|(refine sX ?_;simp only[AU,↓reduceIte]))
     generalize hA:(r.any fun k=>decide (fAt cur k<0))=A at *;refine Stop.of_b (hcf) ?_;simp;cases A
     .simp only[Bool.false_eq_true,↓reduceIte] at hsucc;try (simp[hi3,hlt,hr])
      repeat (first|(refine sR ?_;simp[hi3,hlt,hr])|(refine sC ?_;simp[hi3,hlt,hr])|(refine sX ?_;simp only[AU,↓reduceIte]))
      have hk0:∀k∈r,0<=fAt cur k:=fun k hk=>by
       have:=List.any_eq_false.1 hA k hk
       simp at this;exact this
      have hneg:cur.getD i 0<0:=by rw[hg1];omega
      have hrl:0<r.length:=List.length_pos_iff.2 hrN
      obtain⟨E,hE⟩:∃E,r.foldl (rankK i) cur=E:=⟨_,rfl⟩
      rw[hE] at hsucc;refine sN ?_;refine sL (stRkJ m r i c n nb box tok nt) (fun a=>a.j<=r.length/\RkJ n cur i a.o a.j/\(r.drop a.j).foldl (rankK i) a.o=E) (fun a=>r.length-a.j) ⟨0,cur⟩ ⟨Nat.zero_le _,rkJ_zero hIc hlt,hE⟩ wkA ?_;rintro⟨j,o2⟩ S ⟨hj,hJ,hE2⟩ hS;simp only[stRkJ] at hS hj hJ hE2;subst hS;have hw2:=sW (i:=j) (by omega);repeat first|simp|refine sR ?_|refine sC ?_
      refine⟨fun hlt2=>?_,fun hge2=>?_⟩
      .have hxr:=hrR _ (List.getElem_mem hlt2);have hx0:=hk0 _ (List.getElem_mem hlt2);obtain⟨hJ2,hfk⟩:=rkJ_step hIc hlt hneg hJ hxr hx0;obtain⟨hx1,hx2⟩:=hxr;rw[List.drop_eq_getElem_cons hlt2,List.foldl_cons] at hE2;have hl2:=hJ.len;have hx3:r[j].toNat<o2.length:=by omega
       have hx4:i<o2.length:=by omega
       have hgk:fAt o2 r[j]=o2[r[j].toNat]:=by simp[fAt,hx3]
       have hgi:o2.getD i 0=o2[i]:=by simp[hx4]
       have hhi:=hIc.hi r[j].toNat (by omega);have hfc:fAt cur r[j]=cur.getD r[j].toNat 0:=rfl
       have hwk:IntKind.i64.wrap (o2[r[j].toNat]+1)=o2[r[j].toNat]+1:=wrap_in (by omega) (by omega)
       have hset:rankK i o2 r[j]=o2.set i (max o2[i] (o2[r[j].toNat]+1)):=by unfold rankK;rw[hgk,hgi]
       rw[hset] at hJ2 hE2;try (simp[hlt2,hlt,hx1,hx2,hx3,hx4,hwk,hw2])
       repeat (first|(refine sR ?_;simp[hlt2,hlt,hx1,hx2,hx3,hx4,hwk,hw2])|(refine sC ?_;simp[hlt2,hlt,hx1,hx2,hx3,hx4,hwk,hw2])|(refine sX ?_;simp only[AU,↓reduceIte]))
       refine sE ?_;exact⟨⟨j+1,o2.set i (max o2[i] (o2[r[j].toNat]+1))⟩,⟨hlt2,hJ2,hE2⟩,by simp only;omega,wkA⟩
      .refine sX ?_;simp only[AU,↓reduceIte];have:j=r.length:=by omega
       subst this;rw[List.drop_length,List.foldl_nil] at hE2;obtain⟨hI2,hng⟩:=rkJ_end hIc hlt hneg hJ hrl;rw[hE2] at hI2 hng ⊢;try (simp[hw])
       repeat (first|(refine sR ?_;simp[hw])|(refine sC ?_;simp[hw])|(refine sX ?_;simp only[AU,↓reduceIte]))
       refine sE ?_;refine⟨⟨true,i+1⟩,⟨hlt,by simp only;rw[hsucc];exact hI2,?_⟩,by simp only;omega,wM (nr _) rfl (by simp[ToL,lk,lb_at]) (by simp[BoxL,lk,hsucc])⟩;simp only[↓reduceIte];rw[hsucc];cases c with
       | false=>simp only[Bool.false_eq_true,↓reduceIte] at hinv;rw[hinv] at hng;omega
       | true=>simp only[↓reduceIte] at hinv;omega
     .simp only[↓reduceIte] at hsucc;try (simp[hw])
      repeat (first|(refine sR ?_;simp[hw])|(refine sC ?_;simp[hw])|(refine sX ?_;simp only[AU,↓reduceIte]))
      refine sE ?_;refine⟨⟨c,i+1⟩,⟨hlt,by simp only;rw[hsucc];exact hIc,?_⟩,by simp only;omega,wM (nr _) rfl (by simp[ToL,lk,lb_at]) (by simp[BoxL,lk,hsucc])⟩;simp only;rw[hsucc];exact hinv
   .refine sX ?_;simp only[AU,↓reduceIte];have:i=n:=by omega
    subst this;rw[hol] at hstep;rw[hcur] at hstep;cases c with
    | false =>
     simp only[Bool.false_eq_true,↓reduceIte] at hinv;subst hinv;rcases hstep with ⟨h1,h2⟩|⟨h1,h2⟩
     .try (simp)
      repeat (first|(refine sR ?_;simp)|(refine sC ?_;simp)|(refine sX ?_;simp only[AU,↓reduceIte]))
      refine sE ?_;refine⟨⟨false,cur⟩,⟨hIc,?_⟩,by simp,wkA⟩;simp only[Bool.false_eq_true,↓reduceIte];exact h2
     .exact absurd rfl h1
    | true =>
     simp only[↓reduceIte] at hinv;rcases hstep with ⟨h1,h2⟩|⟨h1,h2⟩
     .rw[h1] at hinv;omega
     .try (simp)
      repeat (first|(refine sR ?_;simp)|(refine sC ?_;simp)|(refine sX ?_;simp only[AU,↓reduceIte]))
      refine sE ?_;refine⟨⟨true,cur⟩,⟨hIc,?_⟩,by simp;omega,wkA⟩;simp only[↓reduceIte];exact⟨F-1,by omega,h2⟩
abbrev blB(l:List Bool):D:=.sl 1 (l.map fun b=>[D.raw (.bool b)])
def isRow(t:Ty)(a:Nat):List Bool:=(List.range t.nodes.length).map fun (b:Nat)=>isB t (b:Int) (a:Int)
def isTb(t:Ty):List (List Bool):=(List.range t.nodes.length).map (isRow t)
def isD(t:Ty):D:=.sl 1 ((isTb t).map fun r=>[blB r])
def ptD(nl:Bool)(l:List Int):D:=if nl=true then .raw nilV else ints l
structure Sr.Nl (s:Sr) (nl:Bool):Prop where
 n:nl=true->∀x∈s.pt.nodes,x = -1
 e:nl=true->∀x∈s.pt.edges,x = -1
def Sr.rowD(s:Sr)(nl:Bool)(fm:Nat)(N E:List Int)(out:List Mo):List D :=
 [ints s.p.nodes,AM.edges s.p.edges,ints s.g.nodes,AM.edges s.g.edges,isD s.t,ptD nl s.pt.nodes,ptD nl s.pt.edges,.raw (.bool s.inj),.raw (.int .i64 fm),ints N,ints E,.sl 2 (mosR out)]
abbrev Sr.rowF(s:Sr)(nl:Bool)(fm:Nat)(N:List Int)(a:Nat)(E:List Int)(b:Nat)(out:List Mo)(own:Own):List AV :=
 [.d (ints s.p.nodes),.d (AM.edges s.p.edges),.d (ints s.g.nodes),.d (AM.edges s.g.edges),.d (isD s.t),.d (ptD nl s.pt.nodes),.d (ptD nl s.pt.edges),B s.inj,I fm,.stk a 1 (rI N),.stk b 1 (rI E),.osl 2 (mosR out) own]
theorem Sr.row_cds{s:Sr}{nl:Bool}{fm:Nat}{N:List Int}{a:Nat}{E:List Int}{b:Nat}{out:List Mo}{own:Own}{tok:Nat->Bool}(ha:tok a=true)(hb:tok b=true):CellDs tok (s.rowF nl fm N a E b out own) (s.rowD nl fm N E out) :=
 ⟨.d,.d,.d,.d,.d,.d,.d,.d,.d,.stk ha,.stk hb,.osl,trivial⟩
def gvI(nl:Bool)(l:List Int)(i:Nat):Int:=if nl=true then -1 else l.getD i 0
theorem gvB_gvI{nl:Bool}{l:List Int}{i:Nat}(h:nl=true->∀x∈l,x = -1)(hi:i<l.length)(k:Nat):gvB l i k=if 0<=gvI nl l i then decide (gvI nl l i=(k:Int)) else true:=by
 unfold gvB gvI;cases nl
 .simp
 .have:l.getD i 0 = -1:=by
   have:=h rfl _ (List.getElem_mem hi)
   simp[hi,this]
  rw[this];simp
theorem givenF_c(nl:Bool)(l:List Int)(i:Nat)(hi:i<l.length)(hl:l.length<=1000000):DC 305 [.d (ptD nl l),I i] (I (gvI nl l i)):=by
 intro tok nt box nb;cases nl
 .refine sI func305 ntmps305 fun Hb Ht=>?_
  simp only[ptD,Bool.false_eq_true,if_false];repeat first|simp[hi]|refine sR ?_
  refine⟨?_,fun h=>by rw[h] at hi;simp at hi⟩;try (simp[hi])
  repeat (first|(refine sR ?_;simp[hi])|(refine sC ?_;simp[hi])|(refine sX ?_;simp only[AU,↓reduceIte]))
  refine sT (sH Hb Ht ?_);simp[gvI,hi]
 .refine sI func305 ntmps305 fun Hb Ht=>?_
  simp only[ptD,if_true];try (simp)
  repeat (first|(refine sR ?_;simp)|(refine sC ?_;simp)|(refine sX ?_;simp only[AU,↓reduceIte]))
  refine sT (sH Hb Ht ?_);simp[gvI]
theorem E.dec3(e:E)(a b c:Int):decide (e=⟨a,b,c⟩)=(decide (e.ty=a)&&(decide (e.fr=b)&&decide (e.to=c))):=by
 cases e;simp
theorem fitsF_c(s:Sr)(h:s.Ok)(nl:Bool)(hnl:s.Nl nl)(fm:Nat)(N E:List Int)(out:List Mo)(i k:Nat)(hi:i<s.p.edges.length)(hk:k<s.g.edges.length)(hf:(s.p.edges.getD i default).fr<N.length)(ht:(s.p.edges.getD i default).to<N.length):DC 307 [.cptr (s.rowD nl fm N E out) 0,I i,I k] (B (s.fitK N i k)):=by
 intro tok nt box nb;have hpe:=h.p.e;have hpl:i<s.pt.edges.length:=by rw[h.pe];exact hi
 have hg:=givenF_c nl s.pt.edges i hpl (by rw[h.pe];omega);have hgv:=gvB_gvI hnl.e hpl k;obtain⟨x1,x2,x3,x4⟩:=h.vp _ (List.getElem_mem hi);have hgd:s.p.edges.getD i default=s.p.edges[i]:=by simp[hi]
 rw[hgd] at hf ht;have y1:s.p.edges[i].fr.toNat<N.length:=by omega
 have y2:s.p.edges[i].to.toNat<N.length:=by omega
 have hwx:wantX s.p N i=⟨s.p.edges[i].ty,N[s.p.edges[i].fr.toNat],N[s.p.edges[i].to.toNat]⟩:=by simp[wantX,hi,y1,y2]
 have hgi:s.g.edges.getD k default=s.g.edges[k]:=by simp[hk]
 obtain⟨R,hR⟩:∃R,s.fitK N i k=R:=⟨_,rfl⟩
 rw[hR];unfold Sr.fitK at hR;rw[hgv,hwx,hgi] at hR;generalize gvI nl s.pt.edges i=W at *;refine sI func307 ntmps307 fun Hb Ht=>?_
 repeat first|simp[Sr.rowD,hi]|refine sR ?_
 refine sD (hg _ _) ?_;simp;by_cases p01:0<=W/\W≠(k:Int)
 .obtain⟨p0,p1⟩:=p01;have b1:(W != (k:Int))=true:=by simp[p1]
  rw[if_pos p0,if_neg (by simp[p1])] at hR;try (simp[p0,b1])
  repeat (first|(refine sR ?_;simp[p0,b1])|(refine sC ?_;simp[p0,b1])|(refine sX ?_;simp only[AU,↓reduceIte]))
  refine sT (sH Hb Ht ?_);simp[<-hR]
 .have hW:(if 0<=W then decide (W=(k:Int)) else true)=true:=by
   by_cases p0:0<=W
   .rw[if_pos p0];by_cases p1:W=(k:Int)
    .simp[p1]
    .exact absurd ⟨p0,p1⟩ p01
   .rw[if_neg p0]
  rw[if_pos hW,_root_.Go.AM.E.dec3] at hR;have hst:∀Q,(0<=W->(W != (k:Int))=false->Q)->(¬0<=W->Q)->Q:=by
   intro Q h1 h2;by_cases p0:0<=W
   .refine h1 p0 ?_;by_cases p1:W=(k:Int)
    .simp[p1]
    .exact absurd ⟨p0,p1⟩ p01
   .exact h2 p0
  refine hst _ (fun p0 b1=>?_) (fun p0=>?_)
  .try (simp[p0,b1,hk,x1,x3,y1,y2,hf,ht,Sr.rowD])
   repeat (first|(refine sR ?_;simp[p0,b1,hk,x1,x3,y1,y2,hf,ht,Sr.rowD])|(refine sC ?_;simp[p0,b1,hk,x1,x3,y1,y2,hf,ht,Sr.rowD])|(refine sX ?_;simp only[AU,↓reduceIte]))
   refine sT (sH Hb Ht ?_);simp[<-hR]
  .try (simp[p0,hk,x1,x3,y1,y2,hf,ht,Sr.rowD])
   repeat (first|(refine sR ?_;simp[p0,hk,x1,x3,y1,y2,hf,ht,Sr.rowD])|(refine sC ?_;simp[p0,hk,x1,x3,y1,y2,hf,ht,Sr.rowD])|(refine sX ?_;simp only[AU,↓reduceIte]))
   refine sT (sH Hb Ht ?_);simp[<-hR]
def stPo1(s:Sr)(nl:Bool)(fm:Nat)(N E:List Int)(out:List Mo)(nb:Nat)(box:Bxs)(tok:Tks)(nt:Nat)(i:Nat):AS :=
 ⟨tl [(20,I i),(19,I s.p.edges.length),(18,.d (AM.edges s.p.edges)),(3,I ((N.length:Int)-1)),(0,.cptr (s.rowD nl fm N E out) 0)],lb nb box [],tok,nt⟩
def stPo2(s:Sr)(nl:Bool)(fm:Nat)(N E:List Int)(out:List Mo)(nb:Nat)(box:Bxs)(tok:Tks)(nt:Nat)(i:Nat)(q:Nat):AS :=
 ⟨tl [(38,I q),(37,I s.g.edges.length),(6,B false),(5,.ptr (nb+5) 0 0),(4,I i),(20,I i),(19,I s.p.edges.length),(18,.d (AM.edges s.p.edges)),(3,I ((N.length:Int)-1)),(0,.cptr (s.rowD nl fm N E out) 0)],
  lb nb box [(5,[[I (s.p.edges.getD i default).ty,I (s.p.edges.getD i default).fr,I (s.p.edges.getD i default).to]])],tok,nt⟩
theorem possibleF_c(s:Sr)(h:s.Ok)(nl:Bool)(hnl:s.Nl nl)(fm:Nat)(N E:List Int)(hN:N.length<=s.p.nodes.length)(out:List Mo):DC 306 [.cptr (s.rowD nl fm N E out) 0] (B (s.pos N)):=by
 intro tok nt box nb;have hpe:=h.p.e;have hpn:=h.p.n;have hge:=h.g.e;have hw0:IntKind.i64.wrap (↑N.length-1)=(N.length:Int)-1:=wrap_in (by omega) (by omega)
 have hfit:=fun i k hi hk hf ht=>fitsF_c s h nl hnl fm N E out i k hi hk hf ht
 obtain⟨R,hR⟩:∃R,s.pos N=R:=⟨_,rfl⟩
 rw[hR];refine sI func306 ntmps306 fun Hb Ht=>?_
 repeat first|simp[Sr.rowD,hw0]|refine sR ?_
 refine sN ?_;refine sL (stPo1 s nl fm N E out nb box tok nt) (fun i=>i<=s.p.edges.length/\∀j,j<i->s.posE N j=true) (fun i=>s.p.edges.length-i) 0 ⟨Nat.zero_le _,fun j hj=>absurd hj (Nat.not_lt_zero _)⟩ (wM (nr _) rfl (by simp[ToL,lk,Sr.rowD]) (by simp[BoxL,lk])) ?_;rintro i S' ⟨hi,hall⟩ hS;simp only[stPo1] at hS;subst hS;have hw:=sW (i:=i) (by omega);by_cases hlt:i<s.p.edges.length
 .have hgd:s.p.edges.getD i default=s.p.edges[i]:=by simp[hlt]
  have hfit:=fun k hk=>hfit i k hlt hk
  obtain⟨x1,x2,x3,x4⟩:=h.vp _ (List.getElem_mem hlt);by_cases hmx:max s.p.edges[i].fr s.p.edges[i].to=(N.length:Int)-1
  .have b1:(max s.p.edges[i].fr s.p.edges[i].to != (N.length:Int)-1)=false:=by simp[hmx]
   have hpe0:s.posE N i=(List.range s.g.edges.length).any (s.fitK N i):=by unfold Sr.posE;rw[hgd,if_pos hmx]
   have hfit:=fun k hk=>hfit k hk (by rw[hgd];omega) (by rw[hgd];omega)
   try (simp[hlt,b1,Sr.rowD])
   repeat (first|(refine sR ?_;simp[hlt,b1,Sr.rowD])|(refine sC ?_;simp[hlt,b1,Sr.rowD])|(refine sX ?_;simp only[AU,↓reduceIte]))
   refine sN ?_;refine sL (stPo2 s nl fm N E out nb box tok nt i) (fun q=>q<=s.g.edges.length/\∀j,j<q->s.fitK N i j=false) (fun q=>s.g.edges.length-q) 0 ⟨Nat.zero_le _,fun j hj=>absurd hj (Nat.not_lt_zero _)⟩ (wM (nr _) rfl (by simp[ToL,lk,hlt,Sr.rowD]) (by simp[BoxL,lk,hlt])) ?_;rintro q S' ⟨hq0,hno⟩ hS;simp only[stPo2] at hS;subst hS;have hwq:=sW (i:=q) (by omega);by_cases hq:q<s.g.edges.length
   .have hc:=hfit q hq;try (simp[hq])
    repeat (first|(refine sR ?_;simp[hq])|(refine sC ?_;simp[hq])|(refine sX ?_;simp only[AU,↓reduceIte]))
    refine sD (hc _ _) ?_;cases e:s.fitK N i q
    .try (simp[hwq])
     repeat (first|(refine sR ?_;simp[hwq])|(refine sC ?_;simp[hwq])|(refine sX ?_;simp only[AU,↓reduceIte]))
     refine sE ?_;exact⟨q+1,⟨hq,fun j hj=>(Nat.lt_or_ge j q).elim (hno j) fun hh=>by rw[show j=q by omega];exact e⟩,by omega,wM (nr _) rfl (by simp[ToL,lk,hlt]) (by simp[BoxL,lk,hlt])⟩
    .have hp:s.posE N i=true:=by
      rw[hpe0,List.any_eq_true];exact⟨q,List.mem_range.2 hq,e⟩
     try (simp[hw])
     repeat (first|(refine sR ?_;simp[hw])|(refine sC ?_;simp[hw])|(refine sX ?_;simp only[AU,↓reduceIte]))
     refine sE ?_;exact⟨i+1,⟨hlt,fun j hj=>(Nat.lt_or_ge j i).elim (hall j) fun hh=>by rw[show j=i by omega];exact hp⟩,by omega,wkA⟩
   .have:q=s.g.edges.length:=by omega
    subst this;have hp:s.posE N i=false:=by
     rw[hpe0,List.any_eq_false];exact fun j hj=>by simp[hno j (List.mem_range.1 hj)]
    rw[Sr.pos_false hlt hp] at hR;try (simp)
    repeat (first|(refine sR ?_;simp)|(refine sC ?_;simp)|(refine sX ?_;simp only[AU,↓reduceIte]))
    refine sT (sH Hb Ht ?_);simp[<-hR]
  .have b1:(max s.p.edges[i].fr s.p.edges[i].to != (N.length:Int)-1)=true:=by simp[hmx]
   have hp:s.posE N i=true:=by unfold Sr.posE;rw[hgd,if_neg hmx]
   try (simp[hlt,b1,hw])
   repeat (first|(refine sR ?_;simp[hlt,b1,hw])|(refine sC ?_;simp[hlt,b1,hw])|(refine sX ?_;simp only[AU,↓reduceIte]))
   refine sE ?_;exact⟨i+1,⟨hlt,fun j hj=>(Nat.lt_or_ge j i).elim (hall j) fun hh=>by rw[show j=i by omega];exact hp⟩,by omega,wkA⟩
 .have:i=s.p.edges.length:=by omega
  subst this;rw[Sr.pos_true hall] at hR;try (simp)
  repeat (first|(refine sR ?_;simp)|(refine sC ?_;simp)|(refine sX ?_;simp only[AU,↓reduceIte]))
  refine sT (sH Hb Ht ?_);simp[<-hR]
def QFd(s:Sr)(nl:Bool)(fm:Nat)(box:Bxs)(nb k:Nat)(mtok:Tks)(nt0 nt:Nat)(N E:List Int)(R:List Mo)(v:AV)(m:AMem):Prop :=
 v=.tup []/\∃a b own tok nt',m=⟨upd box k (some [s.rowF nl fm N a E b R own]),nb,tok,nt'⟩/\TK mtok nt0 tok nt' [.tok a,.tok b,own]/\nt<=nt'
theorem outFd{s:Sr}{nl:Bool}{fm:Nat}{N E:List Int}{a b:Nat}{out:List Mo}{own:Own}{box:Bxs}{k base:Nat}{p q:Nat->Prop}(hq:q=fun _=>True):∀k' rows,k'<base->(upd box k (some [s.rowF nl fm N a E b out own])) k'=some rows->box k'=some rows∨∀r∈rows,∀x∈r,OkIn p q x:=by
 subst hq;intro k' rows hk' hr;by_cases e:k'=k
 .subst e;rw[uS] at hr;cases hr;exact .inr (by simp)
 .rw[uO _ _ e] at hr;exact .inl hr
theorem flat_ints{c:Addr->Option Value}{ps:Addr->Prop}{xs:List Int}{vs:List Value}(h:FlatV c ps 1 (rI xs) vs):∀j,j<xs.length->vs[j]?=some (.int .i64 (xs.getD j 0)):=by
 intro j hj;have hj':j<(rI xs).length:=by simpa using hj
 obtain⟨u,h1,h2⟩:=h.read j 0 hj' (by simp);rw[Nat.mul_one,Nat.add_zero] at h1;have e:(rI xs)[j][0]'(by simp)=D.raw (.int .i64 xs[j]):=by simp
 rw[e] at h2;cases h2;rw[h1];simp[hj]
theorem cloneS_c(xs:List Int)(hx:xs.length<=1000000)(t:Nat)(tok:Tks)(nt:Nat)(ht:tok t=true):DCall prog 126 [.stk t 1 (rI xs)] tok nt (.d (ints xs)) tok nt:=by
 intro box nb;refine⟨Enters.mk func126 rfl (by kernel_rfl),fun G w vals hm hr=>?_⟩;obtain⟨hlen,hrv⟩:=hr
 match vals,hlen with
 | [v],_ =>
  have h0:=hrv 0 (by simp) (by simp);simp only[List.getElem_cons_zero] at h0;cases h0 with|stk h0 =>
  obtain⟨h1,A,cap,rfl,hcap,hmax,h2⟩:=h0;obtain⟨_,x,hx2⟩:=hm.toks t ht;have h3:=h2 x hx2;have hl:(rI xs).length=xs.length:=by simp
  rw[hl] at hcap ⊢;cases A with
  | none =>
   have he:xs=[]:=by
    cases x with
    | none=>exact List.length_eq_zero_iff.1 (by simp only at h3;omega)
    | some g=>cases h3.1
   subst he;refine(Tryz.slices_Clone_int_nil _ cap w).mono ?_;rintro e w' ⟨rfl,rfl⟩;exact⟨_,_,_,G,rfl,⟨rfl,rfl⟩,rfl,hm,.d (.sl (es:=[]) (fun _ _=>default) (nr _) (by decide) (by simp) (by simp) (by simp) (by simp)),Le.refl _ _,fun k hk=>⟨hk,rfl⟩⟩
  | some a =>
   by_cases e:xs=[]
   .subst e;refine(Tryz.slices_Clone_int_zero a cap w).mono ?_;rintro e w' ⟨v,rfl,hown,hnn,hb⟩;exact⟨v,_,_,G,rfl,⟨rfl,rfl⟩,rfl,relM_below hm hb,.d (rvd_owns hm hown),le_below hm hb,fun k hk=>⟨hk,rfl⟩⟩
   .have hne:xs.length≠0:=fun h=>e (List.length_eq_zero_iff.1 h)
    cases x with
    | none=>simp only at h3;omega
    | some g =>
     obtain⟨hA,vs,sp,et,hg,hh,hln,hfl,_⟩:=h3;cases hA;have hc:∀j,j<xs.length->w.cell? ⟨g,0+j,none⟩=some (.int .i64 (xs.getD j 0)):=by
      intro j hj;have:=flat_ints hfl j hj
      rw[Nat.zero_add,cell_of_row w g _ _ et (0,0) hh];have hj2:j<vs.length:=by rw[hfl.len];simpa using hj
      simp only[List.getElem?_toArray,List.getElem?_append_left hj2];exact this
     have:=Tryz.slices_Clone_int g 0 xs.length cap xs w (nr _) (by omega) hc
     rw[List.take_length] at this;refine this.mono ?_;rintro e w' ⟨v,rfl,hown,hnn,hb⟩;exact⟨v,_,_,G,rfl,⟨rfl,rfl⟩,rfl,relM_below hm hb,.d (rvd_owns hm hown),le_below hm hb,fun k hk=>⟨hk,rfl⟩⟩
structure AccK where
 i:Nat
 out:List Mo
 a:Nat
 b:Nat
 own:Own
 tok:Nat->Bool
 nt:Nat
def Sr.stEp(s:Sr)(fm:Nat)(N E:List Int)(n:Nat)(out:List Mo)(k:Nat):List Mo:=if s.okE N E k=true then fndE fm (s.okE N) s.g.edges.length N n (E++[(k:Int)]) out else out
def stFdE(s:Sr)(nl:Bool)(fm:Nat)(N E:List Int)(nb k:Nat)(box:Bxs)(x:AccK):AS :=
 ⟨tl [(164,I x.i),(163,I s.g.edges.length),(162,.d (AM.edges s.g.edges)),(6,I E.length),(0,.ptr k 0 0)],lb nb (upd box k (some [s.rowF nl fm N x.a E x.b x.out x.own])) [],x.tok,x.nt⟩
theorem rI_cut(E:List Int)(v:Int):List.take E.length (rI (E++[v]))=rI E:=by
 unfold rI;rw[List.map_append,List.take_append_of_le_length (by simp),List.take_of_length_le (by simp)]
set_option maxRecDepth 100000 in
theorem findE_c(s:Sr)(h:s.Ok)(nl:Bool)(hnl:s.Nl nl)(fm:Nat)(hfm:fm<=1000000)(N:List Int)(hN:N.length=s.p.nodes.length)(mtok:Tks)(nt0:Nat):∀(n:Nat) (E:List Int) (out:List Mo) (a b:Nat) (own:Own) (box:Bxs) (nb k:Nat) (tok:Tks) (nt:Nat),E.length+n=s.p.edges.length->out.length<=fm ->
  box k=some [s.rowF nl fm N a E b out own]->TK mtok nt0 tok nt [.tok a,.tok b,own]->ACalls prog 286 [.ptr k 0 0] ⟨box,nb,tok,nt⟩ (QFd s nl fm box nb k mtok nt0 nt N E (fndE fm (s.okE N) s.g.edges.length N n E out)):=by
 have hpn:=h.p.n;have hpe:=h.p.e;have hgn:=h.g.n;have hge:=h.g.e;intro n;induction n with
 | zero =>
  intro E out a b own box nb k tok nt hE ho hk htk;have hself:box=upd box k (some [s.rowF nl fm N a E b out own]):=(upd_self box k _ hk).symm
  refine sI func286 ntmps286 fun Hb Ht=>?_
  have hkn:=key_lt Hb hk;have hEl:E.length=s.p.edges.length:=by omega
  repeat first|simp[lO hkn,hk]|refine sR ?_
  by_cases hbig:out.length=fm
  .have b1:((out.length:Int)==(fm:Int))=true:=by simp[hbig]
   try (simp[lO hkn,hk,b1])
   repeat (first|(refine sR ?_;simp[lO hkn,hk,b1])|(refine sC ?_;simp[lO hkn,hk,b1])|(refine sX ?_;simp only[AU,↓reduceIte]))
   refine sN ?_;refine sE ?_;refine⟨by simp,(Fin.own (vs:=[]) (av:=.tup []) (by simp[resAs,resA]) Hb rfl (nr _) (by simp)).mono fun v m hq=>⟨hq.1,a,b,own,tok,nt,?_,htk,nr _⟩⟩;rw[hq.2,fndE,if_pos hbig,<-hself]
  .have b1:((out.length:Int)==(fm:Int))=false:=by simp;omega
   have hta:tok a=true:=htk.live
   have htb:tok b=true:=htk.swap.live
   try (simp[lO hkn,hk,b1,hN,hEl])
   repeat (first|(refine sR ?_;simp[lO hkn,hk,b1,hN,hEl])|(refine sC ?_;simp[lO hkn,hk,b1,hN,hEl])|(refine sX ?_;simp only[AU,↓reduceIte]))
   refine sD (cloneS_c N (by omega) a _ _ hta) ?_;simp[lO hkn,hk];refine sD (cloneS_c E (by omega) b _ _ htb) ?_;simp[lO hkn,hk];refine⟨⟨by omega,htk.pick3.live⟩,?_⟩;simp only[uL hkn];refine sN ?_;refine sE ?_;have htk2:=htk.pick3.app.put3;refine⟨by simp,(Fin.gen (vs:=[]) (av:=.tup []) (tok':=upd (own.kill tok) nt true) (nt':=nt+1) (by simp[resAs,resA]) ?_ (by omega) (nr _) (fun t h=>⟨h,.inl rfl⟩) ?_ (by simp)).mono fun v m hq=>⟨hq.1,a,b,.tok nt,_,nt+1,?_,htk2,by omega⟩⟩
   .rw[<-uL hkn,Hb]
   .intro k' rows hk' hr;by_cases e:k'=k
    .subst e;rw[uS] at hr;cases hr;exact .inr (by simp)
    .rw[uO _ _ e] at hr;exact .inl hr
   .rw[hq.2,fndE,if_neg hbig];simp[Sr.rowF]
 | succ n ih =>
  intro E out a b own box nb k tok nt hE ho hk htk;have hself:box=upd box k (some [s.rowF nl fm N a E b out own]):=(upd_self box k _ hk).symm
  have hlt:E.length<s.p.edges.length:=by omega
  refine sI func286 ntmps286 fun Hb Ht=>?_
  have hkn:=key_lt Hb hk;repeat first|simp[lO hkn,hk]|refine sR ?_
  by_cases hbig:out.length=fm
  .have b1:((out.length:Int)==(fm:Int))=true:=by simp[hbig]
   try (simp[lO hkn,hk,b1])
   repeat (first|(refine sR ?_;simp[lO hkn,hk,b1])|(refine sC ?_;simp[lO hkn,hk,b1])|(refine sX ?_;simp only[AU,↓reduceIte]))
   refine sN ?_;refine sE ?_;refine⟨by simp,(Fin.own (vs:=[]) (av:=.tup []) (by simp[resAs,resA]) Hb rfl (nr _) (by simp)).mono fun v m hq=>⟨hq.1,a,b,own,tok,nt,?_,htk,nr _⟩⟩;rw[hq.2,fndE,if_pos hbig,<-hself]
  .have b1:((out.length:Int)==(fm:Int))=false:=by simp;omega
   try (simp[lO hkn,hk,b1,hN,hlt])
   repeat (first|(refine sR ?_;simp[lO hkn,hk,b1,hN,hlt])|(refine sC ?_;simp[lO hkn,hk,b1,hN,hlt])|(refine sX ?_;simp only[AU,↓reduceIte]))
   refine sN ?_;have hlb:∀loc,lb nb box loc=lb nb (upd box k (some [s.rowF nl fm N a E b out own])) loc:=fun loc=>by rw[<-hself]
   rw[hlb];refine sL (stFdE s nl fm N E nb k box) (fun x=>x.i<=s.g.edges.length/\x.out=(List.range x.i).foldl (s.stEp fm N E n) out/\x.out.length<=fm/\TK mtok nt0 x.tok x.nt [.tok x.a,.tok x.b,x.own]/\nt<=x.nt) (fun x=>s.g.edges.length-x.i)
    ⟨0,out,a,b,own,tok,nt⟩ ⟨Nat.zero_le _,rfl,ho,htk,nr _⟩ (Weaks.mk' (nr _) (by simp[ToL,lk];exact to_ptr (by rw[lO hkn,uS];simp)) (by simp[BoxL,lk]) (outFd rfl)) ?_
   rintro⟨i,out2,a2,b2,own2,tok2,nt2⟩ S ⟨hi,hout,ho2,htk2,hnt2⟩ hS;simp only[stFdE] at hS hi hout ho2 htk2 hnt2;subst hS;have hw:IntKind.i64.wrap (↑i+1)=((i+1:Nat):Int):=by rw[wrap_in (by omega) (by omega)];omega
   have hfold:(List.range (i+1)).foldl (s.stEp fm N E n) out=s.stEp fm N E n out2 i:=by
    rw[hout,List.range_succ,List.foldl_append];rfl
   have hta:tok2 a2=true:=htk2.live
   have htb:tok2 b2=true:=htk2.swap.live
   by_cases hli:i<s.g.edges.length
   .obtain⟨x1,x2,x3,x4⟩:=h.vp _ (List.getElem_mem hlt);have hgd:s.p.edges.getD E.length default=s.p.edges[E.length]:=by simp[hlt]
    have hfit:=fitsF_c s h nl hnl fm N E out2 E.length i hlt hli (by rw[hgd];omega) (by rw[hgd];omega);have hoke:=s.okE_eq N E i;try (simp[lO hkn,uS,hli])
    repeat (first|(refine sR ?_;simp[lO hkn,uS,hli])|(refine sC ?_;simp[lO hkn,uS,hli])|(refine sX ?_;simp only[AU,↓reduceIte]))
    refine Stop.of_r (RCall.lends rfl (fun tok=>hfit tok nt2) ⟨.ptr (by simp only[lO hkn,uS]) (Sr.row_cds (own:=own2) hta htb),.same (by simp),.same (by simp),trivial⟩) ?_;cases e1:s.fitK N E.length i
    .have hok:s.okE N E i=false:=by rw[hoke,e1];rfl
     try (simp[lO hkn,uS,hw])
     repeat (first|(refine sR ?_;simp[lO hkn,uS,hw])|(refine sC ?_;simp[lO hkn,uS,hw])|(refine sX ?_;simp only[AU,↓reduceIte]))
     refine sE ?_;exact⟨⟨i+1,out2,a2,b2,own2,tok2,nt2⟩,⟨hli,by rw[hfold,Sr.stEp,hok];simp,ho2,htk2,hnt2⟩,by simp only;omega,Weaks.mk' (by have:=htk2.le;omega) (by simp[ToL,lk];exact to_ptr (by rw[lO hkn,uS];simp)) (by simp[BoxL,lk]) (outFd rfl)⟩
    .have hoke:s.okE N E i=!usB s.inj E i:=by rw[hoke,e1];simp
     have skip:∀Q:Prop,(s.inj=true->decide ((i:Int)∈E)=true->Q)->(s.inj=true->decide ((i:Int)∈E)=false->Q)->(s.inj=false->Q)->Q:=by
      intro Q h1 h2 h3;cases ei:s.inj
      .exact h3 ei
      .cases ed:decide ((i:Int)∈E)
       .exact h2 ei ed
       .exact h1 ei ed
     refine skip _ (fun ei ed=>?_) (fun ei ed=>?_) (fun ei=>?_)
     .have hok:s.okE N E i=false:=by rw[hoke,usB,if_pos ei,ed];rfl
      simp[lO hkn,uS,ei];refine Stop.of_r (RCall.lends rfl (fun tok=>contains_c E i (by omega) tok nt2) ⟨.stk htb,.same (by simp),trivial⟩) ?_;rw[ed];try (simp[hw])
      repeat (first|(refine sR ?_;simp[hw])|(refine sC ?_;simp[hw])|(refine sX ?_;simp only[AU,↓reduceIte]))
      refine sE ?_;exact⟨⟨i+1,out2,a2,b2,own2,tok2,nt2⟩,⟨hli,by rw[hfold,Sr.stEp,hok];simp,ho2,htk2,hnt2⟩,by simp only;omega,Weaks.mk' (by have:=htk2.le;omega) (by simp[ToL,lk];exact to_ptr (by rw[lO hkn,uS];simp)) (by simp[BoxL,lk]) (outFd rfl)⟩
     .have hok:s.okE N E i=true:=by rw[hoke,usB,if_pos ei,ed];rfl
      simp[lO hkn,uS,ei];refine Stop.of_r (RCall.lends rfl (fun tok=>contains_c E i (by omega) tok nt2) ⟨.stk htb,.same (by simp),trivial⟩) ?_;rw[ed];try (simp[lO hkn,uS])
      repeat (first|(refine sR ?_;simp[lO hkn,uS])|(refine sC ?_;simp[lO hkn,uS])|(refine sX ?_;simp only[AU,↓reduceIte]))
      refine⟨⟨by omega,htb⟩,?_⟩;have htk3:=htk2.swap.app.swap;simp only[uL hkn,upd_upd];try (simp[lO hkn,uS])
      repeat (first|(refine sR ?_;simp[lO hkn,uS])|(refine sC ?_;simp[lO hkn,uS])|(refine sX ?_;simp only[AU,↓reduceIte]))
      refine Stop.of_a (ih (E++[(i:Int)]) out2 a2 nt2 own2 _ _ k _ _ (by simp;omega) ho2 (by simp[lO hkn,uS]) htk3) ?_;rintro v m' ⟨rfl,a3,b3,own3,tok3,nt3,rfl,htk4,hle4⟩;have hle4:nt2+1<=nt3:=hle4
      have hle5:nt<=nt3:=by omega
      simp[uL hkn,upd_upd];try (simp[lO hkn,uS,rI_cut,hw])
      repeat (first|(refine sR ?_;simp[lO hkn,uS,rI_cut,hw])|(refine sC ?_;simp[lO hkn,uS,rI_cut,hw])|(refine sX ?_;simp only[AU,↓reduceIte]))
      simp only[uL hkn,upd_upd];refine sE ?_;exact⟨⟨i+1,fndE fm (s.okE N) s.g.edges.length N n (E++[(i:Int)]) out2,a3,b3,own3,tok3,nt3⟩,⟨hli,by rw[hfold,Sr.stEp,hok];simp,fndE_len ho2,htk4,by omega⟩,by simp only;omega,Weaks.mk' hle5 (by simp[ToL,lk];exact to_ptr (by rw[lO hkn,uS];simp)) (by simp[BoxL,lk]) (outFd rfl)⟩
     .have hok:s.okE N E i=true:=by rw[hoke,usB,if_neg (by simp[ei])];rfl
      simp[lO hkn,uS,ei];try (simp[lO hkn,uS])
      repeat (first|(refine sR ?_;simp[lO hkn,uS])|(refine sC ?_;simp[lO hkn,uS])|(refine sX ?_;simp only[AU,↓reduceIte]))
      refine⟨⟨by omega,htb⟩,?_⟩;have htk3:=htk2.swap.app.swap;simp only[uL hkn,upd_upd];try (simp[lO hkn,uS])
      repeat (first|(refine sR ?_;simp[lO hkn,uS])|(refine sC ?_;simp[lO hkn,uS])|(refine sX ?_;simp only[AU,↓reduceIte]))
      refine Stop.of_a (ih (E++[(i:Int)]) out2 a2 nt2 own2 _ _ k _ _ (by simp;omega) ho2 (by simp[lO hkn,uS]) htk3) ?_;rintro v m' ⟨rfl,a3,b3,own3,tok3,nt3,rfl,htk4,hle4⟩;have hle4:nt2+1<=nt3:=hle4
      have hle5:nt<=nt3:=by omega
      simp[uL hkn,upd_upd];try (simp[lO hkn,uS,rI_cut,hw])
      repeat (first|(refine sR ?_;simp[lO hkn,uS,rI_cut,hw])|(refine sC ?_;simp[lO hkn,uS,rI_cut,hw])|(refine sX ?_;simp only[AU,↓reduceIte]))
      simp only[uL hkn,upd_upd];refine sE ?_;exact⟨⟨i+1,fndE fm (s.okE N) s.g.edges.length N n (E++[(i:Int)]) out2,a3,b3,own3,tok3,nt3⟩,⟨hli,by rw[hfold,Sr.stEp,hok];simp,fndE_len ho2,htk4,by omega⟩,by simp only;omega,Weaks.mk' hle5 (by simp[ToL,lk];exact to_ptr (by rw[lO hkn,uS];simp)) (by simp[BoxL,lk]) (outFd rfl)⟩
   .have:i=s.g.edges.length:=by omega
    subst this;try (simp[lO hkn,uS])
    repeat (first|(refine sR ?_;simp[lO hkn,uS])|(refine sC ?_;simp[lO hkn,uS])|(refine sX ?_;simp only[AU,↓reduceIte]))
    refine sN ?_;refine sE ?_;refine⟨by simp,(Fin.gen (vs:=[]) (av:=.tup []) (tok':=tok2) (nt':=nt2) (by simp[resAs,resA]) ?_ hnt2 (nr _) (fun t h=>⟨h,.inl rfl⟩) (outFd (by simp)) (by simp)).mono fun v m hq=>⟨hq.1,a2,b2,own2,tok2,nt2,?_,htk2,hnt2⟩⟩
    .rw[<-uL hkn,Hb]
    .rw[hq.2,fndE,if_neg hbig,hout];rfl
end Go.AM
