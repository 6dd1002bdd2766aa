/-
 Parts of the proof, as merged from many texts: a machine over data, what the functions compute, plain laws.
-/
import Derived.Test.YtebmobphgaiaiaaGreatPCP7
set_option linter.unusedSimpArgs false
set_option linter.unusedVariables false
namespace Go.AM
open Go Go.Proofs
def sum7 (c:Cd):Int:=IntKind.i64.wrap (IntKind.i64.wrap (IntKind.i64.wrap (IntKind.i64.wrap (IntKind.i64.wrap (IntKind.i64.wrap (↑c.m.nodes.length+↑c.m.edges.length)+↑c.g.nodes.length)+↑c.g.edges.length)+↑c.sl.length)+c.vars)+↑c.te.length)
theorem sum7_bare {c:Cd} (hb:c.Big):(sum7 c==0&&c.vars==0)=unusedC c:=by
 cases hb with
 | mk hk hmn hme hgn hge hs ht h =>
  rw [bigN_eq] at hmn hme hgn hge hs ht;by_cases hv:c.vars=0
  ·have h0:sum7 c=((c.m.nodes.length+c.m.edges.length+c.g.nodes.length+c.g.edges.length+c.sl.length+c.te.length:Nat):Int):=by
    unfold sum7;rw [hv,wrap_in (n:=↑c.m.nodes.length+↑c.m.edges.length) (by omega) (by omega)];rw [wrap_in (n:=↑c.m.nodes.length+↑c.m.edges.length+↑c.g.nodes.length) (by omega) (by omega)];rw [wrap_in (n:=↑c.m.nodes.length+↑c.m.edges.length+↑c.g.nodes.length+↑c.g.edges.length) (by omega) (by omega)];rw [wrap_in (n:=↑c.m.nodes.length+↑c.m.edges.length+↑c.g.nodes.length+↑c.g.edges.length+↑c.sl.length) (by omega) (by omega)];rw [wrap_in (n:=↑c.m.nodes.length+↑c.m.edges.length+↑c.g.nodes.length+↑c.g.edges.length+↑c.sl.length+0) (by omega) (by omega)];rw [wrap_in (by omega) (by omega)];omega
   rw [Bool.eq_iff_iff,h0];simp only [unusedC,plainC,z0,hv,Bool.and_eq_true,beq_iff_eq];simp only [true_and,and_true];omega
  ·rw [Bool.eq_iff_iff];simp [unusedC,plainC,z0,hv]
theorem bare_c (c:Cd) (hb:c.Big) (tok:Tks) (nt:Nat):DCall Tryz.prog 249 [c.av] tok nt (B (unusedC c)) tok nt:=by
 intro box nb;have hs:=sum7_bare hb;have hd:=show sum7 c=IntKind.i64.wrap (IntKind.i64.wrap (IntKind.i64.wrap (IntKind.i64.wrap (IntKind.i64.wrap (IntKind.i64.wrap (↑c.m.nodes.length+↑c.m.edges.length)+↑c.g.nodes.length)+↑c.g.edges.length)+↑c.sl.length)+c.vars)+↑c.te.length) from rfl
 refine sI Tryz.func249 Tryz.ntmps249 fun hbox htok=>?_
 repeat (first|simp|refine sR ?_)
 rw [←hd];cases h0:sum7 c==0
 ·rw [h0] at hs;repeat (first|simp|refine sR ?_)
  refine sT (sH hbox htok ?_);simp [packA,←hs]
 ·rw [h0] at hs;repeat (first|simp|refine sR ?_)
  refine sT (sH hbox htok ?_);simp [packA,←hs]
def stSz (c:Cd) (nb:Nat) (box:Bxs) (tok:Tks) (nt:Nat) (i:Nat):AState :=
 ⟨tl [(4,I (measK c.kids i).1),(5,I (measK c.kids i).2),(6,I i),(1,.ptr (nb+1) 0 0)],lb nb box [(1,[c.row])],tok,nt⟩
theorem size25_c:∀ (n:Nat) (c:Cd),SizeOf.sizeOf c<n→c.Big→∀ (tok:Tks) (nt:Nat),DCall Tryz.prog 112 [c.av] tok nt (.tup [I c.meas.1,I c.meas.2]) tok nt
 | 0,c,hn,_,tok,nt=>absurd hn (Nat.not_lt_zero _)
 | n+1,c,hn,hb,tok,nt=>by
  intro box nb;have ih:=fun x (hx:x∈c.kids)=>size25_c n x (by have:=Cd.kid_lt hx; omega) (hb.kid x hx)
  have hkb:=hb.kids;rw [kidN_eq] at hkb;have hR:=c.meas_eq;refine sI Tryz.func112 Tryz.ntmps112 fun hbox htok=>?_
  repeat (first|simp|refine sR ?_)
  refine sN ?_;refine AL.loopT (stSz c nb box tok nt) (fun i=>i≤c.kids.length) (fun i=>c.kids.length - i) 0 (Nat.zero_le _) (Weaks.mk (Nat.le_refl _) rfl (by simp [ToL,lk,measK_zero]) (by simp [BoxL,lk])) ?_;rintro i S hi hS;simp only [stSz] at hS;subst hS;have hw:=sW (i:=i) (by omega);refine sR ?_;simp;refine sC ?_;simp;refine ⟨fun hlt=>?_,fun hge=>?_⟩
  ·have hS:=measK_succ c.kids hlt;have ihx:=ih _ (List.getElem_mem hlt);refine sR ?_;simp [hlt,Cd.cells_eq];generalize c.kids[i]=x at *;refine Stop.of_d (ihx _ _) ?_;simp;repeat (first|simp [hw]|refine sR ?_)
   refine sE ?_;exact ⟨i+1,hlt,by omega,Weaks.mk (Nat.le_refl _) rfl (by simp [ToL,lk,hS]) (by simp [BoxL,lk])⟩
  ·refine sX ?_;simp only [AU, ↓reduceIte];have:i=c.kids.length:=by omega
   subst this;repeat (first|simp|refine sR ?_)
   by_cases h5:c.kind=5
   ·have hb5:(c.kind==5)=true:=by simp [h5]
    simp only [hb5];refine sC ?_;repeat (first|simp|refine sR ?_)
    refine sT (sH hbox htok ?_);simp [packA,hR,h5]
   ·have hb5:(c.kind==5)=false:=by simp [h5]
    simp only [hb5];refine sC ?_;repeat (first|simp|refine sR ?_)
    refine sT (sH hbox htok ?_);simp [packA,hR,h5]
theorem large32_c (c:Cd) (hb:c.Big) (tok:Tks) (nt:Nat):DCall Tryz.prog 123 [c.av] tok nt (I (smallC c)) tok nt:=by
 intro box nb;have hm:=size25_c _ c (Nat.lt_succ_self _) hb;unfold smallC;generalize c.meas=q at *;refine sI Tryz.func123 Tryz.ntmps123 fun hbox htok=>?_
 repeat (first|simp|refine sR ?_)
 refine Stop.of_d (hm _ _) ?_;repeat (first|simp|refine sR ?_)
 by_cases h1:2000<q.1
 ·simp [h1];repeat (first|simp|refine sR ?_)
  refine sC ?_;repeat (first|simp|refine sR ?_)
  refine sT (sH hbox htok ?_);simp [packA,h1]
 ·by_cases h2:3<q.2
  ·simp [h1,h2];repeat (first|simp|refine sR ?_)
   refine sC ?_;repeat (first|simp|refine sR ?_)
   refine sT (sH hbox htok ?_);simp [packA,h1,h2]
  ·simp [h1,h2];repeat (first|simp|refine sR ?_)
   refine sC ?_;repeat (first|simp|refine sR ?_)
   refine sT (sH hbox htok ?_);simp [packA,h1,h2]
theorem unused_plain {c:Cd} (h:unusedC c=true):plainC c=true:=by
 simp only [unusedC,Bool.and_eq_true] at h;exact h.2.2.2.2
theorem shape48_c (c:Cd) (hb:c.Big) (tok:Tks) (nt:Nat):DCall Tryz.prog 193 [c.av] tok nt (I (shapeC c)) tok nt:=by
 intro box nb;have hba:=bare_c c hb;refine sI Tryz.func193 Tryz.ntmps193 fun hbox htok=>?_
 repeat (first|simp|refine sR ?_)
 have hpl:=fun h=>unused_plain (c:=c) h
 by_cases k1:c.kind=1
 ·have b1:(c.kind==1)=true:=by simp [k1]
  simp only [b1];refine sC ?_;simp;by_cases h1:0<c.kids.length
  ·have hk0:c.kids≠[]:=by intro e; simp [e] at h1
   repeat (first|simp [h1]|refine sR ?_)
   refine sC ?_;repeat (first|simp|refine sR ?_)
   refine sT (sH hbox htok ?_);simp [packA,shapeC,okC,k1,h1,z0,hk0]
  ·have hk0:c.kids=[]:=by simpa using h1
   repeat (first|simp [h1]|refine sR ?_)
   refine Stop.of_d (hba _ _) ?_;repeat (first|simp|refine sR ?_)
   cases hu:unusedC c
   ·refine sC ?_;repeat (first|simp|refine sR ?_)
    refine sT (sH hbox htok ?_);simp [packA,shapeC,okC,k1,h1,z0,hk0,hu]
   ·refine sC ?_;repeat (first|simp|refine sR ?_)
    refine sT (sH hbox htok ?_);simp [packA,shapeC,okC,k1,h1,z0,hk0,hu,hpl hu]
 ·have b1:(c.kind==1)=false:=by simp [k1]
  simp only [b1];refine sC ?_;repeat (first|simp|refine sR ?_)
  by_cases k2:c.kind=2
  ·have b2:(c.kind==2)=true:=by simp [k2]
   simp only [b2];refine sC ?_;simp;by_cases h1:(c.kids.length:Int)=1
   ·have n1:((c.kids.length:Int)!=1)=false:=by simp [h1]
    repeat (first|simp [n1]|refine sR ?_)
    refine Stop.of_d (hba _ _) ?_;repeat (first|simp|refine sR ?_)
    cases hu:unusedC c
    ·refine sC ?_;repeat (first|simp|refine sR ?_)
     refine sT (sH hbox htok ?_);simp [packA,shapeC,okC,k2,h1,z0,hu]
    ·refine sC ?_;repeat (first|simp|refine sR ?_)
     refine sT (sH hbox htok ?_);simp [packA,shapeC,okC,k2,h1,z0,hu,hpl hu]
   ·have n1:((c.kids.length:Int)!=1)=true:=by simp [h1]
    repeat (first|simp [n1]|refine sR ?_)
    refine sC ?_;repeat (first|simp|refine sR ?_)
    refine sT (sH hbox htok ?_);simp [packA,shapeC,okC,k2,h1,z0]
  ·have b2:(c.kind==2)=false:=by simp [k2]
   simp only [b2];refine sC ?_;repeat (first|simp|refine sR ?_)
   refine AL.mid ⟨tl [(27,B (decide (c.kind=3∨c.kind=4))),(8,I c.kind),(3,I c.kids.length),(1,.ptr (nb+1) 0 0),(2,I 0)],lb nb box [(1,[c.row])],tok,nt⟩ ?_ ?_
   ·by_cases k3:c.kind=3
    ·have b3:(c.kind==3)=true:=by simp [k3]
     simp only [b3];refine sC ?_;repeat (first|simp|refine sR ?_)
     refine sE ?_;exact Weaks.mk (Nat.le_refl _) rfl (by simp [ToL,lk,k3]) (by simp [BoxL,lk])
    ·have b3:(c.kind==3)=false:=by simp [k3]
     simp only [b3];refine sC ?_;repeat (first|simp|refine sR ?_)
     by_cases k4:c.kind=4
     ·repeat (first|simp|refine sR ?_)
      refine sE ?_;exact Weaks.mk (Nat.le_refl _) rfl (by simp [ToL,lk,k4]) (by simp [BoxL,lk])
     ·have n4:(c.kind==4)=false:=by simp [k4]
      repeat (first|simp|refine sR ?_)
      refine sE ?_;exact Weaks.mk (Nat.le_refl _) rfl (by simp [ToL,lk,k3,k4,n4]) (by simp [BoxL,lk])
   ·by_cases k34:c.kind=3∨c.kind=4
    ·have d34:decide (c.kind=3∨c.kind=4)=true:=decide_eq_true k34
     simp only [d34];refine sC ?_;simp;by_cases h1:c.kids.length=0
     ·have n1:((c.kids.length:Int)==0)=true:=by simp [h1]
      have hk0:c.kids=[]:=by simpa using h1
      repeat (first|simp [n1,h1]|refine sR ?_)
      refine sC ?_;repeat (first|simp|refine sR ?_)
      refine sT (sH hbox htok ?_);simp [packA,shapeC,okC,k1,k2,k34,h1]
     ·have n1:((c.kids.length:Int)==0)=false:=by simp [h1]
      have hk0:c.kids≠[]:=by intro e; simp [e] at h1
      have hk1:0<c.kids.length:=by omega
      repeat (first|simp [n1,hk0]|refine sR ?_)
      refine Stop.of_d (hba _ _) ?_;repeat (first|simp|refine sR ?_)
      cases hu:unusedC c
      ·refine sC ?_;repeat (first|simp|refine sR ?_)
       refine sT (sH hbox htok ?_);simp [packA,shapeC,okC,k1,k2,k34,hk1,hu]
      ·refine sC ?_;repeat (first|simp|refine sR ?_)
       refine sT (sH hbox htok ?_);simp [packA,shapeC,okC,k1,k2,k34,hk1,hu,hpl hu]
    ·have d34:decide (c.kind=3∨c.kind=4)=false:=decide_eq_false k34
     simp only [d34];refine sC ?_;repeat (first|simp|refine sR ?_)
     by_cases k5:c.kind=5
     ·have n5:(c.kind==5)=true:=by simp [k5]
      have h3:¬ ((5:Int)=3∨(5:Int)=4):=by decide
      simp only [n5];refine sC ?_;repeat (first|simp|refine sR ?_)
      by_cases h1:(c.kids.length:Int)=1
      ·have n1:((c.kids.length:Int)!=1)=false:=by simp [h1]
       simp only [n1];refine sC ?_;simp;by_cases h4:0<c.sl.length
       ·have hp:plainC c=false:=by simp [plainC,z0]; intro e; simp [e] at h4
        repeat (first|simp [h4]|refine sR ?_)
        refine sC ?_;repeat (first|simp|refine sR ?_)
        refine sT (sH hbox htok ?_);simp [packA,shapeC,okC,k5,h1,hp]
       ·have h4':c.sl=[]:=by simpa using h4
        by_cases h5:c.vars=0
        ·by_cases h6:0<c.te.length
         ·have hp:plainC c=false:=by simp [plainC,z0]; intro _ _ e; simp [e] at h6
          repeat (first|simp [h4,h5,h6]|refine sR ?_)
          refine sC ?_;repeat (first|simp|refine sR ?_)
          refine sT (sH hbox htok ?_);simp [packA,shapeC,okC,k5,h1,hp]
         ·have h6':c.te=[]:=by simpa using h6
          have hp:plainC c=true:=by simp [plainC,z0,h4',h5,h6']
          repeat (first|simp [h4,h5,h6]|refine sR ?_)
          refine sC ?_;repeat (first|simp|refine sR ?_)
          refine sT (sH hbox htok ?_);simp [packA,shapeC,okC,k5,h1,hp]
        ·have hp:plainC c=false:=by simp [plainC,z0,h5]
         have n7:(c.vars !=0)=true:=by simp [h5]
         repeat (first|simp [h4,n7]|refine sR ?_)
         refine sC ?_;repeat (first|simp|refine sR ?_)
         refine sT (sH hbox htok ?_);simp [packA,shapeC,okC,k5,h1,hp]
      ·have n1:((c.kids.length:Int)!=1)=true:=by simp [h1]
       simp only [n1];refine sC ?_;repeat (first|simp|refine sR ?_)
       refine sT (sH hbox htok ?_);simp [packA,shapeC,okC,k5,h1]
     ·have n5:(c.kind==5)=false:=by simp [k5]
      simp only [n5];refine sC ?_;repeat (first|simp|refine sR ?_)
      refine sT (sH hbox htok ?_);simp [packA,shapeC,okC,k1,k2,k34,k5]
def stSs (c:Cd) (nb:Nat) (box:Bxs) (tok:Tks) (nt:Nat) (i:Nat):AState :=
 ⟨tl [(4,I i),(1,.ptr (nb+1) 0 0)],lb nb box [(1,[c.row])],tok,nt⟩
theorem shapes31_c:∀ (n:Nat) (c:Cd),SizeOf.sizeOf c<n→c.Big→∀ (tok:Tks) (nt:Nat),DCall Tryz.prog 220 [c.av] tok nt (I c.shs) tok nt
 | 0,c,hn,_,tok,nt=>absurd hn (Nat.not_lt_zero _)
 | n+1,c,hn,hb,tok,nt=>by
  intro box nb;have ih:=fun x (hx:x∈c.kids)=>shapes31_c n x (by have:=Cd.kid_lt hx; omega) (hb.kid x hx)
  have hkb:=hb.kids;rw [kidN_eq] at hkb;have hR:=c.shs_eq;have hsh:=shape48_c c hb;refine sI Tryz.func220 Tryz.ntmps220 fun hbox htok=>?_
  repeat (first|simp|refine sR ?_)
  refine Stop.of_d (hsh _ _) ?_;repeat (first|simp|refine sR ?_)
  by_cases h0:shapeC c=0
  ·rw [if_pos h0] at hR;simp only [h0];refine sC ?_;repeat (first|simp|refine sR ?_)
   refine sN ?_;refine AL.loopT (stSs c nb box tok nt) (fun i=>i≤c.kids.length∧∀ x∈c.kids.take i,Cd.shs x=0) (fun i=>c.kids.length - i) 0 ⟨Nat.zero_le _,by simp⟩ wkA ?_;rintro i S ⟨hi,hz⟩ hS;simp only [stSs] at hS;subst hS;have hw:=sW (i:=i) (by omega);repeat (first|simp|refine sR ?_|refine sC ?_)
   refine ⟨fun hlt=>?_,fun hge=>?_⟩
   ·have ihx:=ih _ (List.getElem_mem hlt);have hyes:=errL_more (f:=Cd.shs) hlt hz;have hno:=errL_at (f:=Cd.shs) hlt hz;repeat (first|simp [hlt,Cd.cells_eq]|refine sR ?_)
    generalize c.kids[i]=x at *;refine Stop.of_d (ihx _ _) ?_;repeat (first|simp|refine sR ?_)
    by_cases h1:x.shs=0
    ·simp only [h1];refine sC ?_;simp;repeat (first|simp [hw]|refine sR ?_)
     refine sE ?_;exact ⟨i+1,⟨hlt,hyes h1⟩,by omega,wkA⟩
    ·have b1:(x.shs !=0)=true:=by simp [h1]
     simp only [b1];refine sC ?_;repeat (first|simp|refine sR ?_)
     refine sT (sH hbox htok ?_);simp [packA,hR,hno h1]
   ·refine sX ?_;simp only [AU, ↓reduceIte];rw [List.take_of_length_le hge] at hz;repeat (first|simp|refine sR ?_)
    refine sT (sH hbox htok ?_);simp [packA,hR,errL_all hz]
  ·rw [if_neg h0] at hR;have b0:(shapeC c !=0)=true:=by simp [h0]
   simp only [b0];refine sC ?_;repeat (first|simp|refine sR ?_)
   refine sT (sH hbox htok ?_);simp [packA,hR]
theorem size11_c (c:Cd) (hb:c.Big) (tok:Tks) (nt:Nat):DCall Tryz.prog 160 [c.av] tok nt (.tup [I (sizeR c).1,I (sizeR c).2.1,I (sizeR c).2.2]) tok nt:=by
 intro box nb;have hs:=shapes31_c _ c (Nat.lt_succ_self _) hb;have hm:=size25_c _ c (Nat.lt_succ_self _) hb;have hl:=large32_c c hb;refine sI Tryz.func160 Tryz.ntmps160 fun hbox htok=>?_
 repeat (first|simp|refine sR ?_)
 refine Stop.of_d (hs _ _) ?_;repeat (first|simp|refine sR ?_)
 by_cases h0:c.shs=0
 ·simp only [h0];refine sC ?_;repeat (first|simp|refine sR ?_)
  refine Stop.of_d (hl _ _) ?_;repeat (first|simp|refine sR ?_)
  by_cases h1:smallC c=0
  ·simp only [h1];refine sC ?_;repeat (first|simp|refine sR ?_)
   refine Stop.of_d (hm _ _) ?_;repeat (first|simp|refine sR ?_)
   refine sT (sH hbox htok ?_);simp [packA,sizeR,h0,h1]
  ·have b1:(smallC c !=0)=true:=by simp [h1]
   simp only [b1];refine sC ?_;repeat (first|simp|refine sR ?_)
   refine sT (sH hbox htok ?_);simp [packA,sizeR,h0,h1]
 ·have b0:(c.shs !=0)=true:=by simp [h0]
  simp only [b0];refine sC ?_;repeat (first|simp|refine sR ?_)
  refine sT (sH hbox htok ?_);simp [packA,sizeR,h0]
def stO6 (a:Gr) (c:Cd) (nb:Nat) (box:Bxs) (tok:Tks) (nt:Nat) (i:Nat):AState :=
 ⟨tl [(7,I i),(2,.ptr (nb+2) 0 0),(3,.ptr (nb+3) 0 0)],lb nb box [(2,[a.cells2]),(3,[c.row])],tok,nt⟩
theorem shape_kind {c:Cd} (h:shapeC c=0) (h5:c.kind=5):c.kids.length=1:=by
 unfold shapeC at h;split at h
 ·rename_i hk;simp [okC,h5] at hk;omega
 ·omega
theorem errL_one {f:Cd→Int} {l:List Cd} (h:l.length=1):errL f l=f (l[0]'(by omega)):=by
 match l,h with
 | [x],_=>simp only [errL]; split <;> simp_all
theorem over36_c:∀ (n:Nat) (c:Cd),SizeOf.sizeOf c<n→c.Fit→∀ (a:Gr),a.Fit→∀ (tok:Tks) (nt:Nat),DCall Tryz.prog 122 [a.av,c.av] tok nt (I (c.ovr a)) tok nt
 | 0,c,hn,_,a,_,tok,nt=>absurd hn (Nat.not_lt_zero _)
 | n+1,c,hn,hb,a,ha,tok,nt=>by
  intro box nb;have ih:=fun x (hx:x∈c.kids)=>over36_c n x (by have:=Cd.kid_lt hx; omega) (hb.kid x hx)
  have hkb:=hb.kids;rw [kidN_eq] at hkb;have hR:=c.ovr_eq a;have hsh:=shape48_c c hb.big;have hva:=valid53_c a c.g c.m ha hb.g;have hin:=injective26_c a c.g c.m ha hb.g hb.m;have hg:=hb.g;refine sI Tryz.func122 Tryz.ntmps122 fun hbox htok=>?_
  repeat (first|simp|refine sR ?_)
  refine Stop.of_d (hsh _ _) ?_;repeat (first|simp|refine sR ?_)
  by_cases h0:shapeC c=0
  ·simp [h0];refine sC ?_;repeat (first|simp|refine sR ?_)
   have hst:ovrStep a c.kind c.m c.g=if c.kind=5 then (if validM a c.g c.m≠0 then validM a c.g c.m else if injM a c.g c.m=true then 0 else 1) else 0:=rfl
   by_cases k5:c.kind=5
   ·have hii:c.inn a=c.g:=if_pos k5
    have h1k:=shape_kind h0 k5;have hlt:0<c.kids.length:=by omega
    rw [if_pos k5] at hst;rw [hii,errL_one h1k] at hR;have n5:(c.kind==5)=true:=by simp [k5]
    simp only [n5];refine sC ?_;repeat (first|simp|refine sR ?_)
    refine Stop.of_d (hva _ _) ?_;repeat (first|simp|refine sR ?_)
    by_cases h1:validM a c.g c.m=0
    ·rw [if_neg (by simp [h1])] at hst;simp [h1];refine sC ?_;repeat (first|simp|refine sR ?_)
     refine Stop.of_d (hin _ _) ?_;repeat (first|simp|refine sR ?_)
     cases h2:injM a c.g c.m
     ·simp [h2] at hst;refine sC ?_;repeat (first|simp|refine sR ?_)
      refine sT (sH hbox htok ?_);simp [packA,hR,h0,hst]
     ·simp [h2] at hst;have ihx:=ih _ (List.getElem_mem hlt);refine sC ?_;simp;repeat (first|simp [hlt,Cd.cells_eq]|refine sR ?_)
      generalize c.kids[0]=x at *;refine Stop.of_d (ihx _ hg _ _) ?_;simp;refine sT (sH hbox htok ?_);simp [packA,hR,h0,hst]
    ·rw [if_pos (by simpa using h1)] at hst;have b1:(validM a c.g c.m !=0)=true:=by simp [h1]
     simp only [b1];refine sC ?_;repeat (first|simp|refine sR ?_)
     refine sT (sH hbox htok ?_);simp [packA,hR,h0,hst,h1]
   ·have hii:c.inn a=a:=if_neg k5
    have n5:(c.kind==5)=false:=by simp [k5]
    rw [if_neg k5] at hst;rw [if_pos h0,if_pos hst,hii] at hR;simp only [n5];refine sC ?_;repeat (first|simp|refine sR ?_)
    refine sN ?_;refine AL.loopT (stO6 a c nb box tok nt) (fun i=>i≤c.kids.length∧∀ x∈c.kids.take i,Cd.ovr x a=0) (fun i=>c.kids.length - i) 0 ⟨Nat.zero_le _,by simp⟩ wkA ?_;rintro i S ⟨hi,hz⟩ hS;simp only [stO6] at hS;subst hS;have hw:=sW (i:=i) (by omega);repeat (first|simp|refine sR ?_|refine sC ?_)
    refine ⟨fun hlt=>?_,fun hge=>?_⟩
    ·have ihx:=ih _ (List.getElem_mem hlt);have hyes:=errL_more (f:=fun x=>Cd.ovr x a) hlt hz;have hno:=errL_at (f:=fun x=>Cd.ovr x a) hlt hz;repeat (first|simp [hlt,Cd.cells_eq]|refine sR ?_)
     generalize c.kids[i]=x at *;refine Stop.of_d (ihx _ ha _ _) ?_;repeat (first|simp|refine sR ?_)
     by_cases h1:x.ovr a=0
     ·simp only [h1];refine sC ?_;simp;repeat (first|simp [hw]|refine sR ?_)
      refine sE ?_;exact ⟨i+1,⟨hlt,hyes h1⟩,by omega,wkA⟩
     ·have b1:(x.ovr a !=0)=true:=by simp [h1]
      simp only [b1];refine sC ?_;repeat (first|simp|refine sR ?_)
      refine sT (sH hbox htok ?_);simp [packA,hR,hno h1]
    ·refine sX ?_;simp only [AU, ↓reduceIte];rw [List.take_of_length_le hge] at hz;repeat (first|simp|refine sR ?_)
     refine sT (sH hbox htok ?_);simp [packA,hR,errL_all (f:=fun x=>Cd.ovr x a) hz]
  ·rw [if_neg h0] at hR;have b0:(shapeC c !=0)=true:=by simp [h0]
   simp only [b0];refine sC ?_;repeat (first|simp|refine sR ?_)
   refine sT (sH hbox htok ?_);simp [packA,hR]
theorem validR_c (a:Gr) (c:Cd) (ha:a.Fit) (hb:c.Fit) (tok:Tks) (nt:Nat):DCall Tryz.prog 63 [a.av,c.av] tok nt (I (validC a c)) tok nt:=by
 intro box nb;have hg:=valid05_c a ha;have ho:=over36_c _ c (Nat.lt_succ_self _) hb a ha;have hs:=large32_c c hb.big;refine sI Tryz.func63 Tryz.ntmps63 fun hbox htok=>?_
 repeat (first|simp|refine sR ?_)
 refine Stop.of_d (hg _ _) ?_;repeat (first|simp|refine sR ?_)
 by_cases h0:validG a=0
 ·simp only [h0];refine sC ?_;repeat (first|simp|refine sR ?_)
  refine Stop.of_d (ho _ _) ?_;repeat (first|simp|refine sR ?_)
  by_cases h1:c.ovr a=0
  ·simp only [h1];refine sC ?_;repeat (first|simp|refine sR ?_)
   refine Stop.of_d (hs _ _) ?_;repeat (first|simp|refine sR ?_)
   refine sT (sH hbox htok ?_);simp [packA,validC,h0,h1]
  ·have b1:(c.ovr a !=0)=true:=by simp [h1]
   simp only [b1];refine sC ?_;repeat (first|simp|refine sR ?_)
   refine sT (sH hbox htok ?_);simp [packA,validC,h0,h1]
 ·have b0:(validG a !=0)=true:=by simp [h0]
  simp only [b0];refine sC ?_;repeat (first|simp|refine sR ?_)
  refine sT (sH hbox htok ?_);simp [packA,validC,h0]
abbrev Mo.cells2 (m:Mo):List AV:=[.d (ints m.nodes),.d (ints m.edges)]
theorem errL_zero {f:Cd→Int}:∀ {l:List Cd},errL f l=0→∀ x∈l,f x=0
 | [],_,x,hx=>by cases hx
 | y::r,h,x,hx=>by
  simp only [errL] at h;split at h
  ·rename_i h0;rcases List.mem_cons.1 hx with rfl|hx
   ·exact h0
   ·exact errL_zero h x hx
  ·contradiction
theorem Cd.ovr_zero {c:Cd} {a:Gr} (h:c.ovr a=0):shapeC c=0∧ovrStep a c.kind c.m c.g=0∧∀ x∈c.kids,x.ovr (c.inn a)=0:=by
 rw [c.ovr_eq] at h;split at h
 ·rename_i h0;split at h
  ·rename_i h1;exact ⟨h0,h1,errL_zero h⟩
  ·contradiction
 ·contradiction
theorem ThR.nil {t k sz:Nat} {es:List (List D)}:ThR t k sz es [] []:=⟨rfl,fun i h=>by simp at h⟩
theorem ThR.cons {t k sz:Nat} {es:List (List D)} {x y:AV} {r r':List AV} (h:ThTo t k sz es x y) (hr:ThR t k sz es r r'):ThR t k sz es (x::r) (y::r'):=by
 refine ⟨by simp [hr.1],fun i h1 h2=>?_⟩
 match i with
 | 0=>exact h
 | i+1=>exact hr.2 i (by simpa using h1) (by simpa using h2)
theorem ThRs.one {t k sz:Nat} {es:List (List D)} {r r':List AV} (h:ThR t k sz es r r'):ThRs t k sz es [r] [r']:=by
 refine ⟨rfl,fun i h1 h2=>?_⟩
 match i with
 | 0=>exact h
 | i+1=>simp at h1
theorem ThRs.same {t k sz:Nat} {es:List (List D)} {r:List (List AV)}:ThRs t k sz es r r:=⟨rfl,fun i h1 h2=>⟨rfl,fun j g1 g2=>.same⟩⟩
def agrK (a b c d:List Int) (i:Nat):Bool:=decide (∀ j,j<i→b.getD (a.getD j 0).toNat 0=d.getD (c.getD j 0).toNat 0)
structure Inn (m:Mo) (a b:Gr):Prop where
 ln:m.nodes.length=a.nodes.length
 le:m.edges.length=a.edges.length
 n:∀ x∈m.nodes,0≤x∧x<b.nodes.length
 e:∀ x∈m.edges,0≤x∧x<b.edges.length
theorem Inn.of {a b:Gr} {m:Mo} (h:validM a b m=0):Inn m a b:=have V:=validM_VM h; ⟨V.ln,V.le,V.n,V.e⟩
structure OvOk (b p:Gr) (o:Ov):Prop where
 l:validM b o.g o.l=0
 r:validM p o.g o.r=0
 il:injM b o.g o.l=true
 ir:injM p o.g o.r=true
theorem overlapsR_ok {b p:Gr} {o:Ov} (ho:o∈(overlapsR b p).1):OvOk b p o:=by
 by_cases hb:validG b=0
 ·by_cases hp:validG p=0
  ·by_cases hs:40<b.nodes.length+p.nodes.length∨80<b.edges.length+p.edges.length
   ·simp [overlapsR,hb,hp,hs] at ho
   ·rw [overlapsR_list b p hb hp hs] at ho;split at ho
    ·simp at ho
    ·simp only [listO,List.mem_map] at ho;obtain ⟨⟨x,es⟩,h1,rfl⟩:=ho;have hp1:=(pairsM_mem b p _).1 h1;have g1:=glue_law hb hp (by omega) hp1;have g2:=glue_law2 hb hp (by omega) hp1;exact ⟨g1.2.1,g1.2.2,g2.1,g2.2.1⟩
  ·simp [overlapsR,hb,hp] at ho
 ·simp [overlapsR,hb] at ho
abbrev St2:=Int × Int
def seqL {α:Type} (f:α→St2→List Cd × St2):List α→St2→List Cd × St2
 | [],st=>([],st)
 | x::r,st=>((f x st).1++(seqL f r (f x st).2).1,(seqL f r (f x st).2).2)
def cdOf (k:Int) (kids:List Cd):Cd:=.mk k kids ⟨[],[]⟩ ⟨[],[]⟩ [] 0 []
def exOf (o:Ov) (kid:Cd):Cd:=.mk 5 [kid] o.l o.g [] 0 []
def agrO (m mm:Mo) (o:Ov):Bool:=agrK m.nodes o.l.nodes mm.nodes o.r.nodes m.nodes.length&&agrK m.edges o.l.edges mm.edges o.r.edges m.edges.length
def inc (n:Int):Int:=IntKind.i64.wrap (n+1)
def ovF (m mm:Mo) (H:Gr→Mo→St2→Cd × St2) (o:Ov) (st:St2):List Cd × St2 :=
 if agrO m mm o=true then ([exOf o (H o.g o.r (inc st.1,st.2)).1],(H o.g o.r (inc st.1,st.2)).2) else ([],st)
def st1 (st:St2):St2:=(inc st.1,if 2000<inc st.1 then 3 else st.2)
def shStep (k:Int) (mm:Mo) (p b:Gr) (m:Mo) (st:St2) (L:St2→List Cd × St2) (H:Gr→Mo→St2→Cd × St2):Cd × St2 :=
 if (st1 st).2≠0 then (cdOf k [],st1 st)
 else if k≠5 then (cdOf k (L (st1 st)).1,(L (st1 st)).2)
 else if (overlapsR b p).2≠0 then (cdOf 4 [],((st1 st).1,(overlapsR b p).2))
 else (cdOf 4 (seqL (ovF m mm H) (overlapsR b p).1 (st1 st)).1,(seqL (ovF m mm H) (overlapsR b p).1 (st1 st)).2)
mutual
def Cd.shf:Cd→Gr→Mo→St2→Cd × St2
 | .mk k c mm p s v t,b,m,st=>shStep k mm p b m st (fun st=>Cd.shfL c b m st) (fun b m st=>Cd.shfH c b m st)
def Cd.shfL:List Cd→Gr→Mo→St2→List Cd × St2
 | [],_,_,st=>([],st)
 | x::r,b,m,st=>([(Cd.shf x b m st).1]++(Cd.shfL r b m (Cd.shf x b m st).2).1,(Cd.shfL r b m (Cd.shf x b m st).2).2)
def Cd.shfH:List Cd→Gr→Mo→St2→Cd × St2
 | [],_,_,st=>(cdOf 0 [],st)
 | x::_,b,m,st=>Cd.shf x b m st
end
def shF (b:Gr) (m:Mo) (x:Cd) (st:St2):List Cd × St2:=([(Cd.shf x b m st).1],(Cd.shf x b m st).2)
theorem Cd.shfL_eq (b:Gr) (m:Mo):∀ (l:List Cd) (st:St2),Cd.shfL l b m st=seqL (shF b m) l st
 | [],st=>by simp [Cd.shfL,seqL]
 | x::r,st=>by simp [Cd.shfL,seqL,shF,Cd.shfL_eq b m r]
theorem Cd.shf_eq (c:Cd) (b:Gr) (m:Mo) (st:St2):c.shf b m st=shStep c.kind c.m c.g b m st (fun st=>seqL (shF b m) c.kids st) (fun b m st=>Cd.shfH c.kids b m st):=by
 cases c;simp only [Cd.shf,Cd.shfL_eq];rfl
theorem nodup_getD {l:List Int}:l.Nodup↔∀ i j,i<j→j<l.length→l.getD i 0≠l.getD j 0:=by
 unfold List.Nodup;rw [List.pairwise_iff_getElem];constructor
 ·intro h i j hij hj;have:=h i j (by omega) hj hij
  simpa [hj,show i<l.length by omega] using this
 ·intro h i j hi hj hij;have:=h i j hij hj
  simpa [hi,hj] using this
theorem ext_getD {l l':List Int} (h:l.length=l'.length) (h2:∀ j,j<l.length→l.getD j 0=l'.getD j 0):l=l' :=
 List.ext_getElem h fun i h1 h3=>by have:=h2 i h1; simpa [h1,h3] using this
structure Emb (a b:Gr) (m:Mo):Prop where
 v:validM a b m=0
 n:m.nodes.Nodup
 e:m.edges.Nodup
theorem Emb.vm {a b:Gr} {m:Mo} (h:Emb a b m):VM a b m:=validM_VM h.v
theorem Emb.inj {a b:Gr} {m:Mo} (h:Emb a b m):injM a b m=true:=(injM_iff a b m).2 ⟨h.v,h.n,h.e⟩
theorem Emb.of {a b:Gr} {m:Mo} (h:injM a b m=true):Emb a b m:=have h:=(injM_iff a b m).1 h; ⟨h.1,h.2.1,h.2.2⟩
theorem Emb.inn {a b:Gr} {m:Mo} (h:Emb a b m):Inn m a b:=have V:=h.vm; ⟨V.ln,V.le,V.n,V.e⟩
theorem byK_all (l h:List Int):(byK l h l.length).length=l.length:=by simp
theorem byK_getD {l h:List Int} {i:Nat} (hi:i<l.length):(byK l h l.length).getD i 0=h.getD (l.getD i 0).toNat 0:=by simp [byK,hi]
theorem nat_of {x:Int} {n:Nat} (h:0≤x∧x<n):x.toNat<n∧((x.toNat:Nat):Int)=x:=by omega
theorem byK_nodup {l h:List Int} {n:Nat} (hl:l.Nodup) (hh:h.Nodup) (hr:∀ x∈l,0≤x∧x<h.length):(byK l h l.length).Nodup:=by
 rw [nodup_getD];intro i j hij hj;rw [byK_all] at hj;rw [byK_getD (by omega),byK_getD hj];intro e;have h1:=hr _ (getD_mem (d:=0) (show i<l.length by omega));have h2:=hr _ (getD_mem (d:=0) hj);have:=getD_inj hh (by omega) (by omega) e
 have:=getD_inj hl (show i<l.length by omega) hj (by omega)
 omega
theorem Emb.comp {a b c:Gr} {m n:Mo} (h:Emb a b m) (k:Emb b c n):Emb a c (thenM m n):=by
 have v:=h.vm;have w:=k.vm;have rn:∀ x∈m.nodes,0≤x∧x<n.nodes.length:=fun x hx=>by rw [w.ln]; exact v.n x hx
 have re:∀ x∈m.edges,0≤x∧x<n.edges.length:=fun x hx=>by rw [w.le]; exact v.e x hx
 have gn:∀ i,i<a.nodes.length→(thenM m n).nodes.getD i 0=n.nodes.getD (m.nodes.getD i 0).toNat 0:=fun i hi=>byK_getD (by rw [v.ln]; exact hi)
 have ge:∀ i,i<a.edges.length→(thenM m n).edges.getD i 0=n.edges.getD (m.edges.getD i 0).toNat 0:=fun i hi=>byK_getD (by rw [v.le]; exact hi)
 refine ⟨validM_of ⟨v.va,w.vb,by rw [←v.ln]; exact byK_all _ _,by rw [←v.le]; exact byK_all _ _,fun x hx=>?_,fun x hx=>?_,fun i hi=>?_,fun i hi=>?_⟩,byK_nodup (n:=0) h.n k.n rn,byK_nodup (n:=0) h.e k.e re⟩
 ·obtain ⟨i,hi,rfl⟩:=mem_getD hx;have hi':i<a.nodes.length:=by rw [←v.ln]; simpa [thenM] using hi
  rw [gn i hi'];exact w.n _ (getD_mem (nat_of (rn _ (getD_mem (by rw [v.ln]; exact hi')))).1)
 ·obtain ⟨i,hi,rfl⟩:=mem_getD hx;have hi':i<a.edges.length:=by rw [←v.le]; simpa [thenM] using hi
  rw [ge i hi'];exact w.e _ (getD_mem (nat_of (re _ (getD_mem (by rw [v.le]; exact hi')))).1)
 ·rw [gn i hi];have h1:=nat_of (v.n _ (getD_mem (d:=0) (show i<m.nodes.length by rw [v.ln]; exact hi)));rw [w.nt _ h1.1,v.nt i hi]
 ·rw [ge i hi];have h1:=nat_of (v.e _ (getD_mem (d:=0) (show i<m.edges.length by rw [v.le]; exact hi)));rw [w.et _ h1.1,v.et i hi];have hx:=validG_edges v.va (a.edges.getD i default) (getD_mem hi);simp only;rw [gn _ (by omega),gn _ (by omega)]
section
variable {α:Type} {f:α→St2→List Cd × St2} (hs:∀ x s,(f x s).2.2=0→s.2=0)
include hs
end
theorem ovr_ex {c:Cd} {a:Gr} (h:c.ovr a=0) (k5:c.kind=5):Emb a c.g c.m∧∃ x,c.kids=[x]:=by
 obtain ⟨h0,h1,_⟩:=Cd.ovr_zero h;have hl:=shape_kind h0 k5;rw [ovrStep,if_pos k5] at h1;split at h1
 ·contradiction
 ·split at h1
  ·rename_i h2;exact ⟨Emb.of h2,List.length_eq_one_iff.1 hl⟩
  ·cases h1
theorem Cd.ovr_of {c:Cd} {a:Gr} (h1:shapeC c=0) (h2:ovrStep a c.kind c.m c.g=0) (h3:∀ x∈c.kids,x.ovr (c.inn a)=0):c.ovr a=0:=by
 rw [Cd.ovr_eq,if_pos h1,if_pos h2];exact errL_all h3
theorem unused_cdOf (k:Int) (l:List Cd):unusedC (cdOf k l)=true:=rfl
theorem plain_cdOf (k:Int) (l:List Cd):plainC (cdOf k l)=true:=rfl
theorem shape_cdOf {c:Cd} (h:shapeC c=0) (k5:c.kind≠5) {l:List Cd} (hl:l.length=c.kids.length):shapeC (cdOf c.kind l)=0:=by
 unfold shapeC at h;split at h
 ·rename_i ho;rw [shapeC,if_pos,if_pos (plain_cdOf _ _)];simp only [okC,unused_cdOf,Bool.and_true] at ho ⊢;have e1:(cdOf c.kind l).kind=c.kind:=rfl
  have e2:(cdOf c.kind l).kids=l:=rfl
  rw [e1,e2,hl];split at ho
  ·rename_i q; rw [if_pos q]; exact (Bool.and_eq_true _ _ ▸ ho).1
  ·rename_i q;rw [if_neg q];split at ho
   ·rename_i q; rw [if_pos q]; exact (Bool.and_eq_true _ _ ▸ ho).1
   ·rename_i q;rw [if_neg q];split at ho
    ·rename_i q; rw [if_pos q]; exact (Bool.and_eq_true _ _ ▸ ho).1
    ·rename_i q;first|cases ho|(rw [if_neg k5] at ho; cases ho)
 ·cases h
theorem nodup_iota (n:Nat):(iota n).Nodup:=by
 rw [nodup_getD];intro i j hij hj;rw [iota_length] at hj;rw [iota_getD (by omega),iota_getD hj];omega
theorem mem_iota {x:Int} {n:Nat} (h:x∈iota n):0≤x∧x<n:=by
 obtain ⟨i,hi,rfl⟩:=List.mem_map.1 h;have:=List.mem_range.1 hi
 omega
structure Pre (a b:Gr):Prop where
 va:validG a=0
 vb:validG b=0
 n:∃ t,b.nodes=a.nodes++t
 e:∃ t,b.edges=a.edges++t
theorem Pre.emb {a b:Gr} (h:Pre a b):Emb a b (idM a):=by
 obtain ⟨t,ht⟩:=h.n;obtain ⟨u,hu⟩:=h.e;have ea:=validG_edges h.va;refine ⟨validM_of ⟨h.va,h.vb,by simp [idM],by simp [idM],fun x hx=>?_,fun x hx=>?_,fun i hi=>?_,fun i hi=>?_⟩,nodup_iota _,nodup_iota _⟩
 ·have:=mem_iota (show x∈iota a.nodes.length from hx)
  rw [ht]; simp only [List.length_append]; omega
 ·have:=mem_iota (show x∈iota a.edges.length from hx)
  rw [hu]; simp only [List.length_append]; omega
 ·simp only [idM];rw [iota_getD hi,Int.toNat_natCast,ht,getD_pre hi]
 ·simp only [idM];have hx:=ea (a.edges.getD i default) (getD_mem hi);rw [iota_getD hi,Int.toNat_natCast,hu,getD_pre hi,iota_getD (by omega),iota_getD (by omega)];rw [Int.toNat_of_nonneg hx.1,Int.toNat_of_nonneg hx.2.2.1]
theorem Pre.refl {a:Gr} (h:validG a=0):Pre a a:=⟨h,h,⟨[],by simp⟩,⟨[],by simp⟩⟩
def mtI (F G:List Int) (n:Nat):List Int:=(List.range n).map fun (j:Nat)=>if indexI G j<0 then -1 else F.getD (indexI G j).toNat 0
theorem mtI_len (F G:List Int) (n:Nat):(mtI F G n).length=n:=by simp [mtI]
theorem mtI_get {F G:List Int} {n j:Nat} (h:j<n):(mtI F G n).getD j 0=if indexI G j<0 then -1 else F.getD (indexI G j).toNat 0:=by simp [mtI,h]
theorem mtI_at {F G:List Int} {n i:Nat} (hG:G.Nodup) (hr:∀ x∈G,0≤x∧x<n) (h:i<G.length):(mtI F G n).getD (G.getD i 0).toNat 0=F.getD i 0:=by
 have h1:=hr _ (getD_mem (d:=0) h);rw [mtI_get (by omega)];have e:(((G.getD i 0).toNat:Nat):Int)=G.getD i 0:=by omega
 rw [e];rcases indexI_spec G (G.getD i 0) with ⟨_,hn⟩|⟨k,h2,h3,h4⟩
 ·exact absurd (getD_mem (d:=0) h) hn
 ·have:=getD_inj hG h3 h h4
  subst this;rw [h2,if_neg (by omega)];rfl
theorem mtI_cases {F G:List Int} {n j:Nat} (h:j<n):((mtI F G n).getD j 0 = -1∧(j:Int)∉G)∨∃ i,i<G.length∧G.getD i 0=j∧(mtI F G n).getD j 0=F.getD i 0:=by
 rw [mtI_get h];rcases indexI_spec G j with ⟨h1,hn⟩|⟨k,h2,h3,h4⟩
 ·left; rw [h1]; exact ⟨rfl,hn⟩
 ·right; refine ⟨k,h3,h4,?_⟩; rw [h2,if_neg (by omega)]; rfl
theorem mtI_isM {ok:Nat→Nat→Bool} {F G:List Int} {na n:Nat} (hl:F.length=G.length) (hF:F.Nodup) (hG:G.Nodup) (rF:∀ x∈F,0≤x∧x<na) (rG:∀ x∈G,0≤x∧x<n)
  (hok:∀ i,i<G.length→ok (G.getD i 0).toNat (F.getD i 0).toNat=true):isM ok na n (mtI F G n):=by
 refine ⟨mtI_len _ _ _,fun j hj=>?_⟩;rcases mtI_cases (F:=F) (G:=G) hj with ⟨h1,_⟩|⟨i,h2,h3,h4⟩
 ·exact .inl h1
 ·right;have r1:=rF _ (getD_mem (d:=0) (show i<F.length by omega));refine ⟨(F.getD i 0).toNat,by rw [h4]; omega,by omega,?_,?_⟩
  ·have:=hok i h2
   rw [h3] at this;simpa using this
  ·intro hm;obtain ⟨q,hq,e⟩:=List.getElem_of_mem hm;rw [List.length_take,mtI_len] at hq;rw [List.getElem_take] at e;have e2:(mtI F G n).getD q 0=(F.getD i 0):=by
    rw [List.getD_eq_getElem?_getD,List.getElem?_eq_getElem (by rw [mtI_len]; omega),Option.getD_some,e]; omega
   rcases mtI_cases (F:=F) (G:=G) (show q<n by omega) with ⟨k1,_⟩|⟨i',k2,k3,k4⟩
   ·rw [k1] at e2; omega
   ·have:=getD_inj hF (show i'<F.length by omega) (by omega) (k4.symm.trans e2)
    subst this;omega
def pushO (b c:Gr) (f g:Mo):Ov:=glue b c (mtI f.nodes g.nodes c.nodes.length) (mtI f.edges g.edges c.edges.length)
theorem spn_pair {a b c:Gr} {f g:Mo} (hf:Emb a b f) (hg:Emb a c g):isPair b c (mtI f.nodes g.nodes c.nodes.length,mtI f.edges g.edges c.edges.length):=by
 have v:=hf.vm;have w:=hg.vm;have ln:f.nodes.length=g.nodes.length:=by rw [v.ln,w.ln]
 have le:f.edges.length=g.edges.length:=by rw [v.le,w.le]
 refine ⟨mtI_isM ln hf.n hg.n v.n w.n fun i hi=>?_,mtI_isM le hf.e hg.e v.e w.e fun i hi=>?_⟩
 ·rw [okN,decide_eq_true_eq,v.nt i (by rw [←w.ln]; exact hi),w.nt i (by rw [←w.ln]; exact hi)]
 ·have hia:i<a.edges.length:=by rw [←w.le]; exact hi
  have hx:=validG_edges v.va (a.edges.getD i default) (getD_mem hia);rw [okE,decide_eq_true_eq,v.et i hia,w.et i hia];simp only;rw [mtI_at hg.n w.n (by rw [w.ln]; omega),mtI_at hg.n w.n (by rw [w.ln]; omega)]
theorem pushO_emb {a b c:Gr} {f g:Mo} (hf:Emb a b f) (hg:Emb a c g) (hs:b.nodes.length+c.nodes.length≤40∧b.edges.length+c.edges.length≤80) :
  validG (pushO b c f g).g=0∧Emb b (pushO b c f g).g (pushO b c f g).l∧Emb c (pushO b c f g).g (pushO b c f g).r:=by
 have hp:=spn_pair hf hg;have h1:=glue_law hf.vm.vb hg.vm.vb hs hp;have h2:=glue_law2 hf.vm.vb hg.vm.vb hs hp;exact ⟨h1.1,Emb.of h2.1,Emb.of h2.2.1⟩
def ascAt (l:List Int) (n:Int) (i:Nat):Int:=if l.getD i 0<0∨n≤l.getD i 0 then 6 else if 0<i∧l.getD i 0≤l.getD (i - 1) 0 then 12 else 0
def ascE (l:List Int) (n:Int):Int:=firstE (ascAt l n) l.length
def dangAt (g:Gr) (p:Mo) (i:Nat):Int:=if (g.edges.getD (p.edges.getD i 0).toNat default).fr∈p.nodes∧(g.edges.getD (p.edges.getD i 0).toNat default).to∈p.nodes then 0 else 14
def rightP (g:Gr) (p:Mo):Int :=
 if ascE p.nodes g.nodes.length≠0 then ascE p.nodes g.nodes.length else if ascE p.edges g.edges.length≠0 then ascE p.edges g.edges.length else firstE (dangAt g p) p.edges.length
def validP (g:Gr) (p:Mo):Int:=if validG g≠0 then validG g else rightP g p
theorem asc_lt {l:List Int} {n:Int} (h:ascE l n=0):∀ j i,i<j→j<l.length→l.getD i 0<l.getD j 0
 | 0,i,hi,_=>absurd hi (Nat.not_lt_zero _)
 | j+1,i,hi,hj=>by
  have h1:=firstE_all _ h (j+1) hj;unfold ascAt at h1;split at h1
  ·cases h1
  ·split at h1
   ·cases h1
   ·rename_i h3;have h4:l.getD j 0<l.getD (j+1) 0:=by
     have:j+1 - 1=j:=rfl
     rw [this] at h3;omega
    by_cases e:i=j
    ·subst e; exact h4
    ·have:=asc_lt h j i (by omega) (by omega)
     omega
theorem asc_rng {l:List Int} {n:Int} (h:ascE l n=0):∀ x∈l,0≤x∧x<n:=fun x hx=>by
 obtain ⟨i,hi,rfl⟩:=mem_getD hx;have h1:=firstE_all _ h i hi;unfold ascAt at h1;split at h1
 ·cases h1
 ·omega
theorem asc_of {l:List Int} {n:Int} (h1:∀ x∈l,0≤x∧x<n) (h2:∀ j i,i<j→j<l.length→l.getD i 0<l.getD j 0):ascE l n=0:=firstE_zero _ fun i hi=>by
 have r:=h1 _ (getD_mem (d:=0) hi);unfold ascAt;rw [if_neg (by omega),if_neg];rintro ⟨h3,h4⟩;have:=h2 i (i - 1) (by omega) hi
 omega
structure VP (g:Gr) (p:Mo):Prop where
 va:validG g=0
 n:∀ x∈p.nodes,0≤x∧x<g.nodes.length
 e:∀ x∈p.edges,0≤x∧x<g.edges.length
 sn:∀ j i,i<j→j<p.nodes.length→p.nodes.getD i 0<p.nodes.getD j 0
 se:∀ j i,i<j→j<p.edges.length→p.edges.getD i 0<p.edges.getD j 0
 c:∀ x∈p.edges,(g.edges.getD x.toNat default).fr∈p.nodes∧(g.edges.getD x.toNat default).to∈p.nodes
theorem VP.of {g:Gr} {p:Mo} (h:validP g p=0):VP g p:=by
 unfold validP at h;split at h
 ·contradiction
 ·rename_i h1;unfold rightP at h;split at h
  ·contradiction
  ·rename_i h2;split at h
   ·contradiction
   ·rename_i h3;have h2':=Decidable.not_not.1 h2
    have h3':=Decidable.not_not.1 h3
    refine ⟨Decidable.not_not.1 h1,asc_rng h2',asc_rng h3',asc_lt h2',asc_lt h3',fun x hx=>?_⟩;obtain ⟨i,hi,rfl⟩:=mem_getD hx;have h4:=firstE_all _ h i hi;unfold dangAt at h4;split at h4
    ·assumption
    ·cases h4
theorem VP.v {g:Gr} {p:Mo} (h:VP g p):validP g p=0:=by
 unfold validP rightP;rw [if_neg (by simp [h.va]),if_neg (by simp [asc_of h.n h.sn]),if_neg (by simp [asc_of h.e h.se])];refine firstE_zero _ fun i hi=>?_
 unfold dangAt;rw [if_pos (h.c _ (getD_mem (d:=0) hi))]
theorem nodup_of_lt {l:List Int} (h:∀ j i,i<j→j<l.length→l.getD i 0<l.getD j 0):l.Nodup:=by
 rw [nodup_getD];intro i j hij hj e;have:=h j i hij hj
 omega
theorem len_of {l:List Int} {n:Nat} (h:l.Nodup) (hr:∀ x∈l,0≤x∧x<n):l.length≤n:=by
 have:=nodup_le l (iota n) h fun x hx=>by
  have:=hr x hx
  simp only [iota,List.mem_map,List.mem_range];exact ⟨x.toNat,by omega,by omega⟩
 simpa [iota] using this
theorem VP.len {g:Gr} {p:Mo} (h:VP g p):p.nodes.length≤g.nodes.length∧p.edges.length≤g.edges.length:=⟨len_of (nodup_of_lt h.sn) h.n,len_of (nodup_of_lt h.se) h.e⟩
def exE1 (g:Gr) (p:Mo) (k:Int):E:=⟨(g.edges.getD k.toNat default).ty,indexI p.nodes (g.edges.getD k.toNat default).fr,indexI p.nodes (g.edges.getD k.toNat default).to⟩
def exG (g:Gr) (p:Mo):Gr:=⟨p.nodes.map fun k=>g.nodes.getD k.toNat 0,p.edges.map (exE1 g p)⟩
theorem indexI_in {l:List Int} {x:Int} (h:x∈l):0≤indexI l x∧indexI l x<l.length∧l.getD (indexI l x).toNat 0=x:=by
 rcases indexI_spec l x with ⟨_,hn⟩|⟨k,h2,h3,h4⟩
 ·exact absurd h hn
 ·rw [h2]; exact ⟨by omega,by omega,h4⟩
theorem indexI_gd {l:List Int} (hl:l.Nodup) {i:Nat} (h:i<l.length):indexI l (l.getD i 0)=i:=by
 obtain ⟨h1,h2,h3⟩:=indexI_in (getD_mem (d:=0) h);have:=getD_inj hl (show (indexI l (l.getD i 0)).toNat<l.length by omega) h h3
 omega
theorem VP.emb {g:Gr} {p:Mo} (h:VP g p):Emb (exG g p) g p:=by
 have hl:=h.len;obtain ⟨hs,ht,he⟩:=validG_types h.va;have hv:validG (exG g p)=0:=by
  refine validG_of (by simp only [exG,List.length_map]; omega) (fun n hn=>?_) fun e hx=>?_
  ·simp only [exG,List.mem_map] at hn;obtain ⟨k,hk,rfl⟩:=hn;have:=h.n k hk
   exact ht _ (getD_mem (by omega))
  ·simp only [exG,List.mem_map] at hx;obtain ⟨k,hk,rfl⟩:=hx;have h1:=h.e k hk;have h2:=h.c k hk;have h3:=(fitsB_iff _ _).1 (he _ (getD_mem (d:=default) (show k.toNat<g.edges.length by omega)));have i1:=indexI_in h2.1;have i2:=indexI_in h2.2;rw [fitsB_iff];simp only [exE1,exG,List.length_map];exact ⟨h3.1,⟨i1.1,i1.2.1⟩,⟨i2.1,i2.2.1⟩⟩
 refine ⟨validM_of ⟨hv,h.va,by simp [exG],by simp [exG],h.n,h.e,fun i hi=>?_,fun i hi=>?_⟩,nodup_of_lt h.sn,nodup_of_lt h.se⟩
 ·have hi':i<p.nodes.length:=by simpa [exG] using hi
  simp [exG,hi']
 ·have hi':i<p.edges.length:=by simpa [exG] using hi
  have e1:(exG g p).edges.getD i default=exE1 g p (p.edges.getD i 0):=by simp [exG,hi']
  have h2:=h.c _ (getD_mem (d:=0) hi');rw [e1];simp only [exE1];rw [(indexI_in h2.1).2.2,(indexI_in h2.2).2.2]
def liftM (q h:Mo):Mo:=⟨h.nodes.map (indexI q.nodes),h.edges.map (indexI q.edges)⟩
theorem mapI_getD {f:Int→Int} {l:List Int} {i:Nat} (h:i<l.length):(l.map f).getD i 0=f (l.getD i 0):=by simp [h]
theorem lift_emb {a c y:Gr} {q h:Mo} (hq:Emb c y q) (hh:Emb a y h) (hn:∀ x∈h.nodes,x∈q.nodes) (he:∀ x∈h.edges,x∈q.edges):Emb a c (liftM q h):=by
 have v:=hq.vm;have w:=hh.vm;have inj:∀ (l m:List Int),m.Nodup→(∀ x∈m,x∈l)→(m.map (indexI l)).Nodup:=fun l m hm hs=>by
  rw [nodup_getD];intro i j hij hj;rw [List.length_map] at hj;rw [mapI_getD (by omega),mapI_getD hj];intro e;have i1:=indexI_in (hs _ (getD_mem (d:=0) (show i<m.length by omega)));have i2:=indexI_in (hs _ (getD_mem (d:=0) hj));have e2:m.getD i 0=m.getD j 0:=by rw [←i1.2.2,←i2.2.2,e]
  have:=getD_inj hm (by omega) hj e2
  omega
 refine ⟨validM_of ⟨w.va,v.va,by simp [liftM,w.ln],by simp [liftM,w.le],fun x hx=>?_,fun x hx=>?_,fun i hi=>?_,fun i hi=>?_⟩,inj _ _ hh.n hn,inj _ _ hh.e he⟩
 ·obtain ⟨k,hk,rfl⟩:=List.mem_map.1 hx;have:=indexI_in (hn k hk)
  rw [v.ln] at this;exact ⟨this.1,this.2.1⟩
 ·obtain ⟨k,hk,rfl⟩:=List.mem_map.1 hx;have:=indexI_in (he k hk)
  rw [v.le] at this;exact ⟨this.1,this.2.1⟩
 ·have hi':i<h.nodes.length:=by rw [w.ln]; exact hi
  have i1:=indexI_in (hn _ (getD_mem (d:=0) hi'));simp only [liftM];rw [mapI_getD hi',←w.nt i hi];have:=v.nt (indexI q.nodes (h.nodes.getD i 0)).toNat (by rw [←v.ln]; omega)
  rw [←this,i1.2.2]
 ·have hi':i<h.edges.length:=by rw [w.le]; exact hi
  have i1:=indexI_in (he _ (getD_mem (d:=0) hi'));have e1:(liftM q h).edges.getD i 0=indexI q.edges (h.edges.getD i 0):=mapI_getD hi'
  have hx:=validG_edges w.va (a.edges.getD i default) (getD_mem hi);have e2:(liftM q h).nodes.getD (a.edges.getD i default).fr.toNat 0=indexI q.nodes (h.nodes.getD (a.edges.getD i default).fr.toNat 0):=mapI_getD (by rw [w.ln]; omega)
  have e3:(liftM q h).nodes.getD (a.edges.getD i default).to.toNat 0=indexI q.nodes (h.nodes.getD (a.edges.getD i default).to.toNat 0):=mapI_getD (by rw [w.ln]; omega)
  rw [e1,e2,e3];have hk:(indexI q.edges (h.edges.getD i 0)).toNat<c.edges.length:=by rw [←v.le]; omega
  have t1:=v.et _ hk;rw [i1.2.2,w.et i hi] at t1;have hy:=validG_edges v.va (c.edges.getD (indexI q.edges (h.edges.getD i 0)).toNat default) (getD_mem hk);generalize c.edges.getD (indexI q.edges (h.edges.getD i 0)).toNat default=ce at *;simp only [E.mk.injEq] at t1;have j1:indexI q.nodes (h.nodes.getD (a.edges.getD i default).fr.toNat 0)=ce.fr:=by
   rw [t1.2.1,indexI_gd hq.n (by rw [v.ln]; omega)]; omega
  have j2:indexI q.nodes (h.nodes.getD (a.edges.getD i default).to.toNat 0)=ce.to:=by
   rw [t1.2.2,indexI_gd hq.n (by rw [v.ln]; omega)]; omega
  rw [j1,j2,t1.1]
def ascL (l:List Int) (n:Nat):List Int:=((List.range n).filter fun (k:Nat)=>decide ((k:Int)∈l)).map fun (k:Nat)=>(k:Int)
theorem ascL_mem {l:List Int} {n:Nat} {x:Int}:x∈ascL l n↔x∈l∧0≤x∧x<n:=by
 simp only [ascL,List.mem_map,List.mem_filter,List.mem_range,decide_eq_true_eq];constructor
 ·rintro ⟨k,⟨h1,h2⟩,rfl⟩; exact ⟨h2,by omega,by omega⟩
 ·rintro ⟨h1,h2,h3⟩; exact ⟨x.toNat,⟨by omega,by rwa [show ((x.toNat:Nat):Int)=x by omega]⟩,by omega⟩
theorem ascL_pw (l:List Int) (n:Nat):(ascL l n).Pairwise (· < ·):=by
 unfold ascL;rw [List.pairwise_map];refine List.Pairwise.filter _ (List.Pairwise.imp (R:=(· < ·)) (fun h=>by omega) List.pairwise_lt_range)
theorem pw_getD {l:List Int}:l.Pairwise (· < ·)→∀ j i,i<j→j<l.length→l.getD i 0<l.getD j 0:=fun h j i hij hj=>by
 have:=List.pairwise_iff_getElem.1 h i j (by omega) hj hij
 simpa [List.getD_eq_getElem?_getD,hj,show i<l.length by omega] using this
theorem pw_ext:∀ {l m:List Int},l.Pairwise (· < ·)→m.Pairwise (· < ·)→(∀ x,x∈l↔x∈m)→l=m
 | [],[],_,_,_=>rfl
 | [],y::m,_,_,h=>by have:=(h y).2 (by simp); simp at this
 | x::l,[],_,_,h=>by have:=(h x).1 (by simp); simp at this
 | x::l,y::m,hl,hm,h=>by
  rw [List.pairwise_cons] at hl hm;have h1:=(h x).1 (by simp);have h2:=(h y).2 (by simp);have e:x=y:=by
   rcases List.mem_cons.1 h1 with h1|h1
   ·exact h1
   ·rcases List.mem_cons.1 h2 with h2|h2
    ·exact h2.symm
    ·have:=hl.1 y h2
     have:=hm.1 x h1
     omega
  subst e;congr 1
  refine pw_ext hl.2 hm.2 fun z=>?_
  have:=h z
  simp only [List.mem_cons] at this;constructor
  ·intro hz;rcases this.1 (.inr hz) with e|e
   ·subst e; have:=hl.1 z hz; omega
   ·exact e
  ·intro hz;rcases this.2 (.inr hz) with e|e
   ·subst e; have:=hm.1 z hz; omega
   ·exact e
def imgP (y:Gr) (q:Mo):Mo:=⟨ascL q.nodes y.nodes.length,ascL q.edges y.edges.length⟩
theorem imgP_vp {c y:Gr} {q:Mo} (hq:Emb c y q):VP y (imgP y q):=by
 have v:=hq.vm;refine ⟨v.vb,fun x hx=>(ascL_mem.1 hx).2,fun x hx=>(ascL_mem.1 hx).2,pw_getD (ascL_pw _ _),pw_getD (ascL_pw _ _),fun x hx=>?_⟩;obtain ⟨h1,h2,h3⟩:=ascL_mem.1 hx;obtain ⟨i,hi,rfl⟩:=mem_getD h1;have hi':i<c.edges.length:=by rw [←v.le]; exact hi
 have he:=validG_edges v.va (c.edges.getD i default) (getD_mem hi');have m1:q.nodes.getD (c.edges.getD i default).fr.toNat 0∈q.nodes:=getD_mem (by rw [v.ln]; omega)
 have m2:q.nodes.getD (c.edges.getD i default).to.toNat 0∈q.nodes:=getD_mem (by rw [v.ln]; omega)
 rw [v.et i hi'];exact ⟨ascL_mem.2 ⟨m1,v.n _ m1⟩,ascL_mem.2 ⟨m2,v.n _ m2⟩⟩
theorem imgP_sub {y:Gr} {q:Mo}:(∀ x∈(imgP y q).nodes,x∈q.nodes)∧∀ x∈(imgP y q).edges,x∈q.edges:=⟨fun x hx=>(ascL_mem.1 hx).1,fun x hx=>(ascL_mem.1 hx).1⟩
def goneI (images keep:List Int):List Int:=((List.range images.length).filter fun (i:Nat)=>decide ((i:Int)∉keep)).map fun (i:Nat)=>images.getD i 0
def restI (n:Nat) (images keep:List Int):List Int:=((List.range n).filter fun (k:Nat)=>decide ((k:Int)∉goneI images keep)).map fun (k:Nat)=>(k:Int)
def dangL (g:Gr) (keep m:Mo):Bool:=(List.range g.edges.length).any fun (i:Nat)=>decide ((i:Int)∉m.edges∧((g.edges.getD i default).fr∈goneI m.nodes keep.nodes∨(g.edges.getD i default).to∈goneI m.nodes keep.nodes))
def cmpl (g:Gr) (keep m:Mo):Mo:=⟨restI g.nodes.length m.nodes keep.nodes,restI g.edges.length m.edges keep.edges⟩
theorem goneI_mem {images keep:List Int} {x:Int}:x∈goneI images keep↔∃ i:Nat,i<images.length∧(i:Int)∉keep∧images.getD i 0=x:=by
 simp only [goneI,List.mem_map,List.mem_filter,List.mem_range,decide_eq_true_eq];constructor
 ·rintro ⟨i,⟨h1,h2⟩,h3⟩; exact ⟨i,h1,h2,h3⟩
 ·rintro ⟨i,h1,h2,h3⟩; exact ⟨i,⟨h1,h2⟩,h3⟩
theorem restI_mem {n:Nat} {images keep:List Int} {x:Int}:x∈restI n images keep↔(0≤x∧x<n)∧x∉goneI images keep:=by
 simp only [restI,List.mem_map,List.mem_filter,List.mem_range,decide_eq_true_eq];constructor
 ·rintro ⟨k,⟨h1,h2⟩,rfl⟩; exact ⟨⟨by omega,by omega⟩,h2⟩
 ·rintro ⟨⟨h1,h2⟩,h3⟩; exact ⟨x.toNat,⟨by omega,by rwa [show ((x.toNat:Nat):Int)=x by omega]⟩,by omega⟩
theorem restI_pw (n:Nat) (images keep:List Int):(restI n images keep).Pairwise (· < ·):=by
 unfold restI;rw [List.pairwise_map];refine List.Pairwise.filter _ (List.Pairwise.imp (R:=(· < ·)) (fun h=>by omega) List.pairwise_lt_range)
theorem kept_not_gone {images keep:List Int} (hn:images.Nodup) {i:Nat} (hi:i<images.length) (hk:(i:Int)∈keep):images.getD i 0∉goneI images keep:=fun h=>by
 obtain ⟨j,hj,hjk,e⟩:=goneI_mem.1 h;have:=getD_inj hn hj hi e
 subst this;exact hjk hk
theorem cmpl_vp {l g:Gr} {keep m:Mo} (hm:Emb l g m) (hk:VP l keep) (hd:dangL g keep m=false):VP g (cmpl g keep m):=by
 have v:=hm.vm;refine ⟨v.vb,fun x hx=>(restI_mem.1 hx).1,fun x hx=>(restI_mem.1 hx).1,pw_getD (restI_pw _ _ _),pw_getD (restI_pw _ _ _),fun x hx=>?_⟩;obtain ⟨⟨h1,h2⟩,h3⟩:=restI_mem.1 hx;have hxl:x.toNat<g.edges.length:=by omega
 have he:=validG_edges v.vb (g.edges.getD x.toNat default) (getD_mem hxl);have key:(g.edges.getD x.toNat default).fr∉goneI m.nodes keep.nodes∧(g.edges.getD x.toNat default).to∉goneI m.nodes keep.nodes:=by
  by_cases hxm:x∈m.edges
  ·obtain ⟨i,hi,rfl⟩:=mem_getD hxm;have hi':i<l.edges.length:=by rw [←v.le]; exact hi
   have hik:(i:Int)∈keep.edges:=Decidable.byContradiction fun hc=>h3 (goneI_mem.2 ⟨i,hi,hc,rfl⟩)
   have hc:=hk.c _ hik;have hle:=validG_edges v.va (l.edges.getD i default) (getD_mem hi');rw [Int.toNat_natCast] at hc;rw [v.et i hi'];refine ⟨kept_not_gone hm.n (by rw [v.ln]; omega) ?_,kept_not_gone hm.n (by rw [v.ln]; omega) ?_⟩
   ·rw [show (((l.edges.getD i default).fr.toNat:Nat):Int)=(l.edges.getD i default).fr by omega]; exact hc.1
   ·rw [show (((l.edges.getD i default).to.toNat:Nat):Int)=(l.edges.getD i default).to by omega]; exact hc.2
  ·unfold dangL at hd;rw [List.any_eq_false] at hd;have:=hd x.toNat (List.mem_range.2 hxl)
   simp only [decide_eq_true_eq,not_and,not_or] at this;exact this (by rwa [show ((x.toNat:Nat):Int)=x by omega])
 exact ⟨restI_mem.2 ⟨⟨he.1,he.2.1⟩,key.1⟩,restI_mem.2 ⟨⟨he.2.2.1,he.2.2.2⟩,key.2⟩⟩
variable {P:Program}
theorem EffV.val {o:Oper} {ρ:Operand→AV} {box box':Bxs} {tok tok':Nat→Bool} {nt nt':Nat} {v:AV} (h:EffV P o ρ box tok nt v box' tok' nt'):isVal o.op=true:=by
 unfold EffV at h;split at h
 ·rename_i c ho;split at h
  ·rename_i f hf;rw [ho];obtain ⟨cal,args,tys⟩:=c;simp only at hf;subst hf;rfl
  ·exact h.elim
 ·exact h.elim
def FarP (S:AState):List (Operand × Operand)→Prop
 | []=>True
 | (p,q)::r=>NK (S.ev p) (S.ev q)∧FarP S r
theorem FarP.at {S:AState} {p q:Operand}:∀ {L:List (Operand × Operand)},FarP S L→(p,q)∈L→NK (S.ev p) (S.ev q)
 | (a,b)::r,h,hm=>by
  rcases List.mem_cons.1 hm with e|hm
  ·cases e; exact h.1
  ·exact FarP.at h.2 hm
def StopW (P:Program) (o:Oper) (fid:FuncId) (args:List AV) (S:AState) (K:AState→Prop):Prop :=
 (∃ v tok' nt',RCall P fid args S.box S.tok S.nt v tok' nt'∧K ⟨putT S.tmps o.dst v,S.box,tok',nt'⟩) ∨
 ∃ x k i off rows v tok' nt',callPtr o.op=some x∧S.ev x=.ptr k i off∧S.box k≠none∧WCall P fid args k S.box S.tok S.nt v rows tok' nt'∧K ⟨putT S.tmps o.dst v,upd S.box k (some rows),tok',nt'⟩
def FOneW (P:Program) (cx:Cx) (o:Oper) (K:AState→Prop) (S:AState):Prop:=match callFn o S.ev with
 | some (fid,args)=>StopW P o fid args S K
 | none=>FOne P cx true o K S
def FOpsW (P:Program) (cx:Cx) (ops:Array Oper):List Oper→(AState→Prop)→AState→Prop
 | [],K,S=>K S
 | o::r,K,S=>match o.guard with
  | none=>FOneW P cx o (FOpsW P cx ops r K) S
  | some (j,want)=>match yieldA ops S j with
   | some (some b)=>Gd b want (FOneW P cx o (FOpsW P cx ops r K)) (FSkip o.dst (FOpsW P cx ops r K)) S
   | some none=>FSkip o.dst (FOpsW P cx ops r K) S
   | none=>False
def FRegW (P:Program) (cx:Cx) (ops:Array Oper) (K:AState→Prop) (S:AState):Prop:=match preF P cx.base ops.toList S.box with
 | some b=>FOpsW P cx ops ops.toList K ⟨S.tmps,b,S.tok,S.nt⟩
 | none=>False
theorem StopW.of_r {o:Oper} {fid:FuncId} {args:List AV} {S:AState} {K:AState→Prop} {v:AV} {tok':Nat→Bool} {nt':Nat} (h:RCall P fid args S.box S.tok S.nt v tok' nt') (hk:K ⟨putT S.tmps o.dst v,S.box,tok',nt'⟩):StopW P o fid args S K:=.inl ⟨v,tok',nt',h,hk⟩
theorem StopW.of_d {o:Oper} {fid:FuncId} {args:List AV} {S:AState} {K:AState→Prop} {v:AV} {tok':Nat→Bool} {nt':Nat} (h:DCall P fid args S.tok S.nt v tok' nt') (hk:K ⟨putT S.tmps o.dst v,S.box,tok',nt'⟩):StopW P o fid args S K:=.of_r (h.r _) hk
attribute [simp] FRegW FOneW callFn FarP
@[simp] theorem FOpsW_nil {cx:Cx} {ops:Array Oper} {K:AState→Prop} {t:Nat→AV} {b:Bxs} {k:Nat→Bool} {n:Nat}:FOpsW P cx ops [] K ⟨t,b,k,n⟩=K ⟨t,b,k,n⟩:=by simp only [FOpsW]
@[simp] theorem FOpsW_cons {cx:Cx} {ops:Array Oper} {o:Oper} {r:List Oper} {K:AState→Prop} {t:Nat→AV} {b:Bxs} {k:Nat→Bool} {n:Nat}:FOpsW P cx ops (o::r) K ⟨t,b,k,n⟩=match o.guard with
  | none=>FOneW P cx o (FOpsW P cx ops r K) ⟨t,b,k,n⟩
  | some (j,want)=>match yieldA ops ⟨t,b,k,n⟩ j with
   | some (some g)=>Gd g want (FOneW P cx o (FOpsW P cx ops r K)) (FSkip o.dst (FOpsW P cx ops r K)) ⟨t,b,k,n⟩
   | some none=>FSkip o.dst (FOpsW P cx ops r K) ⟨t,b,k,n⟩
   | none=>False:=by
 simp only [FOpsW]
abbrev nilS:AV:=.osl 0 [] .full
abbrev z0i:AV:=.d (.raw (.int .i64 0))
theorem ovF_yes {m mm:Mo} {H:Gr→Mo→St2→Cd × St2} {o:Ov} {st:St2} (h:agrO m mm o=true):ovF m mm H o st=([exOf o (H o.g o.r (inc st.1,st.2)).1],(H o.g o.r (inc st.1,st.2)).2):=if_pos h
theorem ovF_no {m mm:Mo} {H:Gr→Mo→St2→Cd × St2} {o:Ov} {st:St2} (h:¬ agrO m mm o=true):ovF m mm H o st=([],st):=if_neg h
theorem ovs_ok {b p:Gr} {q:List Ov × Int} (hb:b.Fit) (hbv:validG b=0) (hp:p.Fit) (h:overlapsR b p=q):(∀ o∈q.1,OvOk b p o)∧∀ o∈q.1,o.Fit:=by
 subst h;refine ⟨fun o ho=>overlapsR_ok ho,fun o ho=>?_⟩;have hk:=overlapsR_ok ho;have hvp:validG p=0:=(validM_VM hk.r).va
 have h1:=(validG_types hbv).1;have h2:=(validG_types hvp).1;exact (overlapsR_fit b p ⟨by omega,by omega⟩ ⟨by omega,by omega⟩).2 o ho
theorem ovs_few {b p:Gr} {q:List Ov × Int} (hbv:validG b=0) (h:overlapsR b p=q):q.1.length≤1000000:=by
 subst h;by_cases hp:validG p=0
 ·have h1:=(validG_types hbv).1;have h2:=(validG_types hp).1;exact (overlapsR_fit b p ⟨by omega,by omega⟩ ⟨by omega,by omega⟩).1
 ·simp [overlapsR,hbv,hp]
theorem fit_nil:Gr.Fit ⟨[],[]⟩:=⟨by simp,by simp⟩
theorem fit_nilM:Mo.Fit ⟨[],[]⟩:=⟨by simp,by simp⟩
theorem cdOf_fit {k:Int} {l:List Cd} (hl:l.length≤kidN) (h:∀ x∈l,x.Fit):(cdOf k l).Fit:=.mk hl fit_nilM fit_nil (by rw [bigN_eq]; simp [cdOf,Cd.sl]) (by rw [bigN_eq]; simp [cdOf,Cd.te]) h
theorem seqL_all {α:Type} {f:α→St2→List Cd × St2} {P:Cd→Prop}:∀ (l:List α) (s:St2),(∀ x∈l,∀ s,∀ y∈(f x s).1,P y)→∀ y∈(seqL f l s).1,P y
 | [],s,_,y,hy=>by simp [seqL] at hy
 | x::r,s,h,y,hy=>by
  simp only [seqL] at hy;rcases List.mem_append.1 hy with hy|hy
  ·exact h x (by simp) s y hy
  ·exact seqL_all r _ (fun z hz=>h z (by simp [hz])) y hy
def lst {β:Type} (ok:Nat→Nat→Bool) (m:Nat) (fin:List Int→List β):Nat→List Int→List β
 | 0,L=>fin L
 | r+1,L=>(List.range m).flatMap fun (k:Nat)=>if (!decide ((k:Int)∈L)&&ok L.length k)=true then lst ok m fin r (L++[(k:Int)]) else []
def atB (by' of:List Int) (i k:Nat):Bool:=decide (indexI by' i<0)||decide (of.getD (indexI by' i).toNat 0=k)
def okXE (p g:Gr) (x m:Mo) (N:List Int) (i k:Nat):Bool:=decide (g.edges.getD k default=wantX p N i)&&atB x.edges m.edges i k
def okXN (p g:Gr) (x m:Mo) (i k:Nat):Bool:=decide (g.nodes.getD k 0=p.nodes.getD i 0)&&atB x.nodes m.nodes i k
def exE (p g:Gr) (x m:Mo) (N:List Int) (r:Nat) (L:List Int):List Mo:=lst (okXE p g x m N) g.edges.length (fun E=>[⟨N,E⟩]) r L
def exN (p g:Gr) (x m:Mo) (r:Nat) (L:List Int):List Mo:=lst (okXN p g x m) g.nodes.length (fun N=>exE p g x m N p.edges.length []) r L
def exts (p g:Gr) (x m:Mo):List Mo:=exN p g x m p.nodes.length []
abbrev Mo.cells (m:Mo):List D:=[ints m.nodes,ints m.edges]
inductive Cd.Bare:Cd→Prop
 | mk {c:Cd} (hs:c.sl=[]) (ht:c.te=[]) (h:∀ x∈c.kids,Cd.Bare x):Cd.Bare c
theorem Cd.Bare.sl {c:Cd} (h:c.Bare):c.sl=[]:=by cases h; assumption
theorem Cd.Bare.te {c:Cd} (h:c.Bare):c.te=[]:=by cases h; assumption
theorem Cd.Bare.kid {c:Cd} (h:c.Bare):∀ x∈c.kids,Cd.Bare x:=by cases h; assumption
theorem bare_cdOf {k:Int} {l:List Cd} (h:∀ x∈l,x.Bare):(cdOf k l).Bare:=.mk rfl rfl h
theorem shf_bare:∀ (n:Nat) (c:Cd),SizeOf.sizeOf c<n→∀ b m st,(c.shf b m st).1.Bare
 | 0,c,hn,_,_,_=>absurd hn (Nat.not_lt_zero _)
 | n+1,c,hn,b,m,st=>by
  have ih:=fun x (hx:x∈c.kids)=>shf_bare n x (by have:=Cd.kid_lt hx; omega)
  rw [c.shf_eq];unfold shStep;split
  ·exact bare_cdOf (by simp)
  ·split
   ·refine bare_cdOf (seqL_all _ _ fun x hx s y hy=>?_);simp only [shF,List.mem_singleton] at hy;subst hy;exact ih x hx b m s
   ·split
    ·exact bare_cdOf (by simp)
    ·refine bare_cdOf (seqL_all _ _ fun o ho s y hy=>?_);by_cases ha:agrO m c.m o=true
     ·rw [ovF_yes ha] at hy;simp only [List.mem_singleton] at hy;subst hy;refine .mk rfl rfl fun z hz=>?_
      have hz':z=(Cd.shfH c.kids o.g o.r (inc s.1,s.2)).1:=by simpa [exOf,Cd.kids] using hz
      subst hz';cases hk:c.kids with
      | nil=>exact bare_cdOf (by simp)
      | cons x r=>exact ih x (by rw [hk]; simp) o.g _ _
     ·rw [ovF_no ha] at hy;simp at hy
def stS1 (c:Cd) (nb:Nat) (box:Bxs) (tok:Tks) (nt s:Nat) (_:Unit):AState :=
 ⟨tl [(s,I 0),(2,.ptr (nb+2) 0 0),(3,.ptr (nb+3) 0 0)],lb nb box [(3,[c.row]),(2,[c.row])],tok,nt⟩
def stS3 (c:Cd) (nb:Nat) (box:Bxs) (tok:Tks) (nt:Nat) (i:Nat):AState :=
 ⟨tl [(7,I i),(2,.ptr (nb+2) 0 0),(3,.ptr (nb+3) 0 0)],lb nb box [(3,[c.row]),(2,[c.row])],tok,nt⟩
theorem same33_c:∀ (n:Nat) (c:Cd),SizeOf.sizeOf c<n→c.Fit→c.Bare→∀ (tok:Tks) (nt:Nat),DCall Tryz.prog 16 [c.av,c.av] tok nt (B true) tok nt
 | 0,c,hn,_,_,tok,nt=>absurd hn (Nat.not_lt_zero _)
 | n+1,c,hn,hf,hb,tok,nt=>by
  intro box nb;have ih:=fun x (hx:x∈c.kids)=>same33_c n x (by have:=Cd.kid_lt hx; omega) (hf.kid x hx) (hb.kid x hx)
  have hkb:=hf.kids;rw [kidN_eq] at hkb;have hm:=same06_c c.m c.m hf.m;have hg:=same05_c c.g c.g hf.g;have hs:=hb.sl;have ht:=hb.te;simp only [decide_true] at hm hg;refine sI Tryz.func16 Tryz.ntmps16 fun hbox htok=>?_
  repeat (first|simp [hs,ht]|refine sR ?_)
  refine Stop.of_d (hm _ _) ?_;simp [hs,ht];refine Stop.of_d (hg _ _) ?_;simp [hs,ht];repeat (first|simp [hs,ht]|refine sR ?_)
  refine sC ?_;repeat (first|simp|refine sR ?_)
  refine sN ?_;refine AL.loopT (stS1 c nb box tok nt 5) (fun _:Unit=>True) (fun _=>0) () trivial wkA ?_;rintro ⟨⟩ S _ hS;simp only [stS1] at hS;subst hS;repeat (first|simp [hs,ht]|refine sR ?_|refine sC ?_)
  refine sX ?_;simp only [AU, ↓reduceIte];repeat (first|simp [hs,ht]|refine sR ?_)
  refine sN ?_;refine AL.loopT (stS1 c nb box tok nt 6) (fun _:Unit=>True) (fun _=>0) () trivial wkA ?_;rintro ⟨⟩ S _ hS;simp only [stS1] at hS;subst hS;repeat (first|simp [hs,ht]|refine sR ?_|refine sC ?_)
  refine sX ?_;simp only [AU, ↓reduceIte];repeat (first|simp [hs,ht]|refine sR ?_)
  refine sN ?_;refine AL.loopT (stS3 c nb box tok nt) (fun i=>i≤c.kids.length) (fun i=>c.kids.length - i) 0 (Nat.zero_le _) wkA ?_;rintro i S hi hS;simp only [stS3] at hS;subst hS;have hw:=sW (i:=i) (by omega);repeat (first|simp|refine sR ?_|refine sC ?_)
  refine ⟨fun hlt=>?_,fun hge=>?_⟩
  ·have ihx:=ih _ (List.getElem_mem hlt);repeat (first|simp [hlt,Cd.cells_eq]|refine sR ?_)
   generalize c.kids[i]=x at *;refine Stop.of_d (ihx _ _) ?_;repeat (first|simp [hw]|refine sR ?_|refine sC ?_)
   refine sE ?_;exact ⟨i+1,hlt,by omega,wkA⟩
  ·refine sX ?_;simp only [AU, ↓reduceIte];repeat (first|simp|refine sR ?_)
   refine sT (sH hbox htok ?_);simp [packA]
@[simp] theorem lb_base (base:Nat) (out:Bxs) (loc:List (Nat × List (List AV))):lb base out loc base=lk loc 0:=lb_at base 0 out loc
@[simp] theorem upd_lb_base (base:Nat) (out:Bxs) (loc:List (Nat × List (List AV))) (rows:List (List AV)):upd (lb base out loc) base (some rows)=lb base out ((0,rows)::loc):=upd_lb base 0 out loc rows
@[simp] theorem to_ptr_base {q:Nat→Prop} {fz:Option (Nat × Nat × List (List D))} {base i off:Nat} {out:Bxs} {loc:List (Nat × List (List AV))}:To (fun k=>lb base out loc k≠none) q fz (.ptr base i off) (.ptr base i off)↔lk loc 0≠none:=to_ptr_lb (s:=0)
abbrev trueC:Cd:=cdOf 1 []
theorem true33_c (tok:Tks) (nt:Nat):DCall Tryz.prog 38 [] tok nt trueC.av tok nt:=by
 intro box nb;refine sI Tryz.func38 Tryz.ntmps38 fun hbox htok=>?_
 repeat (first|simp|refine sR ?_)
 refine sT (sH hbox htok ?_);simp [packA,trueC,cdOf,conds,ints,AM.edges,slots,tests,Cd.kind,Cd.kids,Cd.m,Cd.g,Cd.sl,Cd.vars,Cd.te]
abbrev bytes (l:List Int):D:=.sl 1 (l.map fun n=>[u8 n])
def growS (st:List Int × List E) (c:Int):List Int × List E :=
 if c % 2=0∨st.1.length=0 then (st.1++[c / 2 % 3],st.2) else (st.1,st.2++[⟨c / 2 % 2,c / 4 % st.1.length,c / 16 % st.1.length⟩])
def growK (g:Gr) (cs:List Int) (most i:Nat):List Int × List E:=((cs.take most).take i).foldl growS (g.nodes,g.edges)
def growR (g:Gr) (cs:List Int) (most:Nat):Gr:=let r:=growK g cs most cs.length; ⟨r.1,r.2⟩
theorem Pre.trans {a b c:Gr} (h:Pre a b) (k:Pre b c):Pre a c:=by
 obtain ⟨t,ht⟩:=h.n;obtain ⟨u,hu⟩:=h.e;obtain ⟨t',ht'⟩:=k.n;obtain ⟨u',hu'⟩:=k.e;exact ⟨h.va,k.vb,⟨t++t',by rw [ht',ht,List.append_assoc]⟩,⟨u++u',by rw [hu',hu,List.append_assoc]⟩⟩
structure Sp where
 l:Gr
 r:Gr
 k:Mo
 i:Mo
structure SpOk (s:Sp):Prop where
 k:VP s.l s.k
 i:Emb (exG s.l s.k) s.r s.i
def Sp.z (s:Sp) (m:Mo) (x:Gr):Mo:=cmpl x (imgP s.r s.i) m
def Sp.dng (s:Sp) (m:Mo) (x:Gr):Bool:=dangL x (imgP s.r s.i) m
def Sp.rest (s:Sp) (m:Mo) (x:Gr):Gr:=exG x (s.z m x)
def Sp.go (s:Sp) (m:Mo) (x:Gr):Mo:=liftM (s.z m x) (thenM s.i m)
def Sp.big (s:Sp) (m:Mo) (x:Gr):Prop:=40<s.l.nodes.length+(s.rest m x).nodes.length∨80<s.l.edges.length+(s.rest m x).edges.length
instance (s:Sp) (m:Mo) (x:Gr):Decidable (s.big m x):=inferInstanceAs (Decidable (_∨_))
def Sp.po (s:Sp) (m:Mo) (x:Gr):Ov:=pushO s.l (s.rest m x) s.k (s.go m x)
def Sp.inn (s:Sp) (m:Mo) (x:Gr):Sp:=⟨(s.po m x).g,x,imgP (s.po m x).g (s.po m x).r,thenM (liftM (s.po m x).r (imgP (s.po m x).g (s.po m x).r)) (s.z m x)⟩
theorem VP.sub {g:Gr} {p:Mo} (h:VP g p):Emb (exG g p) g p:=h.emb
theorem Sp.z_vp {s:Sp} (h:SpOk s) {m:Mo} {x:Gr} (hm:Emb s.r x m) (hd:s.dng m x=false):VP x (s.z m x):=cmpl_vp hm (imgP_vp h.i) hd
theorem keep_mem {F images:List Int} {n m:Nat} (hn:images.Nodup) (hi:images.length=n) (rF:∀ x∈F,0≤x∧x<n) (hr:∀ x∈images,0≤x∧x<m):∀ x∈byK F images F.length,x∈restI m images (ascL F n):=fun x hx=>by
 obtain ⟨i,hi',rfl⟩:=mem_getD hx;rw [byK_all] at hi';rw [byK_getD hi'];have h1:=rF _ (getD_mem (d:=0) hi');have h2:(F.getD i 0).toNat<images.length:=by omega
 refine restI_mem.2 ⟨hr _ (getD_mem (d:=0) h2),kept_not_gone hn h2 (ascL_mem.2 ⟨?_,?_⟩)⟩
 ·rw [show (((F.getD i 0).toNat:Nat):Int)=F.getD i 0 by omega]; exact getD_mem hi'
 ·omega
theorem Sp.go_sub {s:Sp} (h:SpOk s) {m:Mo} {x:Gr} (hm:Emb s.r x m):(∀ v∈(thenM s.i m).nodes,v∈(s.z m x).nodes)∧∀ v∈(thenM s.i m).edges,v∈(s.z m x).edges:=by
 have v:=hm.vm;have w:=h.i.vm;exact ⟨keep_mem hm.n v.ln w.n v.n,keep_mem hm.e v.le w.e v.e⟩
theorem Sp.go_emb {s:Sp} (h:SpOk s) {m:Mo} {x:Gr} (hm:Emb s.r x m) (hd:s.dng m x=false):Emb (exG s.l s.k) (s.rest m x) (s.go m x) :=
 lift_emb (Sp.z_vp h hm hd).emb (h.i.comp hm) (Sp.go_sub h hm).1 (Sp.go_sub h hm).2
theorem Sp.po_emb {s:Sp} (h:SpOk s) {m:Mo} {x:Gr} (hm:Emb s.r x m) (hd:s.dng m x=false) (hb:¬ s.big m x) :
  validG (s.po m x).g=0∧Emb s.l (s.po m x).g (s.po m x).l∧Emb (s.rest m x) (s.po m x).g (s.po m x).r :=
 pushO_emb h.k.emb (Sp.go_emb h hm hd) (by unfold Sp.big at hb; omega)
theorem Sp.inn_ok {s:Sp} (h:SpOk s) {m:Mo} {x:Gr} (hm:Emb s.r x m) (hd:s.dng m x=false) (hb:¬ s.big m x):SpOk (s.inn m x):=by
 obtain ⟨h1,h2,h3⟩:=Sp.po_emb h hm hd hb;have hk:=imgP_vp h3;exact ⟨hk,(lift_emb h3 hk.emb imgP_sub.1 imgP_sub.2).comp (Sp.z_vp h hm hd).emb⟩
abbrev noC:Cd:=cdOf 2 [cdOf 1 []]
def kidsE (f:Cd→Cd × Int):List Cd→List Cd × Int
 | []=>([],0)
 | x::r=>if (f x).2≠0 then ([],(f x).2) else if (kidsE f r).2≠0 then ([],(kidsE f r).2) else ((f x).1::(kidsE f r).1,0)
def lftStep (k:Int) (m:Mo) (g:Gr) (s:Sp) (L H:Sp→List Cd × Int):Cd × Int :=
 if k≠5 then (if (L s).2≠0 then (cdOf 0 [],(L s).2) else (cdOf k (L s).1,0))
 else if s.dng m g=true then (noC,0) else if s.big m g then (cdOf 0 [],3)
 else if (H (s.inn m g)).2≠0 then (cdOf 0 [],(H (s.inn m g)).2) else (.mk 5 (H (s.inn m g)).1 (s.po m g).l (s.po m g).g [] 0 [],0)
mutual
def Cd.lft:Cd→Sp→Cd × Int
 | .mk k c m g _ _ _,s=>lftStep k m g s (fun s=>Cd.lftL c s) (fun s=>Cd.lftL c s)
def Cd.lftL:List Cd→Sp→List Cd × Int
 | [],_=>([],0)
 | x::r,s=>if (Cd.lft x s).2≠0 then ([],(Cd.lft x s).2) else if (Cd.lftL r s).2≠0 then ([],(Cd.lftL r s).2) else ((Cd.lft x s).1::(Cd.lftL r s).1,0)
end
theorem Cd.lftL_eq (s:Sp):∀ l:List Cd,Cd.lftL l s=kidsE (fun x=>Cd.lft x s) l
 | []=>by simp [Cd.lftL,kidsE]
 | x::r=>by simp [Cd.lftL,kidsE,Cd.lftL_eq s r]
theorem Cd.lft_eq (c:Cd) (s:Sp):c.lft s=lftStep c.kind c.m c.g s (fun s=>kidsE (fun x=>Cd.lft x s) c.kids) (fun s=>kidsE (fun x=>Cd.lft x s) c.kids):=by
 cases c;simp only [Cd.lft,Cd.lftL_eq];rfl
theorem kidsE_all {f:Cd→Cd × Int}:∀ {l:List Cd},(kidsE f l).2=0→(kidsE f l).1=l.map (fun x=>(f x).1)∧∀ x∈l,(f x).2=0
 | [],_=>⟨rfl,by simp⟩
 | x::r,h=>by
  unfold kidsE at h ⊢;split at h
  ·contradiction
  ·rename_i h1;split at h
   ·contradiction
   ·rename_i h2;obtain ⟨i1,i2⟩:=kidsE_all (Decidable.not_not.1 h2);rw [if_neg h1,if_neg h2];refine ⟨by rw [i1]; rfl,fun y hy=>?_⟩;rcases List.mem_cons.1 hy with rfl|hy
    ·exact Decidable.not_not.1 h1
    ·exact i2 y hy
theorem kidsE_of {f:Cd→Cd × Int}:∀ {l:List Cd},(∀ x∈l,(f x).2=0)→kidsE f l=(l.map (fun x=>(f x).1),0)
 | [],_=>rfl
 | x::r,h=>by
  have h1:=h x (by simp);have ih:=kidsE_of (f:=f) (l:=r) fun y hy=>h y (by simp [hy])
  unfold kidsE;rw [if_neg (by simp [h1]),if_neg (by simp [ih]),ih];rfl
theorem kidsE_at {f:Cd→Cd × Int}:∀ {l:List Cd} {i:Nat} (hi:i<l.length),(∀ x∈l.take i,(f x).2=0)→(f l[i]).2≠0→kidsE f l=([],(f l[i]).2)
 | x::r,0,_,_,h=>by
  unfold kidsE;rw [if_pos (by simpa using h)];rfl
 | x::r,i+1,hi,ht,h=>by
  have h1:=ht x (by simp);have hi':i<r.length:=by simpa using hi
  have ih:=kidsE_at (f:=f) (l:=r) (i:=i) hi' (fun y hy=>ht y (by simp [hy])) (by simpa using h);unfold kidsE;rw [if_neg (by simp [h1]),ih];have h2:(f r[i]).2≠0:=by simpa using h
  rw [if_pos (by simpa using h2)];rfl
structure LftOk (g:Gr) (c:Cd):Prop where
 ovr:c.ovr g=0
 fit:c.Fit
 bare:c.Bare
theorem noC_ok (g:Gr):LftOk g noC :=
 ⟨Cd.ovr_of rfl rfl fun x hx=>by
  have:x=cdOf 1 []:=by simpa [cdOf,Cd.kids] using hx
  subst this;exact Cd.ovr_of rfl rfl (by simp [cdOf,Cd.kids]),
  cdOf_fit (by rw [kidN_eq]; simp) (by simpa using cdOf_fit (k:=1) (l:=[]) (by rw [kidN_eq]; simp) (by simp)),bare_cdOf (by simpa using bare_cdOf (k:=1) (l:=[]) (by simp))⟩
theorem lft_ok:∀ (n:Nat) (c:Cd),SizeOf.sizeOf c<n→c.Fit→∀ s,SpOk s→c.ovr s.r=0→(c.lft s).2=0→LftOk s.l (c.lft s).1
 | 0,c,hn,_,_,_,_,_=>absurd hn (Nat.not_lt_zero _)
 | n+1,c,hn,hf,s,hs,hv,hz=>by
  have ih:=fun x (hx:x∈c.kids)=>lft_ok n x (by have:=Cd.kid_lt hx; omega) (hf.kid x hx)
  have hkl:=hf.kids;obtain ⟨h0,h1,h2⟩:=Cd.ovr_zero hv;rw [c.lft_eq] at hz ⊢;unfold lftStep at hz ⊢;by_cases k5:c.kind=5
  ·rw [if_neg (by simp [k5])] at hz ⊢;obtain ⟨hm,x,hkx⟩:=ovr_ex hv k5;by_cases hd:s.dng c.m c.g=true
   ·rw [if_pos hd]; exact noC_ok _
   ·rw [if_neg hd] at hz ⊢;have hd':s.dng c.m c.g=false:=by simpa using hd
    by_cases hb:s.big c.m c.g
    ·rw [if_pos hb] at hz; cases hz
    ·rw [if_neg hb] at hz ⊢;have hk:=Sp.inn_ok hs hm hd' hb;obtain ⟨p1,p2,p3⟩:=Sp.po_emb hs hm hd' hb;split at hz
     ·contradiction
     ·rename_i h3;rw [if_neg h3];have h3':=Decidable.not_not.1 h3
      rw [hkx] at h3' ⊢;obtain ⟨e1,e2⟩:=kidsE_all h3';have hi:c.inn s.r=c.g:=if_pos k5
      rw [hi] at h2;have hx:=ih x (by rw [hkx]; simp) (s.inn c.m c.g) hk (h2 x (by rw [hkx]; simp)) (e2 x (by simp));simp only [e1,List.map_cons,List.map_nil];have hg:=(validG_types p1).1;have hll:(s.po c.m c.g).l.nodes.length≤40∧(s.po c.m c.g).l.edges.length≤80:=by
       have:=p2.vm
       have:=(validG_types this.va).1
       have:=p2.vm.ln
       have:=p2.vm.le
       omega
      refine ⟨Cd.ovr_of rfl ?_ fun y hy=>?_,.mk (by rw [kidN_eq]; simp [Cd.kids]) ⟨by show (s.po c.m c.g).l.nodes.length≤1000000; omega,by show (s.po c.m c.g).l.edges.length≤1000000; omega⟩ ⟨by show (s.po c.m c.g).g.nodes.length≤1000000; omega,by show (s.po c.m c.g).g.edges.length≤1000000; omega⟩ (by rw [bigN_eq]; simp [Cd.sl]) (by rw [bigN_eq]; simp [Cd.te]) fun y hy=>?_,.mk rfl rfl fun y hy=>?_⟩
      ·show ovrStep s.l 5 (s.po c.m c.g).l (s.po c.m c.g).g=0
       rw [ovrStep,if_pos rfl,if_neg (by simp [p2.v]),if_pos p2.inj]
      ·have:y=(x.lft (s.inn c.m c.g)).1:=by simpa [Cd.kids] using hy
       subst this;exact hx.ovr
      ·have:y=(x.lft (s.inn c.m c.g)).1:=by simpa [Cd.kids] using hy
       subst this;exact hx.fit
      ·have:y=(x.lft (s.inn c.m c.g)).1:=by simpa [Cd.kids] using hy
       subst this;exact hx.bare
  ·rw [if_pos k5] at hz ⊢;split at hz
   ·contradiction
   ·rename_i h3;rw [if_neg h3];obtain ⟨e1,e2⟩:=kidsE_all (Decidable.not_not.1 h3);have hi:c.inn s.r=s.r:=if_neg k5
    rw [hi] at h2;have key:∀ y∈c.kids.map (fun x=>(x.lft s).1),LftOk s.l y:=fun y hy=>by
     obtain ⟨x,hx,rfl⟩:=List.mem_map.1 hy;exact ih x hx s hs (h2 x hx) (e2 x hx)
    simp only [e1];refine ⟨Cd.ovr_of (shape_cdOf h0 k5 (by simp)) (if_neg k5) fun y hy=>?_,cdOf_fit (by simpa using hkl) fun y hy=>(key y hy).fit,bare_cdOf fun y hy=>(key y hy).bare⟩;rw [Cd.inn,if_neg (show ¬ (cdOf c.kind (c.kids.map (fun x=>(x.lft s).1))).kind=5 from k5)];exact (key y hy).ovr
def stH7 (xs:List Int) (v:Int) (nb:Nat) (box:Bxs) (tok:Tks) (nt:Nat) (i:Nat):AState:=⟨tl [(0,.d (ints xs)),(1,I v),(5,I i)],lb nb box [],tok,nt⟩
theorem has07_c (xs:List Int) (v:Int) (hx:xs.length≤1000000) (tok:Tks) (nt:Nat):DCall Tryz.prog 242 [.d (ints xs),I v] tok nt (B (decide (v∈xs))) tok nt:=by
 intro box nb;refine sI Tryz.func242 Tryz.ntmps242 fun hbox htok=>?_
 refine sR ?_;simp;refine sR ?_;simp;refine sN ?_;refine AL.loopT (stH7 xs v nb box tok nt) (fun i=>i≤xs.length∧v∉xs.take i) (fun i=>xs.length - i) 0 ⟨Nat.zero_le _,by simp⟩ (Weaks.mk (Nat.le_refl _) rfl (by simp [ToL]) trivial) ?_;rintro i S ⟨hi,htk⟩ hS;simp only [stH7] at hS;subst hS;have hw:=sW (i:=i) (by omega);refine sR ?_;simp;refine sC ?_;simp;refine ⟨fun hlt=>?_,fun hge=>?_⟩
 ·refine sR ?_;simp [hlt];refine sC ?_;simp;refine ⟨fun he=>?_,fun hne=>?_⟩
  ·refine sR ?_;simp;have hmem:v∈xs:=by rw [←he]; exact List.getElem_mem _
   refine sT (sH hbox htok ?_);simp [packA,hmem]
  ·refine sR ?_;simp [hw];refine sE ?_;refine ⟨i+1,⟨hlt,?_⟩,by omega,Weaks.mk (Nat.le_refl _) rfl (by simp [ToL]) trivial⟩;rw [List.take_succ_eq_append_getElem hlt];simp only [List.mem_append,List.mem_singleton,not_or];exact ⟨htk,fun e=>hne e.symm⟩
 ·refine sX ?_;simp only [AU, ↓reduceIte];refine sR ?_;simp;have hn:v∉xs:=by rwa [List.take_of_length_le hge] at htk
  refine sT (sH hbox htok ?_);simp [packA,hn]
def stH12 (xs:List Int) (v:Int) (nb:Nat) (box:Bxs) (tok:Tks) (nt:Nat) (i:Nat):AState:=⟨tl [(0,.d (ints xs)),(1,I v),(5,I i)],lb nb box [],tok,nt⟩
theorem has12_c (xs:List Int) (v:Int) (hx:xs.length≤1000000) (tok:Tks) (nt:Nat):DCall Tryz.prog 202 [.d (ints xs),I v] tok nt (B (decide (v∈xs))) tok nt:=by
 intro box nb;refine sI Tryz.func202 Tryz.ntmps202 fun hbox htok=>?_
 refine sR ?_;simp;refine sR ?_;simp;refine sN ?_;refine AL.loopT (stH12 xs v nb box tok nt) (fun i=>i≤xs.length∧v∉xs.take i) (fun i=>xs.length - i) 0 ⟨Nat.zero_le _,by simp⟩ (Weaks.mk (Nat.le_refl _) rfl (by simp [ToL]) trivial) ?_;rintro i S ⟨hi,htk⟩ hS;simp only [stH12] at hS;subst hS;have hw:=sW (i:=i) (by omega);refine sR ?_;simp;refine sC ?_;simp;refine ⟨fun hlt=>?_,fun hge=>?_⟩
 ·refine sR ?_;simp [hlt];refine sC ?_;simp;refine ⟨fun he=>?_,fun hne=>?_⟩
  ·refine sR ?_;simp;have hmem:v∈xs:=by rw [←he]; exact List.getElem_mem _
   refine sT (sH hbox htok ?_);simp [packA,hmem]
  ·refine sR ?_;simp [hw];refine sE ?_;refine ⟨i+1,⟨hlt,?_⟩,by omega,Weaks.mk (Nat.le_refl _) rfl (by simp [ToL]) trivial⟩;rw [List.take_succ_eq_append_getElem hlt];simp only [List.mem_append,List.mem_singleton,not_or];exact ⟨htk,fun e=>hne e.symm⟩
 ·refine sX ?_;simp only [AU, ↓reduceIte];refine sR ?_;simp;have hn:v∉xs:=by rwa [List.take_of_length_le hge] at htk
  refine sT (sH hbox htok ?_);simp [packA,hn]
def stI7 (xs:List Int) (v:Int) (nb:Nat) (box:Bxs) (tok:Tks) (nt:Nat) (i:Nat):AState:=⟨tl [(0,.d (ints xs)),(1,I v),(5,I i)],lb nb box [],tok,nt⟩
theorem index07_c (xs:List Int) (v:Int) (hx:xs.length≤1000000) (tok:Tks) (nt:Nat):DCall Tryz.prog 105 [.d (ints xs),I v] tok nt (I (indexI xs v)) tok nt:=by
 intro box nb;refine sI Tryz.func105 Tryz.ntmps105 fun hbox htok=>?_
 refine sR ?_;simp;refine sR ?_;simp;refine sN ?_;refine AL.loopT (stI7 xs v nb box tok nt) (fun i=>i≤xs.length∧v∉xs.take i) (fun i=>xs.length - i) 0 ⟨Nat.zero_le _,by simp⟩ (Weaks.mk (Nat.le_refl _) rfl (by simp [ToL]) trivial) ?_;rintro i S ⟨hi,htk⟩ hS;simp only [stI7] at hS;subst hS;have hw:=sW (i:=i) (by omega);refine sR ?_;simp;refine sC ?_;simp;refine ⟨fun hlt=>?_,fun hge=>?_⟩
 ·have hsp:xs=xs.take i++xs[i]::xs.drop (i+1):=by simp
  refine sR ?_;simp [hlt];refine sC ?_;simp;refine ⟨fun he=>?_,fun hne=>?_⟩
  ·refine sR ?_;simp;have hmem:v∈xs:=by rw [←he]; exact List.getElem_mem _
   have hid:xs.idxOf v=i:=by
    unfold List.idxOf;rw [List.findIdx_eq hlt];refine ⟨by simp [he],fun j hj=>?_⟩;have:xs[j]≠v:=fun e=>htk (by rw [←e,List.mem_take_iff_getElem]; exact ⟨j,by omega,rfl⟩)
    simpa using this
   refine sT (sH hbox htok ?_);simp [packA,indexI,hmem,hid]
  ·refine sR ?_;simp [hw];refine sE ?_;refine ⟨i+1,⟨hlt,?_⟩,by omega,Weaks.mk (Nat.le_refl _) rfl (by simp [ToL]) trivial⟩;rw [List.take_succ_eq_append_getElem hlt];simp only [List.mem_append,List.mem_singleton,not_or];exact ⟨htk,fun e=>hne e.symm⟩
 ·refine sX ?_;simp only [AU, ↓reduceIte];refine sR ?_;simp;have hn:v∉xs:=by rwa [List.take_of_length_le hge] at htk
  refine sT (sH hbox htok ?_);simp [packA,indexI,hn]
def stAs (l:List Int) (n:Int) (nb:Nat) (box:Bxs) (tok:Tks) (nt:Nat) (i:Nat):AState:=⟨tl [(0,.d (ints l)),(1,I n),(5,I i)],lb nb box [],tok,nt⟩
theorem asc07_c (l:List Int) (n:Int) (hl:l.length≤1000000) (tok:Tks) (nt:Nat):DCall Tryz.prog 241 [.d (ints l),I n] tok nt (I (ascE l n)) tok nt:=by
 intro box nb;refine sI Tryz.func241 Tryz.ntmps241 fun hbox htok=>?_
 repeat (first|simp|refine sR ?_)
 refine sN ?_;refine AL.loopT (stAs l n nb box tok nt) (fun i=>i≤l.length∧firstE (ascAt l n) i=0) (fun i=>l.length - i) 0 ⟨Nat.zero_le _,rfl⟩ (Weaks.mk (Nat.le_refl _) rfl (by simp [ToL]) trivial) ?_;rintro i S ⟨hi,hok⟩ hS;simp only [stAs] at hS;subst hS;have hw:=sW (i:=i) (by omega);have hR:i<l.length→ascAt l n i≠0→ascE l n=ascAt l n i:=fun hlt h0=>firstE_stop hok h0 l.length hlt
 repeat (first|simp|refine sR ?_|refine sC ?_)
 refine ⟨fun hlt=>?_,fun hge=>?_⟩
 ·have hg:l.getD i 0=l[i]:=by simp [hlt]
  have hR:=hR hlt;have hA:ascAt l n i=if l[i]<0∨n≤l[i] then 6 else if 0<i∧l[i]≤l.getD (i - 1) 0 then 12 else 0:=by rw [ascAt,hg]
  repeat (first|simp [hlt]|refine sR ?_)
  by_cases hneg:l[i]<0
  ·repeat (first|simp [hneg,hlt]|refine sR ?_)
   refine sC ?_;repeat (first|simp|refine sR ?_)
   rw [hA,if_pos (.inl hneg)] at hR;have hR:=hR (by decide);refine sT (sH hbox htok ?_);simp [packA,hR]
  ·repeat (first|simp [hneg,hlt]|refine sR ?_)
   by_cases hbig:n≤l[i]
   ·simp only [hbig];refine sC ?_;repeat (first|simp|refine sR ?_)
    rw [hA,if_pos (.inr hbig)] at hR;have hR:=hR (by decide);refine sT (sH hbox htok ?_);simp [packA,hR]
   ·simp only [hbig];rw [if_neg (by omega)] at hA;refine sC ?_;simp;by_cases h0:0<i
    ·have hw':IntKind.i64.wrap (↑i - 1)=((i - 1:Nat):Int):=by rw [wrap_in (by omega) (by omega)]; omega
     have hlt':i - 1<l.length:=by omega
     have hg':l.getD (i - 1) 0=l[i - 1]:=by simp [hlt']
     rw [hg'] at hA;repeat (first|simp [hlt,h0,hw',hlt']|refine sR ?_)
     by_cases hle:l[i]≤l[i - 1]
     ·rw [if_pos ⟨h0,hle⟩] at hA;rw [hA] at hR;have hR:=hR (by decide);simp only [hle];refine sC ?_;repeat (first|simp|refine sR ?_)
      refine sT (sH hbox htok ?_);simp [packA,hR]
     ·rw [if_neg (by omega)] at hA;simp only [hle];refine sC ?_;simp;repeat (first|simp [hw]|refine sR ?_)
      refine sE ?_;exact ⟨i+1,⟨hlt,by simp only [firstE,hok,hA, ↓reduceIte]⟩,by omega,Weaks.mk (Nat.le_refl _) rfl (by simp [ToL]) trivial⟩
    ·rw [if_neg (by omega)] at hA;repeat (first|simp [hlt,h0]|refine sR ?_)
     refine sC ?_;simp;repeat (first|simp [hw]|refine sR ?_)
     refine sE ?_;exact ⟨i+1,⟨hlt,by simp only [firstE,hok,hA, ↓reduceIte]⟩,by omega,Weaks.mk (Nat.le_refl _) rfl (by simp [ToL]) trivial⟩
 ·refine sX ?_;simp only [AU, ↓reduceIte];repeat (first|simp|refine sR ?_)
  have:i=l.length:=by omega
  subst this;refine sT (sH hbox htok ?_);simp [packA,ascE,hok]
def stRi (g:Gr) (p:Mo) (nb:Nat) (box:Bxs) (tok:Tks) (nt:Nat) (i:Nat):AState :=
 ⟨tl [(7,I i),(3,.ptr (nb+3) 0 0),(2,.ptr (nb+2) 0 0)],lb nb box [(3,[[.d (ints p.nodes),.d (ints p.edges)]]),(2,[[.d (ints g.nodes),.d (AM.edges g.edges)]])],tok,nt⟩
theorem right07_c (g:Gr) (p:Mo) (hg:g.Fit) (hv:validG g=0) (hp:p.Fit) (tok:Tks) (nt:Nat):DCall Tryz.prog 186 [g.av,p.av] tok nt (I (rightP g p)) tok nt:=by
 intro box nb;have h1:=asc07_c p.nodes g.nodes.length hp.n;have h2:=asc07_c p.edges g.edges.length hp.e;refine sI Tryz.func186 Tryz.ntmps186 fun hbox htok=>?_
 repeat (first|simp|refine sR ?_)
 refine Stop.of_d (h1 _ _) ?_;repeat (first|simp|refine sR ?_)
 by_cases e1:ascE p.nodes g.nodes.length=0
 ·simp only [e1];refine sC ?_;repeat (first|simp|refine sR ?_)
  refine Stop.of_d (h2 _ _) ?_;repeat (first|simp|refine sR ?_)
  by_cases e2:ascE p.edges g.edges.length=0
  ·simp only [e2];refine sC ?_;repeat (first|simp|refine sR ?_)
   refine sN ?_;have re:=asc_rng e2;refine AL.loopT (stRi g p nb box tok nt) (fun i=>i≤p.edges.length∧firstE (dangAt g p) i=0) (fun i=>p.edges.length - i) 0 ⟨Nat.zero_le _,rfl⟩ wkA ?_;rintro i S ⟨hi,hok⟩ hS;simp only [stRi] at hS;subst hS;have hpe:=hp.e;have hw:=sW (i:=i) (by omega);have hR:i<p.edges.length→dangAt g p i≠0→rightP g p=dangAt g p i:=fun hlt h0=>by
    have:=firstE_stop hok h0 p.edges.length hlt
    simp [rightP,e1,e2,this]
   repeat (first|simp|refine sR ?_|refine sC ?_)
   refine ⟨fun hlt=>?_,fun hge=>?_⟩
   ·have hR:=hR hlt;obtain ⟨r1,r2⟩:=re _ (List.getElem_mem hlt);have r3:p.edges[i].toNat<g.edges.length:=by omega
    have hD:dangAt g p i=if g.edges[p.edges[i].toNat].fr∈p.nodes∧g.edges[p.edges[i].toNat].to∈p.nodes then 0 else 14:=by
     have q1:p.edges.getD i 0=p.edges[i]:=by simp [hlt]
     have q2:g.edges.getD p.edges[i].toNat default=g.edges[p.edges[i].toNat]:=by simp [r3]
     rw [dangAt,q1,q2]
    have hh:=fun v=>has07_c p.nodes v hp.n
    refine sN ?_;refine AL.region2 follows_Tryz (Nat.le_refl _) (by kernel_rfl) (Side.of (by simp)) ?_;simp [hlt,r1,r2,r3];generalize g.edges[p.edges[i].toNat]=x at *;repeat (first|simp|refine sR ?_)
    refine Stop.of_d (hh _ _ _) ?_;simp;by_cases h1:x.fr∈p.nodes
    ·simp only [h1];repeat (first|simp|refine sR ?_)
     refine Stop.of_d (hh _ _ _) ?_;simp;by_cases h2:x.to∈p.nodes
     ·rw [if_pos ⟨h1,h2⟩] at hD;simp only [h2];repeat (first|simp [hw]|refine sR ?_|refine sC ?_)
      refine sE ?_;exact ⟨i+1,⟨hlt,by simp only [firstE,hok,hD, ↓reduceIte]⟩,by omega,wkA⟩
     ·rw [if_neg (fun h=>h2 h.2)] at hD;rw [hD] at hR;have hR:=hR (by decide);simp only [h2];repeat (first|simp|refine sR ?_)
      refine sC ?_;repeat (first|simp|refine sR ?_)
      refine sT (sH hbox htok ?_);simp [packA,hR]
    ·rw [if_neg (fun h=>h1 h.1)] at hD;rw [hD] at hR;have hR:=hR (by decide);simp only [h1];repeat (first|simp|refine sR ?_)
     refine sC ?_;repeat (first|simp|refine sR ?_)
     refine sT (sH hbox htok ?_);simp [packA,hR]
   ·refine sX ?_;simp only [AU, ↓reduceIte];repeat (first|simp|refine sR ?_)
    have:i=p.edges.length:=by omega
    subst this;refine sT (sH hbox htok ?_);simp [packA,rightP,e1,e2,hok]
  ·have b2:(ascE p.edges g.edges.length !=0)=true:=by simp [e2]
   simp only [b2];refine sC ?_;repeat (first|simp|refine sR ?_)
   refine sT (sH hbox htok ?_);simp [packA,rightP,e1,e2]
 ·have b1:(ascE p.nodes g.nodes.length !=0)=true:=by simp [e1]
  simp only [b1];refine sC ?_;repeat (first|simp|refine sR ?_)
  refine sT (sH hbox htok ?_);simp [packA,rightP,e1]
theorem valid07_c (g:Gr) (p:Mo) (hg:g.Fit) (hp:p.Fit) (tok:Tks) (nt:Nat):DCall Tryz.prog 104 [g.av,p.av] tok nt (I (validP g p)) tok nt:=by
 intro box nb;have h1:=valid05_c g hg;have h2:=fun h=>right07_c g p hg h hp
 refine sI Tryz.func104 Tryz.ntmps104 fun hbox htok=>?_
 repeat (first|simp|refine sR ?_)
 refine Stop.of_d (h1 _ _) ?_;repeat (first|simp|refine sR ?_)
 by_cases e1:validG g=0
 ·simp only [e1];refine sC ?_;repeat (first|simp|refine sR ?_)
  refine Stop.of_d (h2 e1 _ _) ?_;repeat (first|simp|refine sR ?_)
  refine sT (sH hbox htok ?_);simp [packA,validP,e1]
 ·have b1:(validG g !=0)=true:=by simp [e1]
  simp only [b1];refine sC ?_;repeat (first|simp|refine sR ?_)
  refine sT (sH hbox htok ?_);simp [packA,validP,e1]
def exN07 (g:Gr) (p:Mo) (i:Nat):List Int:=(p.nodes.take i).map fun k=>g.nodes.getD k.toNat 0
def exE07 (g:Gr) (p:Mo) (i:Nat):List E:=(p.edges.take i).map (exE1 g p)
def stEx1 (g:Gr) (p:Mo) (nb:Nat) (box:Bxs) (x:Acc):AState :=
 ⟨tl [(9,I x.i),(8,.ptr (nb+8) 0 0),(5,.ptr (nb+5) 0 0),(4,.ptr (nb+4) 0 0),(3,.ptr (nb+3) 0 0),(2,.ptr (nb+2) 0 0)],
  lb nb box [(8,[[.osl 1 (rI (exN07 g p x.i)) x.own,.osl 0 [] .full]]),(3,[[.d (ints p.nodes),.d (ints p.edges)]]),(2,[[.d (ints g.nodes),.d (AM.edges g.edges)]]),(5,[[nilS,nilS]]),(4,[[nilS,nilS]])],x.tok,x.nt⟩
def stEx2 (g:Gr) (p:Mo) (own1:Own) (nb:Nat) (box:Bxs) (x:Acc):AState :=
 ⟨tl [(10,I x.i),(8,.ptr (nb+8) 0 0),(5,.ptr (nb+5) 0 0),(4,.ptr (nb+4) 0 0),(3,.ptr (nb+3) 0 0),(2,.ptr (nb+2) 0 0)],
  lb nb box [(8,[[.d (ints (exN07 g p p.nodes.length)),.osl 3 (rE (exE07 g p x.i)) x.own]]),(3,[[.d (ints p.nodes),.d (ints p.edges)]]),(2,[[.d (ints g.nodes),.d (AM.edges g.edges)]]),(5,[[nilS,nilS]]),(4,[[nilS,nilS]])],x.tok,x.nt⟩
theorem exN07_zero (g:Gr) (p:Mo):exN07 g p 0=[]:=by simp [exN07]
theorem exE07_zero (g:Gr) (p:Mo):exE07 g p 0=[]:=by simp [exE07]
theorem exN07_succ (g:Gr) (p:Mo) {i:Nat} (h:i<p.nodes.length):exN07 g p (i+1)=exN07 g p i++[g.nodes.getD p.nodes[i].toNat 0]:=by simp only [exN07,List.take_add_one,List.getElem?_eq_getElem h,Option.toList,List.map_append,List.map_cons,List.map_nil]
theorem exE07_succ (g:Gr) (p:Mo) {i:Nat} (h:i<p.edges.length):exE07 g p (i+1)=exE07 g p i++[exE1 g p p.edges[i]]:=by simp only [exE07,List.take_add_one,List.getElem?_eq_getElem h,Option.toList,List.map_append,List.map_cons,List.map_nil]
theorem exN07_len (g:Gr) (p:Mo) (i:Nat):(exN07 g p i).length≤i:=by simp [exN07]; omega
theorem exE07_len (g:Gr) (p:Mo) (i:Nat):(exE07 g p i).length≤i:=by simp [exE07]; omega
theorem exG_07 (g:Gr) (p:Mo):exG g p=⟨exN07 g p p.nodes.length,exE07 g p p.edges.length⟩:=by simp [exG,exN07,exE07]
theorem extract07_c (g:Gr) (p:Mo) (hg:g.Fit) (hp:p.Fit) (h:VP g p) (tok:Tks) (nt:Nat):DCall Tryz.prog 54 [g.av,p.av] tok nt (.tup [(exG g p).av,p.av,I 0]) tok nt:=by
 intro box nb;have h1:=valid07_c g p hg hp;rw [h.v] at h1;refine sI Tryz.func54 Tryz.ntmps54 fun hbox htok=>?_
 repeat (first|simp|refine sR ?_)
 refine Stop.of_d (h1 _ _) ?_;repeat (first|simp|refine sR ?_)
 refine sC ?_;repeat (first|simp|refine sR ?_)
 refine sN ?_;have hpn:=hp.n;have hpe:=hp.e;refine AL.loopT (stEx1 g p nb box) (fun x=>x.i≤p.nodes.length∧TK tok nt x.tok x.nt [x.own]) (fun x=>p.nodes.length - x.i) ⟨0,.full,tok,nt⟩ ⟨Nat.zero_le _,(TK.start htok).full⟩ (Weaks.mk (Nat.le_refl _) rfl (by simp [ToL,lk]) (by simp [BoxL,lk,exN07_zero])) ?_;rintro ⟨i,own,tok',nt'⟩ S ⟨hi,htk⟩ hS;simp only [stEx1] at hS hi htk;subst hS;have hw:=sW (i:=i) (by omega);repeat (first|simp|refine sR ?_|refine sC ?_)
 refine ⟨fun hlt=>?_,fun hge=>?_⟩
 ·obtain ⟨r1,r2⟩:=h.n _ (List.getElem_mem hlt);have r3:p.nodes[i].toNat<g.nodes.length:=by omega
  refine sR ?_;simp [hlt,r1,r2,r3];refine ⟨⟨by have:=exN07_len g p i; omega,htk.live⟩,?_⟩;repeat (first|simp [hw]|refine sR ?_)
  refine sE ?_;exact ⟨⟨i+1,_,_,_⟩,⟨hlt,htk.app⟩,by simp only; omega,Weaks.mk htk.app.le rfl (by simp [ToL,lk]) (by simp [BoxL,lk,exN07_succ g p hlt,r3])⟩
 ·refine sX ?_;simp only [AU, ↓reduceIte];have:i=p.nodes.length:=by omega
  subst this;repeat (first|simp|refine sR ?_)
  refine sN ?_;refine AL.loopT (stEx2 g p own nb box) (fun x=>x.i≤p.edges.length∧TK tok nt x.tok x.nt [x.own]) (fun x=>p.edges.length - x.i) ⟨0,.full,tok',nt'⟩ ⟨Nat.zero_le _,htk.tail.full⟩ (Weaks.mk htk.le rfl (by simp [ToL,lk]) (by simp [BoxL,lk,exE07_zero])) ?_;rintro ⟨i,own2,tok2,nt2⟩ S ⟨hi,htk2⟩ hS;simp only [stEx2] at hS hi htk2;subst hS;have hw:=sW (i:=i) (by omega);have hh:=fun v=>index07_c p.nodes v hp.n
  repeat (first|simp|refine sR ?_|refine sC ?_)
  refine ⟨fun hlt=>?_,fun hge=>?_⟩
  ·obtain ⟨r1,r2⟩:=h.e _ (List.getElem_mem hlt);have r3:p.edges[i].toNat<g.edges.length:=by omega
   have hE:exE1 g p p.edges[i]=⟨g.edges[p.edges[i].toNat].ty,indexI p.nodes g.edges[p.edges[i].toNat].fr,indexI p.nodes g.edges[p.edges[i].toNat].to⟩:=by
    have q2:g.edges.getD p.edges[i].toNat default=g.edges[p.edges[i].toNat]:=by simp [r3]
    rw [exE1,q2]
   have hsucc:=exE07_succ g p hlt;rw [hE] at hsucc;refine sN ?_;refine AL.region2 follows_Tryz (Nat.le_refl _) (by kernel_rfl) (Side.of (by simp)) ?_;simp [hlt,r1,r2,r3];generalize g.edges[p.edges[i].toNat]=x at *;refine sR ?_;simp;refine Stop.of_d (hh _ _ _) ?_;simp;refine Stop.of_d (hh _ _ _) ?_;simp;refine ⟨⟨by have:=exE07_len g p i; omega,htk2.live⟩,?_⟩;repeat (first|simp [hw]|refine sR ?_)
   refine sE ?_;exact ⟨⟨i+1,_,_,_⟩,⟨hlt,htk2.app⟩,by simp only; omega,Weaks.mk htk2.app.le rfl (by simp [ToL,lk]) (by simp [BoxL,lk,hsucc])⟩
  ·refine sX ?_;simp only [AU, ↓reduceIte];have:i=p.edges.length:=by omega
   subst this;repeat (first|simp|refine sR ?_)
   refine ⟨by omega,by omega,?_⟩;have htk3:=htk2.full.app.full.app;refine sT (sG hbox htok htk3.old htk3.le ?_);simp [packA,exG_07]
theorem few07_c (p:Mo) (n:Int) (h1:p.nodes.length≤281474976710656) (h2:p.edges.length≤281474976710656) (tok:Tks) (nt:Nat):DCall Tryz.prog 108 [p.av,I n] tok nt (B (fewM p n)) tok nt:=by
 intro box nb;have hw:IntKind.i64.wrap (↑p.nodes.length+↑p.edges.length)=(p.nodes.length:Int)+p.edges.length:=wrap_in (by omega) (by omega)
 refine sI Tryz.func108 Tryz.ntmps108 fun hbox htok=>?_
 repeat (first|simp [hw]|refine sR ?_)
 refine sT (sH hbox htok ?_);simp [packA,fewM]
theorem isNaN_c (n:Int) (tok:Tks) (nt:Nat):DCall Tryz.prog 281 [I n] tok nt (B false) tok nt:=by
 intro box nb;refine sI Tryz.func281 Tryz.ntmps281 fun hbox htok=>?_
 repeat (first|simp|refine sR ?_)
 refine sT (sH hbox htok ?_);simp [packA]
theorem isNaNs_c (n:Int) (tok:Tks) (nt:Nat):DCall Tryz.prog 244 [I n] tok nt (B false) tok nt:=by
 intro box nb;refine sI Tryz.func244 Tryz.ntmps244 fun hbox htok=>?_
 repeat (first|simp|refine sR ?_)
 refine sT (sH hbox htok ?_);simp [packA]
theorem less_c (m n:Int) (tok:Tks) (nt:Nat):DCall Tryz.prog 243 [I m,I n] tok nt (B (decide (m<n))) tok nt:=by
 intro box nb;have h:=isNaN_c;refine sI Tryz.func243 Tryz.ntmps243 fun hbox htok=>?_
 repeat (first|simp|refine sR ?_)
 refine Stop.of_d (h _ _ _) ?_;repeat (first|simp|refine sR ?_)
 refine sT (sH hbox htok ?_);simp [packA]
def lowI (l:List Int) (v:Int):Nat:=l.findIdx fun x=>decide (v≤x)
theorem lowI_eq {l:List Int} {v:Int} {i:Nat} (hi:i≤l.length) (h1:∀ t,t<i→l.getD t 0<v) (h2:∀ t,i≤t→t<l.length→v≤l.getD t 0):lowI l v=i:=by
 unfold lowI;have gd:∀ t (h:t<l.length),l.getD t 0=l[t]:=fun t h=>by simp [h]
 by_cases h:i<l.length
 ·rw [List.findIdx_eq h];refine ⟨?_,fun j hj=>?_⟩
  ·have:=h2 i (Nat.le_refl _) h
   rw [gd i h] at this;simpa using this
  ·have:=h1 j hj
   rw [gd j (by omega)] at this;simpa using this
 ·have:i=l.length:=by omega
  subst this;rw [List.findIdx_eq_length];intro x hx;obtain ⟨t,ht,rfl⟩:=List.getElem_of_mem hx;have:=h1 t ht
  rw [gd t ht] at this;simpa using this
theorem lowI_index {l:List Int} {v:Int} (hs:∀ j i,i<j→j<l.length→l.getD i 0<l.getD j 0) (hm:v∈l):(lowI l v:Int)=indexI l v:=by
 obtain ⟨i1,i2,i3⟩:=indexI_in hm;obtain ⟨k,hk⟩:∃ k:Nat,indexI l v=k:=⟨(indexI l v).toNat,by omega⟩
 rw [hk] at i1 i2 i3 ⊢;rw [Int.toNat_natCast] at i3;rw [lowI_eq (i:=k) (by omega) (fun t ht=>by rw [←i3]; exact hs k t ht (by omega)) fun t h1 h2=>by
  rw [←i3];by_cases e:t=k
  ·subst e; omega
  ·have:=hs t k (by omega) h2; omega]
structure AccB where
 i:Nat
 j:Nat
def stBs (l:List Int) (v:Int) (nb:Nat) (box:Bxs) (tok:Tks) (nt:Nat) (a:AccB):AState:=⟨tl [(8,I a.j),(7,I a.i),(6,I l.length),(5,B false),(4,I 0),(0,.d (ints l)),(1,I v)],lb nb box [],tok,nt⟩
theorem search_c (l:List Int) (v:Int) (hl:l.length≤1000000) (hs:∀ j i,i<j→j<l.length→l.getD i 0<l.getD j 0) (tok:Tks) (nt:Nat) :
  DCall Tryz.prog 188 [.d (ints l),I v] tok nt (.tup [I (lowI l v),B (decide (v∈l))]) tok nt:=by
 intro box nb;refine sI Tryz.func188 Tryz.ntmps188 fun hbox htok=>?_
 repeat (first|simp|refine sR ?_)
 refine sN ?_;refine AL.loopT (stBs l v nb box tok nt) (fun a=>a.i≤a.j∧a.j≤l.length∧(∀ t,t<a.i→l.getD t 0<v)∧∀ t,a.j≤t→t<l.length→v≤l.getD t 0) (fun a=>a.j - a.i) ⟨0,l.length⟩ ⟨Nat.zero_le _,Nat.le_refl _,fun t ht=>absurd ht (Nat.not_lt_zero _),fun t h1 h2=>absurd h2 (by simp only at h1; omega)⟩ (Weaks.mk (Nat.le_refl _) rfl (by simp [ToL,lk]) trivial) ?_;rintro ⟨i,j⟩ S ⟨hij,hj,h1,h2⟩ hS;simp only [stBs] at hS hij hj h1 h2;subst hS;repeat (first|simp|refine sR ?_|refine sC ?_)
 refine ⟨fun hlt=>?_,fun hge=>?_⟩
 ·obtain ⟨q,hq⟩:∃ q,i+j=q:=⟨_,rfl⟩
  obtain ⟨h,hh⟩:∃ h,q / 2=h:=⟨_,rfl⟩
  have w1:IntKind.i64.wrap (↑i+↑j)=(q:Int):=by rw [wrap_in (by omega) (by omega)]; omega
  have w2:IntKind.u64.wrap (q:Int)=q:=u64_in (by omega) (by omega)
  have w3:(q:Int).fdiv (2 ^ min 1 IntKind.u64.bits)=(h:Int):=by
   have e:(2:Int) ^ min 1 IntKind.u64.bits=2:=by decide
   rw [e,Int.fdiv_eq_ediv_of_nonneg _ (by omega)];omega
  have w4:IntKind.i64.wrap (h:Int)=h:=wrap_in (by omega) (by omega)
  have w5:IntKind.i64.wrap ((h:Int)+1)=((h+1:Nat):Int):=by rw [wrap_in (by omega) (by omega)]; rfl
  have hhl:h<l.length:=by omega
  have hgh:l.getD h 0=l[h]:=by simp [hhl]
  have hls:=less_c l[h] v;repeat (first|simp [w1,w2,w3,w4,hhl]|refine sR ?_)
  refine Stop.of_d (hls _ _) ?_;simp;by_cases hv:l[h]<v
  ·simp only [hv];refine sC ?_;simp;repeat (first|simp [w5]|refine sR ?_)
   refine sE ?_;refine ⟨⟨h+1,j⟩,⟨by simp only; omega,hj,fun t ht=>?_,h2⟩,by simp only; omega,Weaks.mk (Nat.le_refl _) rfl (by simp [ToL,lk]) trivial⟩;simp only at ht;rw [←List.getD_eq_getElem?_getD];by_cases e:t=h
   ·rw [e,hgh]; exact hv
   ·have:=hs h t (by omega) hhl
    rw [hgh] at this;omega
  ·simp only [hv];refine sC ?_;repeat (first|simp|refine sR ?_)
   refine sE ?_;refine ⟨⟨i,h⟩,⟨by simp only; omega,by simp only; omega,h1,fun t ht htl=>?_⟩,by simp only; omega,Weaks.mk (Nat.le_refl _) rfl (by simp [ToL,lk]) trivial⟩;simp only at ht;rw [←List.getD_eq_getElem?_getD];by_cases e:t=h
   ·rw [e,hgh]; omega
   ·have:=hs t h (by omega) htl
    rw [hgh] at this;omega
 ·refine sX ?_;simp only [AU, ↓reduceIte];have hij2:i=j:=by omega
  subst hij2;have hlow:lowI l v=i:=lowI_eq hj h1 h2
  have hmem:i<l.length→l.getD i 0=v→v∈l:=fun h3 h4=>by rw [←h4]; exact getD_mem h3
  have hin:v∈l→i<l.length∧l.getD i 0=v:=fun hm=>by
   obtain ⟨t,ht,e⟩:=mem_getD hm;have a1:¬ t<i:=fun h3=>by have:=h1 t h3; omega
   have a2:¬ i<t:=fun h3=>by
    have:=hs t i h3 ht
    have:=h2 i (Nat.le_refl _) (by omega)
    omega
   have:t=i:=by omega
   subst this;exact ⟨ht,e⟩
  by_cases h3:i<l.length
  ·have hg:l.getD i 0=l[i]:=by simp [h3]
   rw [hg] at hmem hin;by_cases h4:l[i]=v
   ·have hm:=hmem h3 h4;have hb:(l[i]==v)=true:=by simp [h4]
    repeat (first|simp [h3,hb]|refine sR ?_)
    refine sT (sH hbox htok ?_);simp [packA,hlow,hm]
   ·have hm:v∉l:=fun h=>h4 (hin h).2
    have hb:(l[i]==v)=false:=by simp [h4]
    repeat (first|simp [h3,hb]|refine sR ?_)
    refine Stop.of_d (isNaNs_c _ _ _) ?_;repeat (first|simp|refine sR ?_)
    refine sT (sH hbox htok ?_);simp [packA,hlow,hm]
  ·have hm:v∉l:=fun h=>h3 (hin h).1
   repeat (first|simp [h3]|refine sR ?_)
   refine sT (sH hbox htok ?_);simp [packA,hlow,hm]
def stLi (l:List Int) (n:Int) (nb:Nat) (box:Bxs) (tok:Tks) (nt:Nat) (i:Nat):AState:=⟨tl [(9,I i),(8,I l.length),(7,.d (ints l)),(4,I 0),(0,.d (ints l)),(1,I n)],lb nb box [],tok,nt⟩
theorem list_c (l:List Int) (n:Int) (hl:l.length≤1000000) (tok:Tks) (nt:Nat):DCall Tryz.prog 262 [.d (ints l),I n] tok nt (I (ascE l n)) tok nt:=by
 intro box nb;refine sI Tryz.func262 Tryz.ntmps262 fun hbox htok=>?_
 repeat (first|simp|refine sR ?_)
 refine sN ?_;refine AL.loopT (stLi l n nb box tok nt) (fun i=>i≤l.length∧firstE (ascAt l n) i=0) (fun i=>l.length - i) 0 ⟨Nat.zero_le _,rfl⟩ (Weaks.mk (Nat.le_refl _) rfl (by simp [ToL,lk]) trivial) ?_;rintro i S ⟨hi,hok⟩ hS;simp only [stLi] at hS;subst hS;have hw:=sW (i:=i) (by omega);have hR:i<l.length→ascAt l n i≠0→ascE l n=ascAt l n i:=fun hlt h0=>firstE_stop hok h0 l.length hlt
 repeat (first|simp|refine sR ?_|refine sC ?_)
 refine ⟨fun hlt=>?_,fun hge=>?_⟩
 ·have hg:l.getD i 0=l[i]:=by simp [hlt]
  have hR:=hR hlt;have hA:ascAt l n i=if l[i]<0∨n≤l[i] then 6 else if 0<i∧l[i]≤l.getD (i - 1) 0 then 12 else 0:=by rw [ascAt,hg]
  by_cases hneg:l[i]<0
  ·repeat (first|simp [hneg,hlt]|refine sR ?_)
   refine sC ?_;repeat (first|simp|refine sR ?_)
   rw [hA,if_pos (.inl hneg)] at hR;have hR:=hR (by decide);refine sT (sH hbox htok ?_);simp [packA,hR]
  ·by_cases hbig:n≤l[i]
   ·repeat (first|simp [hneg,hlt,hbig]|refine sR ?_)
    refine sC ?_;repeat (first|simp|refine sR ?_)
    rw [hA,if_pos (.inr hbig)] at hR;have hR:=hR (by decide);refine sT (sH hbox htok ?_);simp [packA,hR]
   ·rw [if_neg (by omega)] at hA;repeat (first|simp [hneg,hlt,hbig]|refine sR ?_)
    refine sC ?_
    repeat (first|simp [hneg,hlt,hbig]|refine sR ?_)
    by_cases h0:0<i
    ·have hw':IntKind.i64.wrap (↑i - 1)=((i - 1:Nat):Int):=by rw [wrap_in (by omega) (by omega)]; omega
     have hlt':i - 1<l.length:=by omega
     have hg':l.getD (i - 1) 0=l[i - 1]:=by simp [hlt']
     rw [hg'] at hA;repeat (first|simp [hlt,h0,hw',hlt']|refine sR ?_)
     by_cases hle:l[i]≤l[i - 1]
     ·rw [if_pos ⟨h0,hle⟩] at hA;rw [hA] at hR;have hR:=hR (by decide);simp only [hle];refine sC ?_;repeat (first|simp|refine sR ?_)
      refine sT (sH hbox htok ?_);simp [packA,hR]
     ·rw [if_neg (by omega)] at hA;simp only [hle];refine sC ?_;simp;repeat (first|simp [hw]|refine sR ?_)
      refine sE ?_;exact ⟨i+1,⟨hlt,by simp only [firstE,hok,hA, ↓reduceIte]⟩,by omega,Weaks.mk (Nat.le_refl _) rfl (by simp [ToL,lk]) trivial⟩
    ·rw [if_neg (by omega)] at hA;repeat (first|simp [hlt,h0]|refine sR ?_)
     refine sC ?_;simp;repeat (first|simp [hw]|refine sR ?_)
     refine sE ?_;exact ⟨i+1,⟨hlt,by simp only [firstE,hok,hA, ↓reduceIte]⟩,by omega,Weaks.mk (Nat.le_refl _) rfl (by simp [ToL,lk]) trivial⟩
 ·refine sX ?_;simp only [AU, ↓reduceIte];repeat (first|simp|refine sR ?_)
  have:i=l.length:=by omega
  subst this;refine sT (sH hbox htok ?_);simp [packA,ascE,hok]
theorem has_c (l:List Int) (v:Int) (hl:l.length≤1000000) (hs:∀ j i,i<j→j<l.length→l.getD i 0<l.getD j 0) (tok:Tks) (nt:Nat):DCall Tryz.prog 263 [.d (ints l),I v] tok nt (B (decide (v∈l))) tok nt:=by
 intro box nb;have h:=search_c l v hl hs;refine sI Tryz.func263 Tryz.ntmps263 fun hbox htok=>?_
 repeat (first|simp|refine sR ?_)
 refine Stop.of_d (h _ _) ?_;repeat (first|simp|refine sR ?_)
 refine sT (sH hbox htok ?_);simp [packA]
def stPr (g:Gr) (p:Mo) (nb:Nat) (box:Bxs) (tok:Tks) (nt:Nat) (i:Nat):AState :=
 ⟨tl [(30,I i),(29,I p.edges.length),(28,.d (ints p.edges)),(3,.ptr (nb+3) 0 0),(2,.ptr (nb+2) 0 0)],lb nb box [(3,[[.d (ints p.nodes),.d (ints p.edges)]]),(2,[[.d (ints g.nodes),.d (AM.edges g.edges)]])],tok,nt⟩
theorem part_c (g:Gr) (p:Mo) (hg:g.Fit) (hv:validG g=0) (hp:p.Fit) (tok:Tks) (nt:Nat):DCall Tryz.prog 216 [g.av,p.av] tok nt (I (rightP g p)) tok nt:=by
 intro box nb;have h1:=list_c p.nodes g.nodes.length hp.n;have h2:=list_c p.edges g.edges.length hp.e;refine sI Tryz.func216 Tryz.ntmps216 fun hbox htok=>?_
 repeat (first|simp|refine sR ?_)
 refine Stop.of_d (h1 _ _) ?_;repeat (first|simp|refine sR ?_)
 by_cases e1:ascE p.nodes g.nodes.length=0
 ·simp only [e1];refine sC ?_;repeat (first|simp|refine sR ?_)
  refine Stop.of_d (h2 _ _) ?_;repeat (first|simp|refine sR ?_)
  by_cases e2:ascE p.edges g.edges.length=0
  ·simp only [e2];refine sC ?_;repeat (first|simp|refine sR ?_)
   refine sN ?_;have re:=asc_rng e2;refine AL.loopT (stPr g p nb box tok nt) (fun i=>i≤p.edges.length∧firstE (dangAt g p) i=0) (fun i=>p.edges.length - i) 0 ⟨Nat.zero_le _,rfl⟩ wkA ?_;rintro i S ⟨hi,hok⟩ hS;simp only [stPr] at hS;subst hS;have hpe:=hp.e;have hw:=sW (i:=i) (by omega);have hR:i<p.edges.length→dangAt g p i≠0→rightP g p=dangAt g p i:=fun hlt h0=>by
    have:=firstE_stop hok h0 p.edges.length hlt
    simp [rightP,e1,e2,this]
   repeat (first|simp|refine sR ?_|refine sC ?_)
   refine ⟨fun hlt=>?_,fun hge=>?_⟩
   ·have hR:=hR hlt;obtain ⟨r1,r2⟩:=re _ (List.getElem_mem hlt);have r3:p.edges[i].toNat<g.edges.length:=by omega
    have hD:dangAt g p i=if g.edges[p.edges[i].toNat].fr∈p.nodes∧g.edges[p.edges[i].toNat].to∈p.nodes then 0 else 14:=by
     have q1:p.edges.getD i 0=p.edges[i]:=by simp [hlt]
     have q2:g.edges.getD p.edges[i].toNat default=g.edges[p.edges[i].toNat]:=by simp [r3]
     rw [dangAt,q1,q2]
    have hh:=fun v=>has_c p.nodes v hp.n (asc_lt e1)
    repeat (first|simp [hlt,r1,r2,r3]|refine sR ?_)
    refine Stop.of_d (hh _ _ _) ?_;simp;by_cases h1:g.edges[p.edges[i].toNat].fr∈p.nodes
    ·simp only [h1];repeat (first|simp [hlt,r1,r2,r3]|refine sR ?_)
     refine Stop.of_d (hh _ _ _) ?_;simp;by_cases h2:g.edges[p.edges[i].toNat].to∈p.nodes
     ·rw [if_pos ⟨h1,h2⟩] at hD;simp only [h2];repeat (first|simp [hw]|refine sR ?_|refine sC ?_)
      refine sE ?_;exact ⟨i+1,⟨hlt,by simp only [firstE,hok,hD, ↓reduceIte]⟩,by omega,wkA⟩
     ·rw [if_neg (fun h=>h2 h.2)] at hD;rw [hD] at hR;have hR:=hR (by decide);simp only [h2];repeat (first|simp|refine sR ?_)
      refine sC ?_;repeat (first|simp|refine sR ?_)
      refine sT (sH hbox htok ?_);simp [packA,hR]
    ·rw [if_neg (fun h=>h1 h.1)] at hD;rw [hD] at hR;have hR:=hR (by decide);simp only [h1];repeat (first|simp|refine sR ?_)
     refine sC ?_;repeat (first|simp|refine sR ?_)
     refine sT (sH hbox htok ?_);simp [packA,hR]
   ·refine sX ?_;simp only [AU, ↓reduceIte];repeat (first|simp|refine sR ?_)
    have:i=p.edges.length:=by omega
    subst this;refine sT (sH hbox htok ?_);simp [packA,rightP,e1,e2,hok]
  ·have b2:(ascE p.edges g.edges.length !=0)=true:=by simp [e2]
   simp only [b2];refine sC ?_;repeat (first|simp|refine sR ?_)
   refine sT (sH hbox htok ?_);simp [packA,rightP,e1,e2]
 ·have b1:(ascE p.nodes g.nodes.length !=0)=true:=by simp [e1]
  simp only [b1];refine sC ?_;repeat (first|simp|refine sR ?_)
  refine sT (sH hbox htok ?_);simp [packA,rightP,e1]
theorem validP_c (g:Gr) (p:Mo) (hg:g.Fit) (hp:p.Fit) (tok:Tks) (nt:Nat):DCall Tryz.prog 153 [g.av,p.av] tok nt (I (validP g p)) tok nt:=by
 intro box nb;have h1:=graphValid_c g hg;have h2:=fun h=>part_c g p hg h hp
 refine sI Tryz.func153 Tryz.ntmps153 fun hbox htok=>?_
 repeat (first|simp|refine sR ?_)
 refine Stop.of_d (h1 _ _) ?_;repeat (first|simp|refine sR ?_)
 by_cases e1:validG g=0
 ·simp only [e1];refine sC ?_;repeat (first|simp|refine sR ?_)
  refine Stop.of_d (h2 e1 _ _) ?_;repeat (first|simp|refine sR ?_)
  refine sT (sH hbox htok ?_);simp [packA,validP,e1]
 ·have b1:(validG g !=0)=true:=by simp [e1]
  simp only [b1];refine sC ?_;repeat (first|simp|refine sR ?_)
  refine sT (sH hbox htok ?_);simp [packA,validP,e1]
def stPx1 (g:Gr) (p:Mo) (nb:Nat) (box:Bxs) (x:Acc):AState :=
 ⟨tl [(25,I x.i),(24,I p.nodes.length),(23,.d (ints p.nodes)),(8,.ptr (nb+8) 0 0),(5,.ptr (nb+5) 0 0),(4,.ptr (nb+4) 0 0),(3,.ptr (nb+3) 0 0),(2,.ptr (nb+2) 0 0)],
  lb nb box [(8,[[.osl 1 (rI (exN07 g p x.i)) x.own,.osl 0 [] .full]]),(3,[[.d (ints p.nodes),.d (ints p.edges)]]),(2,[[.d (ints g.nodes),.d (AM.edges g.edges)]]),(5,[[nilS,nilS]]),(4,[[nilS,nilS]])],x.tok,x.nt⟩
def stPx2 (g:Gr) (p:Mo) (own1:Own) (nb:Nat) (box:Bxs) (x:Acc):AState :=
 ⟨tl [(43,I x.i),(42,I p.edges.length),(41,.d (ints p.edges)),(8,.ptr (nb+8) 0 0),(5,.ptr (nb+5) 0 0),(4,.ptr (nb+4) 0 0),(3,.ptr (nb+3) 0 0),(2,.ptr (nb+2) 0 0)],
  lb nb box [(8,[[.d (ints (exN07 g p p.nodes.length)),.osl 3 (rE (exE07 g p x.i)) x.own]]),(3,[[.d (ints p.nodes),.d (ints p.edges)]]),(2,[[.d (ints g.nodes),.d (AM.edges g.edges)]]),(5,[[nilS,nilS]]),(4,[[nilS,nilS]])],x.tok,x.nt⟩
theorem extractP_c (g:Gr) (p:Mo) (hg:g.Fit) (hp:p.Fit) (h:VP g p) (tok:Tks) (nt:Nat):DCall Tryz.prog 114 [g.av,p.av] tok nt (.tup [(exG g p).av,p.av,I 0]) tok nt:=by
 intro box nb;have h1:=validP_c g p hg hp;rw [h.v] at h1;refine sI Tryz.func114 Tryz.ntmps114 fun hbox htok=>?_
 repeat (first|simp|refine sR ?_)
 refine Stop.of_d (h1 _ _) ?_;repeat (first|simp|refine sR ?_)
 refine sC ?_;repeat (first|simp|refine sR ?_)
 refine sN ?_;have hpn:=hp.n;have hpe:=hp.e;refine AL.loopT (stPx1 g p nb box) (fun x=>x.i≤p.nodes.length∧TK tok nt x.tok x.nt [x.own]) (fun x=>p.nodes.length - x.i) ⟨0,.full,tok,nt⟩ ⟨Nat.zero_le _,(TK.start htok).full⟩ (Weaks.mk (Nat.le_refl _) rfl (by simp [ToL,lk]) (by simp [BoxL,lk,exN07_zero])) ?_;rintro ⟨i,own,tok',nt'⟩ S ⟨hi,htk⟩ hS;simp only [stPx1] at hS hi htk;subst hS;have hw:=sW (i:=i) (by omega);repeat (first|simp|refine sR ?_|refine sC ?_)
 refine ⟨fun hlt=>?_,fun hge=>?_⟩
 ·obtain ⟨r1,r2⟩:=h.n _ (List.getElem_mem hlt);have r3:p.nodes[i].toNat<g.nodes.length:=by omega
  repeat (first|simp [hlt,r1,r2,r3]|refine sR ?_)
  refine ⟨⟨by have:=exN07_len g p i; omega,htk.live⟩,?_⟩;repeat (first|simp [hw]|refine sR ?_)
  refine sE ?_;exact ⟨⟨i+1,_,_,_⟩,⟨hlt,htk.app⟩,by simp only; omega,Weaks.mk htk.app.le rfl (by simp [ToL,lk]) (by simp [BoxL,lk,exN07_succ g p hlt,r3])⟩
 ·refine sX ?_;simp only [AU, ↓reduceIte];have:i=p.nodes.length:=by omega
  subst this;repeat (first|simp|refine sR ?_)
  refine sN ?_;refine AL.loopT (stPx2 g p own nb box) (fun x=>x.i≤p.edges.length∧TK tok nt x.tok x.nt [x.own]) (fun x=>p.edges.length - x.i) ⟨0,.full,tok',nt'⟩ ⟨Nat.zero_le _,htk.tail.full⟩ (Weaks.mk htk.le rfl (by simp [ToL,lk]) (by simp [BoxL,lk,exE07_zero])) ?_;rintro ⟨i,own2,tok2,nt2⟩ S ⟨hi,htk2⟩ hS;simp only [stPx2] at hS hi htk2;subst hS;have hw:=sW (i:=i) (by omega);have hh:=fun v=>search_c p.nodes v hp.n h.sn
  repeat (first|simp|refine sR ?_|refine sC ?_)
  refine ⟨fun hlt=>?_,fun hge=>?_⟩
  ·obtain ⟨r1,r2⟩:=h.e _ (List.getElem_mem hlt);have r3:p.edges[i].toNat<g.edges.length:=by omega
   have hE:exE1 g p p.edges[i]=⟨g.edges[p.edges[i].toNat].ty,indexI p.nodes g.edges[p.edges[i].toNat].fr,indexI p.nodes g.edges[p.edges[i].toNat].to⟩:=by
    have q2:g.edges.getD p.edges[i].toNat default=g.edges[p.edges[i].toNat]:=by simp [r3]
    rw [exE1,q2]
   have hsucc:=exE07_succ g p hlt;rw [hE] at hsucc;have hcc:=h.c _ (List.getElem_mem hlt);have q3:g.edges.getD p.edges[i].toNat default=g.edges[p.edges[i].toNat]:=by simp [r3]
   rw [q3] at hcc;have hh1:=hh g.edges[p.edges[i].toNat].fr;have hh2:=hh g.edges[p.edges[i].toNat].to;rw [lowI_index h.sn hcc.1] at hh1;rw [lowI_index h.sn hcc.2] at hh2;refine sR ?_;simp [hlt];refine sR ?_;simp [r1,r2,r3];generalize g.edges[p.edges[i].toNat]=x at *;repeat (first|simp|refine sR ?_)
   refine Stop.of_d (hh1 _ _) ?_;repeat (first|simp|refine sR ?_)
   refine Stop.of_d (hh2 _ _) ?_;repeat (first|simp|refine sR ?_)
   refine ⟨⟨by have:=exE07_len g p i; omega,htk2.live⟩,?_⟩;repeat (first|simp [hw]|refine sR ?_)
   refine sE ?_;exact ⟨⟨i+1,_,_,_⟩,⟨hlt,htk2.app⟩,by simp only; omega,Weaks.mk htk2.app.le rfl (by simp [ToL,lk]) (by simp [BoxL,lk,hsucc])⟩
  ·refine sX ?_;simp only [AU, ↓reduceIte];have:i=p.edges.length:=by omega
   subst this;have c1:=clone_c p.nodes hp.n;have c2:=clone_c p.edges hp.e;repeat (first|simp|refine sR ?_)
   refine Stop.of_d (c1 _ _) ?_;repeat (first|simp|refine sR ?_)
   refine Stop.of_d (c2 _ _) ?_;simp;have htk3:=htk2.full.app.full.app;repeat (first|simp|refine sR ?_)
   refine sT (sG hbox htok htk3.old htk3.le ?_);simp [packA,exG_07]
structure At where
 name:ByteArray
 lo:Int
 hi:Int
 names:List ByteArray
structure NT where
 name:ByteArray
 par:Int
 abs:Bool
 own:List At
structure ET where
 name:ByteArray
 fr:Int
 to:Int
 ol:Int
 oh:Int
 il:Int
 ih:Int
structure Ty where
 nodes:List NT
 edges:List ET
abbrev At.cells (a:At):List D:=[.raw (.string a.name),.raw (.int .i64 a.lo),.raw (.int .i64 a.hi),strs a.names]
abbrev atts (l:List At):D:=.sl 4 (l.map At.cells)
abbrev NT.cells (n:NT):List D:=[.raw (.string n.name),.raw (.int .i64 n.par),.raw (.bool n.abs),atts n.own]
abbrev ET.cells (e:ET):List D:=[.raw (.string e.name),.raw (.int .i64 e.fr),.raw (.int .i64 e.to),.raw (.int .i64 e.ol),.raw (.int .i64 e.oh),.raw (.int .i64 e.il),.raw (.int .i64 e.ih)]
abbrev nts (l:List NT):D:=.sl 4 (l.map NT.cells)
abbrev ets (l:List ET):D:=.sl 7 (l.map ET.cells)
abbrev Ty.av (t:Ty):AV:=.agg [.d (nts t.nodes),.d (ets t.edges)]
instance:Inhabited ByteArray:=⟨⟨#[]⟩⟩
abbrev eB:ByteArray:=⟨#[]⟩
def nmsAt (l:List ByteArray) (i:Nat):Int:=if nameB (l.getD i eB)=false then 2 else if memS (l.take i) (l.getD i eB)=true then 5 else 0
def nmsE (l:List ByteArray):Int:=if 20<l.length then 3 else firstE (nmsAt l) l.length
structure NmFit (l:List ByteArray):Prop where
 n:l.length≤1000000
 s:∀ x∈l,x.size≤1000000000000
theorem strs_take (l:List ByteArray) (i:Nat):strs (l.take i)=.sl 1 (List.take i (l.map fun s=>[D.raw (.string s)])):=by rw [strs,List.map_take]
theorem memS_more {l:List ByteArray} {i:Nat} {v:ByteArray} (hi:i<l.length) (h:memS (l.take i) v=false) (hne:v≠l[i]):memS (l.take (i+1)) v=false:=by
 rw [←Bool.not_eq_true,memS_iff] at h ⊢;rw [List.take_succ_eq_append_getElem hi,List.mem_append,List.mem_singleton];exact fun h2=>h2.elim h hne
theorem memS_hit {l:List ByteArray} {k i:Nat} (hk:k<l.length) (hki:k<i):memS (l.take i) l[k]=true:=memS_iff.2 (by rw [List.mem_take_iff_getElem]; exact ⟨k,by omega,rfl⟩)
def stNm4 (l:List ByteArray) (nb:Nat) (box:Bxs) (tok:Tks) (nt:Nat) (i:Nat):AState:=⟨tl [(3,I i),(0,.d (strs l))],lb nb box [],tok,nt⟩
def stNm5 (l:List ByteArray) (i:Nat) (nb:Nat) (box:Bxs) (tok:Tks) (nt:Nat) (k:Nat):AState:=⟨tl [(4,I k),(3,I i),(0,.d (strs l))],lb nb box [],tok,nt⟩
def stNm (l:List ByteArray) (nb:Nat) (box:Bxs) (tok:Tks) (nt:Nat) (i:Nat):AState:=⟨tl [(10,I i),(9,I l.length),(8,.d (strs l)),(0,.d (strs l))],lb nb box [],tok,nt⟩
theorem names_c (l:List ByteArray) (hl:NmFit l) (tok:Tks) (nt:Nat):DCall Tryz.prog 274 [.d (strs l)] tok nt (I (nmsE l)) tok nt:=by
 intro box nb;have hln:=hl.n;by_cases h20:20<l.length
 ·have h20':(20:Int)<l.length:=by omega
  rw [show nmsE l=3 from if_pos h20];refine sI Tryz.func274 Tryz.ntmps274 fun hbox htok=>?_
  repeat (first|simp [h20']|refine sR ?_)
  refine sC ?_;repeat (first|simp|refine sR ?_)
  refine sT (sH hbox htok ?_);simp [packA]
 ·have h20':¬ (20:Int)<l.length:=by omega
  have hE:nmsE l=firstE (nmsAt l) l.length:=if_neg h20
  refine sI Tryz.func274 Tryz.ntmps274 fun hbox htok=>?_
  repeat (first|simp [h20']|refine sR ?_)
  refine sC ?_;repeat (first|simp|refine sR ?_)
  refine sN ?_;refine AL.loopT (stNm l nb box tok nt) (fun i=>i≤l.length∧firstE (nmsAt l) i=0) (fun i=>l.length - i) 0 ⟨Nat.zero_le _,rfl⟩ (Weaks.mk (Nat.le_refl _) rfl (by simp [ToL,lk]) trivial) ?_;rintro i S' ⟨hi,hok⟩ hS;simp only [stNm] at hS;subst hS;have hw:=sW (i:=i) (by omega);have hR:i<l.length→nmsAt l i≠0→firstE (nmsAt l) l.length=nmsAt l i:=fun hlt h0=>firstE_stop hok h0 l.length hlt
  repeat (first|simp|refine sR ?_|refine sC ?_)
  refine ⟨fun hlt=>?_,fun hge=>?_⟩
  ·have hg:l.getD i eB=l[i]:=by simp [hlt]
   have hA:nmsAt l i=if nameB l[i]=false then 2 else if memS (l.take i) l[i]=true then 5 else 0:=by rw [nmsAt,hg]
   have hn:=isName_c l[i] (Nat.le_trans (hl.s _ (List.getElem_mem hlt)) (by decide));have hc:=containsS_c (l.take i) l[i] (by simp; omega);have hR:=hR hlt;repeat (first|simp [hlt,strs_at hlt]|refine sR ?_)
   refine Stop.of_d (hn _ _) ?_;simp;cases e1:nameB l[i]
   ·rw [e1,if_pos rfl] at hA;rw [hA] at hR;have hR:=hR (by decide);repeat (first|simp|refine sR ?_)
    refine sC ?_;repeat (first|simp|refine sR ?_)
    refine sT (sH hbox htok ?_);simp [packA,hE,hR]
   ·rw [e1,if_neg (by simp)] at hA;repeat (first|simp|refine sR ?_)
    refine sC ?_;repeat (first|simp|refine sR ?_)
    refine ⟨by omega,?_⟩;rw [strs_take] at hc;refine Stop.of_d (hc _ _) ?_;simp;cases e2:memS (l.take i) l[i]
    ·rw [e2,if_neg (by simp)] at hA;repeat (first|simp [hw]|refine sR ?_|refine sC ?_)
     refine sE ?_;exact ⟨i+1,⟨hlt,by simp only [firstE,hok,hA, ↓reduceIte]⟩,by omega,Weaks.mk (Nat.le_refl _) rfl (by simp [ToL,lk]) trivial⟩
    ·rw [e2,if_pos rfl] at hA;rw [hA] at hR;have hR:=hR (by decide);repeat (first|simp|refine sR ?_)
     refine sC ?_;repeat (first|simp|refine sR ?_)
     refine sT (sH hbox htok ?_);simp [packA,hE,hR]
  ·refine sX ?_;simp only [AU, ↓reduceIte];repeat (first|simp|refine sR ?_)
   have:i=l.length:=by omega
   subst this;refine sT (sH hbox htok ?_);simp [packA,hE,hok]
theorem names04_c (l:List ByteArray) (hl:NmFit l) (tok:Tks) (nt:Nat):DCall Tryz.prog 280 [.d (strs l)] tok nt (I (nmsE l)) tok nt:=by
 intro box nb;have hln:=hl.n;by_cases h20:20<l.length
 ·have h20':(20:Int)<l.length:=by omega
  rw [show nmsE l=3 from if_pos h20];refine sI Tryz.func280 Tryz.ntmps280 fun hbox htok=>?_
  repeat (first|simp [h20']|refine sR ?_)
  refine sC ?_;repeat (first|simp|refine sR ?_)
  refine sT (sH hbox htok ?_);simp [packA]
 ·have h20':¬ (20:Int)<l.length:=by omega
  have hE:nmsE l=firstE (nmsAt l) l.length:=if_neg h20
  refine sI Tryz.func280 Tryz.ntmps280 fun hbox htok=>?_
  repeat (first|simp [h20']|refine sR ?_)
  refine sC ?_;repeat (first|simp|refine sR ?_)
  refine sN ?_;refine AL.loopT (stNm4 l nb box tok nt) (fun i=>i≤l.length∧firstE (nmsAt l) i=0) (fun i=>l.length - i) 0 ⟨Nat.zero_le _,rfl⟩ (Weaks.mk (Nat.le_refl _) rfl (by simp [ToL,lk]) trivial) ?_;rintro i S' ⟨hi,hok⟩ hS;simp only [stNm4] at hS;subst hS;have hw:=sW (i:=i) (by omega);have hR:i<l.length→nmsAt l i≠0→firstE (nmsAt l) l.length=nmsAt l i:=fun hlt h0=>firstE_stop hok h0 l.length hlt
  repeat (first|simp|refine sR ?_|refine sC ?_)
  refine ⟨fun hlt=>?_,fun hge=>?_⟩
  ·have hg:l.getD i eB=l[i]:=by simp [hlt]
   have hA:nmsAt l i=if nameB l[i]=false then 2 else if memS (l.take i) l[i]=true then 5 else 0:=by rw [nmsAt,hg]
   have hn:=isName01_c l[i] (Nat.le_trans (hl.s _ (List.getElem_mem hlt)) (by decide));have hR:=hR hlt;repeat (first|simp [hlt,strs_at hlt]|refine sR ?_)
   refine Stop.of_d (hn _ _) ?_;simp;cases e1:nameB l[i]
   ·rw [e1,if_pos rfl] at hA;rw [hA] at hR;have hR:=hR (by decide);repeat (first|simp|refine sR ?_)
    refine sC ?_;repeat (first|simp|refine sR ?_)
    refine sT (sH hbox htok ?_);simp [packA,hE,hR]
   ·rw [e1,if_neg (by simp)] at hA;repeat (first|simp|refine sR ?_)
    refine sC ?_;repeat (first|simp|refine sR ?_)
    refine sN ?_;refine AL.loopT (stNm5 l i nb box tok nt) (fun k=>k≤i∧memS (l.take k) l[i]=false) (fun k=>i - k) 0 ⟨Nat.zero_le _,rfl⟩ (Weaks.mk (Nat.le_refl _) rfl (by simp [ToL,lk]) trivial) ?_;rintro k S' ⟨hk,hm⟩ hS;simp only [stNm5] at hS;subst hS;have hwk:=sW (i:=k) (by omega);repeat (first|simp|refine sR ?_|refine sC ?_)
    refine ⟨fun hlk=>?_,fun hge=>?_⟩
    ·have hkl:k<l.length:=by omega
     by_cases e2:l[k]=l[i]
     ·have b2:(l[k].toList==l[i].toList)=true:=by rw [seq_dec]; simp [e2]
      have hmm:=memS_hit hkl hlk;rw [e2] at hmm;rw [if_pos hmm] at hA;rw [hA] at hR;have hR:=hR (by decide);repeat (first|simp [hlt,hkl,b2]|refine sR ?_)
      refine sC ?_;repeat (first|simp|refine sR ?_)
      refine sT (sH hbox htok ?_);simp [packA,hE,hR]
     ·have b2:(l[k].toList==l[i].toList)=false:=by rw [seq_dec]; simp [e2]
      repeat (first|simp [hlt,hkl,b2]|refine sR ?_)
      refine sC ?_;simp;repeat (first|simp [hwk]|refine sR ?_)
      refine sE ?_;exact ⟨k+1,⟨hlk,memS_more hkl hm fun h=>e2 h.symm⟩,by omega,Weaks.mk (Nat.le_refl _) rfl (by simp [ToL,lk]) trivial⟩
    ·refine sX ?_;simp only [AU, ↓reduceIte];have:k=i:=by omega
     subst this;rw [if_neg (by simp [hm])] at hA;repeat (first|simp [hw]|refine sR ?_)
     refine sE ?_;exact ⟨k+1,⟨hlt,by simp only [firstE,hok,hA, ↓reduceIte]⟩,by omega,Weaks.mk (Nat.le_refl _) rfl (by simp [ToL,lk]) trivial⟩
  ·refine sX ?_;simp only [AU, ↓reduceIte];repeat (first|simp|refine sR ?_)
   have:i=l.length:=by omega
   subst this;refine sT (sH hbox htok ?_);simp [packA,hE,hok]
end Go.AM
